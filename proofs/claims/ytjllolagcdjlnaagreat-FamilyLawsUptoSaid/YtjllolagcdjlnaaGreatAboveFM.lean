/-
  All that are above a name, by the program's store. The conditions: the store lies in memory as it should.
-/
import Derived.Test.YtjllolagcdjlnaaGreatGj
import Derived.Test.YtjllolagcdjlnaaGreatKeysPM
import Derived.RangeFuncBox
namespace Go.Proofs.YtjllolagcdjlnaaGreat
open Go.RowKit Go.Shelf Go.Maps

attribute [local go_sem] Oper.semAt_some

section
variable {F : Fence} {n : Nat} {P : Program} {ops : Array Oper} {rest : List Oper} {o : Oper} {a : Act} {w : World} {Q : Exit → Act → World → Prop}
theorem wpListIn_append_at (hgd : o.guard = none) (s x : Operand) (t : TypeId) (ho : o.op = .call { callee := .builtin .append, args := #[s, x], argTypes := #[t, t] })
    (base : Nat) (e : TypeId) (i : TypeInfo) (z : Value) (size bytes : Nat) (ht : P.underlying t = some (.slice e)) (hi : P.info? e = some i) (hz : i.zero = some z)
    (hsize : i.size = size) (hby : i.bytes = bytes) (hzs : z.cells.size = size) (hsz : 0 < size)
    (v : Value) (k : Nat) (xs : List Value) (hs : a.eval s = v) (hown : w.ownsRow base e size v k xs)
    (b of m c : Nat) (news : List Value) (hx : a.eval x = .slice (some ⟨b, of, none⟩) m c) (hl : news.length = m * size) (hnews : CellsAt w b of news) (h1 : ∀ u ∈ news, u.oneCell' = true)
    (h63 : k + m ≤ maxLen) (hbytes : (k + m) * bytes ≤ 140737488355328) (hbase : base ≤ w.heap.size)
    (h : ∀ v' w', w'.ownsRow base e size v' (k + m) (xs ++ news) → GrownBy w w' v.ownBlock → wpListIn F n P ops Q rest (a.put o.dst v') w') : wpListIn F n P ops Q (o :: rest) a w := by
  obtain ⟨v', w', hrun, h2, h3, _⟩ := exec_append_at (P := P) (o := o) (a := a) s x t ho base e i z size bytes ht hi hz hsize hby hzs hsz v k xs hs hown b of m c news hx hl hnews h1 h63 hbytes hbase
  exact wpListIn_value hgd (by rw [ho]; intro c hc; cases hc) (by simp [Oper.about, ho, resolve, Target.leads, Sem.run_pure]) hrun (h v' w' h2 h3)
end
theorem heap3 (w : World) (o0 o1 o2 : Obj) : (((w.alloc o0).alloc o1).alloc o2).heap[w.heap.size]? = some o0 ∧ (((w.alloc o0).alloc o1).alloc o2).heap[w.heap.size + 1]? = some o1 ∧ (((w.alloc o0).alloc o1).alloc o2).heap[w.heap.size + 2]? = some o2 ∧ (((w.alloc o0).alloc o1).alloc o2).heap.size = w.heap.size + 3 ∧ Ext w (((w.alloc o0).alloc o1).alloc o2) := by
  refine ⟨?_, ?_, ?_, by simp, (((Ext.refl w).alloc _).alloc _).alloc _⟩ <;> (simp only [World.alloc, Array.getElem?_push, Array.size_push]; (repeat rw [if_neg (by omega)]); simp)
def cellsQ (q : Uid) : List Value := [.string q.1, .string q.2]
/-- the names that stand behind a name -/
def upF (u : Uid) (pre : List FPair) : List Uid := (pre.filter fun p => decide (p.1.1 = u)).map fun p => p.1.2
theorem upF_hit {u : Uid} {pre : List FPair} {x : FPair} (h : x.1.1 = u) : upF u (pre ++ [x]) = upF u pre ++ [x.1.2] := by simp [upF, h]
theorem upF_miss {u : Uid} {pre : List FPair} {x : FPair} (h : x.1.1 ≠ u) : upF u (pre ++ [x]) = upF u pre := by simp [upF, h]
theorem upF_len (u : Uid) (pre : List FPair) : (upF u pre).length ≤ pre.length := by
  unfold upF
  rw [List.length_map]
  exact List.length_filter_le _ _
theorem upF_flat (u : Uid) (S : Nat → Prop) (W : World) : ∀ pre : List FPair, uidR.Flat S W (upF u pre) ((upF u pre).flatMap cellsQ)
  | [] => rfl
  | x :: r => by
    have ih := upF_flat u S W r
    by_cases h : x.1.1 = u
    · have e : upF u (x :: r) = x.1.2 :: upF u r := by simp [upF, h]
      rw [e, List.flatMap_cons]
      exact ⟨_, _, rfl, ⟨rfl, x.2.2⟩, ih⟩
    · have e : upF u (x :: r) = upF u r := by simp [upF, h]
      rw [e]
      exact ih
theorem upF_mem {u q : Uid} {pre : List FPair} : q ∈ upF u pre ↔ ∃ x ∈ pre, x.1.1 = u ∧ x.1.2 = q := by
  unfold upF
  rw [List.mem_map]
  constructor
  · rintro ⟨x, hx, rfl⟩
    rw [List.mem_filter] at hx
    exact ⟨x, hx.1, of_decide_eq_true hx.2, rfl⟩
  · rintro ⟨x, hx, h1, rfl⟩
    exact ⟨x, List.mem_filter.2 ⟨hx, decide_eq_true h1⟩, rfl⟩
theorem upF_nodup {u : Uid} {pre : List FPair} (h : pre.Nodup) : (upF u pre).Nodup := by
  unfold upF
  refine List.pairwise_map.2 ?_
  have h1 : (pre.filter fun p => decide (p.1.1 = u)).Pairwise (fun a b => a ≠ b ∧ a.1.1 = u ∧ b.1.1 = u) := by
    refine List.Pairwise.and (h.filter _) (List.pairwise_of_forall_mem_list fun a ha b hb => ?_)
    rw [List.mem_filter] at ha hb
    exact ⟨of_decide_eq_true ha.2, of_decide_eq_true hb.2⟩
  refine h1.imp fun {a b} hab e => hab.1 (Subtype.ext (Prod.ext ?_ e))
  rw [hab.2.1, hab.2.2]
theorem strict_of {l : List Uid} (hn : l.Nodup) (hs : l.Pairwise fun a b => ordU a b ≤ 0) : Strict ordU l := by
  refine (List.Pairwise.and hn hs).imp fun {a b} h => ?_
  rcases (GoodAt.ordU a).range b with h1 | h1 | h1
  · exact h1
  · exact absurd (ordU_eq h1) h.1
  · have := h.2; omega
theorem ents_fit {S : Nat → Prop} {W : World} {c : List Ent} {v : Value} (h : entR.RowsAt S W c v) : ∀ e ∈ c, FitU e.uid := fun e he => by
  obtain ⟨A, cap, rfl, _, hrow⟩ := h
  obtain ⟨i, hi⟩ := List.mem_iff_getElem?.1 he
  obtain ⟨b, o, rfl, _, hrow⟩ := hrow (by have := (List.getElem?_eq_some_iff.1 hi).1; omega)
  obtain ⟨cs, _, hx⟩ := hrow i e hi
  obtain ⟨_, _, _, h, _⟩ := hx
  exact h
/-- what the loop keeps -/
structure UpRow (u : Uid) (w : World) (pre : List FPair) (W : World) : Prop where
  box : W.heap[w.heap.size]? = some (.cells #[.string u.1, .string u.2] 31 (0, 0))
  row : ∃ v, Boxed W (w.heap.size + 1) 29 v ∧ W.ownsRow (w.heap.size + 1) 31 2 v (upF u pre).length ((upF u pre).flatMap cellsQ)
  ext : Ext w W
theorem own_kept {W W' : World} {base : Nat} {T : TypeId} {sz n : Nat} {v : Value} {xs : List Value} {row : Option Nat} (h : W.ownsRow base T sz v n xs) (hg : GrownBy W W' row) (hr : ∀ r, row = some r → ∃ o : Obj, W.heap[r]? = some o ∧ o.isCells = false) : W'.ownsRow base T sz v n xs :=
  ownsRow_apart h hg fun b hb e => by
    obtain ⟨_, cur, T', hc⟩ := own_free h hb
    obtain ⟨o, ho, hcells⟩ := hr b e
    rw [hc] at ho
    cases ho
    cases hcells
theorem UpRow.own {u : Uid} {w : World} {B : Nat} (hB : w.heap.size ≤ B) : OwnG B (UpRow u w) := fun pre W W' row h hg hr => by
  have hne : ∀ {b : Nat} {cs : Array Value} {T : TypeId}, W.heap[b]? = some (.cells cs T (0, 0)) → some b ≠ row := fun hb e => by
    obtain ⟨_, o, ho, hc⟩ := hr _ e.symm
    rw [hb] at ho
    cases ho
    cases hc
  obtain ⟨v, hv, hrow⟩ := h.row
  exact ⟨(hg.block _ (Blk_lt h.box) (hne h.box)).trans h.box, ⟨v, (hg.block _ (Blk_lt hv) (hne hv)).trans hv, own_kept hrow hg fun r e => (hr r e).2⟩, ext_apart h.ext hg fun b e => Nat.le_trans hB (hr b e).1⟩
theorem UpRow.new {u : Uid} {w : World} {pre : List FPair} {W : World} (h : UpRow u w pre W) (o : Obj) : UpRow u w pre (W.alloc o) := UpRow.own (Nat.le_refl _) pre W _ none h (GrownBy.alloc W o) fun r e => by cases e

def AbovePost (c : List Ent) (u : Uid) (w : World) (e : Ending) (w' : World) : Prop :=
  ∃ v l, e = .returned v ∧ uidR.RowsAt (fun b => b < w'.heap.size) w' l v ∧ Strict ordU l ∧ (∀ q, q ∈ l ↔ UpTo c u q) ∧ Ext w w'

set_option maxRecDepth 100000 in
set_option maxHeartbeats 4000000 in
theorem aboveF_ok (g : Nat) (c : List Ent) (u : Uid) (w : World) (hu : FitU u) (h : Fam w g c) :
    Calls Tryz.prog 26 #[.pointer (some ⟨g, 0, none⟩), valU u] w (AbovePost c u w) := by
  obtain ⟨⟨S, bA, bB, vc, m, cnt, hst, hmp, hm, hcnt⟩, ht⟩ := h
  have HSt := Lib.hid hst
  have HMp := Lib.hid hmp
  have HM := Lib.hid hm
  have HU := Lib.hid hu
  have f2 : ∀ a b, ((w.alloc a).alloc b).cell? ⟨g, 2, none⟩ = some (.map (some bB)) := fun a b => (World.cell?_of_block (w := w) ((heap_alloc_old _ _ (by have := Blk_lt hst.box; simp; omega)).trans (heap_alloc_old _ _ (Blk_lt hst.box)))).trans (cell_of_row _ _ 2 _ _ _ hst.box)
  clear hst hmp hm ht hu
  obtain ⟨t, i⟩ := u
  unfold valU
  refine (callsIn_wide (n := 3)).1 ?_
  have h1 : 1 ≤ 3 := by omega
  refine callsIn_of_wp_marks Tryz.func26 rfl trivial ?_ rfl
  simp only [Tryz.ntmps26, List.size_toArray, List.length_cons, List.length_nil, Nat.reduceAdd, Nat.reduceSub, Array.replicate_succ, Array.replicate_zero, List.push_toArray, List.append_toArray, List.nil_append, List.cons_append]
  gi_wp2_with fail
  refine ⟨trivial, (keysP_in Fence.wide 2 trivial rfl bB _).mono ?_⟩
  rintro e w' ⟨rfl, rfl⟩
  gi_wp2_with fail
  obtain ⟨W0, hW0⟩ : ∃ W0, W0 = ((w.alloc (.cells #[.string t, .string i] 31)).alloc (.cells #[.slice none 0 0] 29)).alloc (.cells #[.map (some bB)] 99) := ⟨_, rfl⟩
  have h3 := heap3 w (.cells #[.string t, .string i] 31) (.cells #[.slice none 0 0] 29) (.cells #[.map (some bB)] 99)
  rw [← hW0] at h3 ⊢
  obtain ⟨q0, q1, q2, qs, qx⟩ := h3
  have HQ0 := Lib.hid q0
  have HQ1 := Lib.hid q1
  have HQ2 := Lib.hid q2
  have HQS := Lib.hid qs
  have HQX := Lib.hid qx
  have HMp0 := Lib.hid (HMp.out.ext qx)
  clear q0 q1 q2 qs qx hW0 f2
  obtain ⟨i0, hi0, hz0, hz1, hz2⟩ := info_parts Tryz.info23
  refine wpIn_range_seq rfl h1 (gf := 110) (lb := #[.pointer (some ⟨w.heap.size + 1 + 1, 0, none⟩)]) rfl trivial (enters_of Tryz.func110 (by kernel_rfl) rfl)
    (keysP_seq Fence.wide 2 trivial rfl (by omega) (w.heap.size + 1 + 1) bB m cnt W0 (by have := HQS.out; omega) (cell_of_row _ _ 0 _ _ _ HQ2.out) HMp0.out) (Below.refl _ _) (fun _ => rfl)
    (UpRow (t, i) w) (UpRow.own (by have := HQS.out; omega)) ⟨HQ0.out, ⟨_, HQ1.out, World.ownsRow_nil _ _ _ _⟩, HQX.out⟩
    (fun x a' W => ∃ Bx, W.heap[Bx]? = some (.cells #[.string x.1.1.1, .string x.1.1.2, .string x.1.2.1, .string x.1.2.2] 107 (0, 0)) ∧ a' = { tmps := #[.pointer (some ⟨g, 0, none⟩), .agg #[.string t, .string i], undef, .pointer (some ⟨w.heap.size, 0, none⟩), .slice none 0 0, .pointer (some ⟨w.heap.size + 1, 0, none⟩), .pointer (some ⟨Bx, 0, none⟩), .pointer (some ⟨g, 0, none⟩), .bool false, .pointer (some ⟨g, 0, none⟩), .pointer (some ⟨g, 0, none⟩), .pointer (some ⟨g, 2, none⟩), .map (some bB), .func (.func 110) #[] #[.pointer (some ⟨w.heap.size + 1 + 1, 0, none⟩)], .agg #[.string x.1.1.1, .string x.1.1.2, .string x.1.2.1, .string x.1.2.2], undef, undef, undef, undef, undef, undef, undef, undef, undef, undef, undef, undef], defers := [] })
    (fun x a' s W W' row h hg hr => ?hax) ?assign ?body ?done
  case hax =>
    obtain ⟨Bx, hb, rfl⟩ := h
    refine ⟨Bx, (hg.block _ (Blk_lt hb) fun e => ?_).trans hb, rfl⟩
    obtain ⟨_, o, ho, hc⟩ := hr _ e.symm
    rw [hb] at ho
    cases ho
    cases hc
  case assign =>
    intro l pre x W K hi hK
    gi_wp2
    exact hK _ _ ((KeepsOthers.alloc _ _).from _) (KeepsWalks.alloc _ _) (hi.new _) ⟨W.heap.size, heap_alloc_new _ _, rfl⟩
  case body =>
    rintro l pre x a' W hi ⟨Bx, hbx, rfl⟩ hlt
    obtain ⟨v, hv, hrow⟩ := hi.row
    have hpl := upF_len (t, i) pre
    have c0 := cell_of_row _ _ 0 _ _ _ hi.box
    have c1 := cell_of_row _ _ 1 _ _ _ hi.box
    have k0 := cell_of_row _ _ 0 _ _ _ hbx
    have k1 := cell_of_row _ _ 1 _ _ _ hbx
    have k2 := cell_of_row _ _ 2 _ _ _ hbx
    have k3 := cell_of_row _ _ 3 _ _ _ hbx
    simp at c0 c1 k0 k1 k2 k3
    have cv := hv.cell
    obtain ⟨tb, htb⟩ : ∃ tb, decide (x.1.1 = ((t, i) : Uid)) = tb := ⟨_, rfl⟩
    have tq : ∀ w, (binOp .eql 31 (.agg #[.string x.1.1.1, .string x.1.1.2]) (.agg #[.string t, .string i])).run Tryz.prog w = .ok (.bool tb) w := fun w => by rw [← htb]; exact eqlU x.1.1 (t, i) w
    have tq' : ∀ w, (Op.equalIn 10000 31 (.agg #[.string x.1.1.1, .string x.1.1.2]) (.agg #[.string t, .string i])).run Tryz.prog w = .ok tb w := fun w => by rw [← htb]; exact eqlU_in x.1.1 (t, i) w
    have tg : ∀ (p q : Operand) w, (eqGuard .eql 31 p q (.agg #[.string x.1.1.1, .string x.1.1.2]) (.agg #[.string t, .string i])).run Tryz.prog w = .ok () w := fun p q w => guardU _ p q x.1.1 (t, i) w
    have HT := Lib.hid htb
    have Hi := Lib.hid hi
    have Hv := Lib.hid hv
    have HRow := Lib.hid hrow
    have HPl := Lib.hid hpl
    have Hlt := Lib.hid hlt
    clear htb hi hv hrow hpl hlt hbx
    cases tb with
    | true =>
      gi_wp2_with (first
        | (gi_at_builtin; refine wpListIn_append_at rfl (.tmp 19) (.tmp 22) 29 rfl (w.heap.size + 1) 31 i0 _ 2 32 Tryz.underlying29 hi0 hz0 hz1 hz2 rfl (by decide) v _ _ rfl (HRow.out.alloc _) W.heap.size 0 1 1 [.string x.1.2.1, .string x.1.2.2] rfl rfl (cellsAt_new _ _ rfl) (by simp [Value.oneCell']) (by have h1 := HPl.out; have h2 := Hlt.out; rw [maxLen_eq]; omega) (by have h1 := HPl.out; have h2 := Hlt.out; omega) (Nat.le_trans (Blk_lt Hi.out.box) (by simp)) ?_; intro v' w1 hown' hgrow; obtain ⟨g', cap', rfl⟩ := ownsRow_succ hown'; obtain ⟨hv1, hv2, hr2, hk2, hb2⟩ := Hv.out.appended (by decide) HRow.out (Blk_lt Hi.out.box) (Nat.le_refl _) hown' hgrow.togrownBy; have hc1 := hv1.cell; have hf1 := hv1.frozen; have Hown := Lib.hid hown'; have Hgr := Lib.hid hgrow; clear hown' hgrow)
        | gi_in)
      refine ⟨rfl, hk2.from _, hk2.walks, ⟨?_, ⟨_, hv2, ?_⟩, ?_⟩⟩
      · rw [(grownBy_setCell' w1 _ _).block _ (by have h1 := Blk_lt Hi.out.box; have h2 := Hgr.out.size; simp at h2; omega) (fun e => by injection e with e; omega), Hgr.out.block _ (by have h1 := Blk_lt Hi.out.box; simp; omega) (fun e => by have := (HRow.out.lt _ e.symm).1; omega), heap_alloc_old _ _ (Blk_lt Hi.out.box)]
        exact Hi.out.box
      · rw [upF_hit (of_decide_eq_true HT.out), List.flatMap_append, List.length_append]
        exact hr2
      · refine ext_apart (ext_apart (Hi.out.ext.alloc _) Hgr.out fun b e => ?_) ⟨grownBy_setCell' w1 _ _, Nat.le_refl _⟩ fun b e => by injection e with e; omega
        have := (HRow.out.lt _ e).1
        omega
    | false =>
      gi_wp2
      refine ⟨rfl, KeepsFrom.refl _ _, KeepsWalks.refl _, ⟨Hi.out.box, ⟨v, Hv.out, ?_⟩, Hi.out.ext⟩⟩
      rw [upF_miss (of_decide_eq_false HT.out)]
      exact HRow.out
  case done =>
    rintro D ys W hD hys hi hK
    obtain ⟨v, hv, hrow⟩ := hi.row
    obtain ⟨A6, c6, rfl⟩ := own_shape hrow
    have hD0 := HQS.out
    have hne : ∀ b, some b = Value.ownBlock (.slice A6 (upF (t, i) ys).length c6) → b ≠ D := fun b e h => by
      obtain ⟨_, cur, T', hc⟩ := own_free hrow e.symm
      rw [h, hK] at hc
      cases hc
    have hnb : some (w.heap.size + 1) ≠ Value.ownBlock (.slice A6 (upF (t, i) ys).length c6) := hv.not_row (by decide) hrow
    have hlen : (upF (t, i) ys).length ≤ LIM := by
      have h1 := upF_len (t, i) ys
      have h2 : ys.length ≤ cnt := hys.2.2
      rw [LIM_eq]; omega
    have hsort := uidR.sort_ok Go.Proofs.Tryz.sortU 31 Tryz.agg23 Tryz.size23 ordU GoodAt.ordU 48 #[] Tryz.enterOrdU (fun _ => False) (w.heap.size + 1) W (.slice A6 (upF (t, i) ys).length c6) (upF (t, i) ys) _ (fun w1 y z cy cz _ _ hy hz => by
      obtain ⟨rfl, _⟩ := hy
      obtain ⟨rfl, _⟩ := hz
      exact orderU_ok y z w1) (fun b hb => hb.elim) hrow (upF_flat _ _ _ _) hlen
    have HSo := Lib.hid (show Calls Tryz.prog 57 #[.slice A6 (upF (t, i) ys).length c6, .func (.func 48) #[] #[]] W _ from hsort)
    have cv := hv.cell
    have HV := Lib.hid hv
    have HRow := Lib.hid hrow
    have Hi := Lib.hid hi
    have HK := Lib.hid hK
    have HNe := Lib.hid hne
    have HNb := Lib.hid hnb
    have HYs := Lib.hid hys
    have HLen := Lib.hid hlen
    clear hsort hv hrow hi hK hne hnb hys hlen
    gi_wp2_with fail
    refine ⟨trivial, (callsIn_wide.2 HSo.out).mono ?_⟩
    rintro e w7 ⟨rfl, l7, xs7, hp7, hs7, ho7, hf7, hb7, hd7, hg7⟩
    have cv7 := (HV.out.kept hg7.togrownBy HNb.out).cell
    have hK7 := (hg7.block _ (Blk_lt HK.out) fun e => HNe.out _ e rfl).trans HK.out
    have HK7 := Lib.hid hK7
    have HP7 := Lib.hid hp7
    have HS7 := Lib.hid hs7
    have HO7 := Lib.hid ho7
    have HF7 := Lib.hid hf7
    have HG7 := Lib.hid hg7
    clear hK7 hp7 hs7 ho7 hf7 hb7 hd7 hg7 HSo cv
    gi_wp2_with fail
    refine ⟨by simp, .inl ⟨_, _, rfl, run_takeDeferred HK7.out, ?_⟩⟩
    refine ⟨_, results_tmp rfl _ _ _, .slice A6 (upF (t, i) ys).length c6, l7, rfl, ?_, ?_, ?_, ?_⟩
    · have o9 : (w7.putObj D (.deferred none)).ownsRow (w.heap.size + 1) 31 uidR.size (.slice A6 (upF (t, i) ys).length c6) l7.length xs7 := ownsRow_putObj HO7.out _ HK7.out rfl
      have hl7 : l7.length = (upF (t, i) ys).length := HP7.out.length_eq
      have h := own_rows (R := uidR) (S' := fun b => b < (w7.putObj D (.deferred none)).heap.size) o9 (Rep.Flat.alike (w' := w7.putObj D (.deferred none)) (fun b hb => hb.elim) HF7.out) (by rw [hl7]; exact HLen.out) (fun b hb => hb.elim) fun b hb => (o9.lt b hb).2
      exact h
    · have hnd : l7.Nodup := HP7.out.nodup_iff.2 (upF_nodup HYs.out.1)
      exact strict_of hnd HS7.out
    · intro q
      rw [HP7.out.mem_iff, upF_mem, ← HM.out (t, i) q]
      constructor
      · rintro ⟨x, hx, h1, rfl⟩
        have := (HYs.out.2.1 x).1 hx
        rw [← h1]; exact this
      · intro hq
        have hfq : FitU q := by
          obtain ⟨e, he, rfl⟩ := List.mem_map.1 ((HM.out (t, i) q).1 hq).names.2
          exact ents_fit HSt.out.rows e he
        exact ⟨⟨((t, i), q), HU.out, hfq⟩, (HYs.out.2.1 _).2 hq, rfl, rfl⟩
    · exact ext_apart (ext_apart Hi.out.ext HG7.out fun b e => by have := (HRow.out.lt b e).1; omega) (GrownBy.putObj w7 D _) fun b e => by injection e with e; omega
set_option maxRecDepth 100000 in
set_option maxHeartbeats 4000000 in
theorem aboveN_ok (u : Uid) (w : World) : Calls Tryz.prog 26 #[.pointer none, valU u] w fun e w' => e = .returned (.slice none 0 0) ∧ Ext w w' := by
  obtain ⟨t, i⟩ := u
  unfold valU
  go_enter Tryz.func26, Tryz.ntmps26
  go_wp2_with fail
  go_ret
  exact ⟨rfl, (Ext.refl w).alloc _⟩
end Go.Proofs.YtjllolagcdjlnaaGreat
