/-
  The library's functions on rows of names: which one stands first, a copy, compaction; '==' of two names. The conditions: none beyond each contract's own.
-/
import Derived.Test.YtpkgkabcikmopaaPlaces
import Derived.Test.YtpkgkabcikmopaaMidG
import Derived.Test.YtpkgkabcikmopaaGet
import Derived.Test.YtpkgkabcikmopaaIns
import Derived.Laws.StructEq
namespace Go.Proofs.Ytpkgkabcikmopaa
open Go.RowKit

theorem eqlU_in (x y : Uid) (w : World) : (Op.equalIn 10000 23 (valU x) (valU y)).run Try.prog w = .ok (decide (x = y)) w := by
  have hS : Try.prog.underlying 23 = some (.struct (Try.prog.fieldsOf 23)) := by kernel_rfl
  have hp : Try.prog.stoodInHeld 23 = false := by kernel_rfl
  have u9 := Try.underlying9
  have a9 := Try.agg9
  have z9 : ∀ w, (Go.sizeOf 9).run Try.prog w = .ok 1 w := fun _ => by kernel_rfl
  unfold valU
  rw [show (10000 : Nat) = 9999 + 1 from rfl, run_equalIn_agg w 9999 _ _ _ hS hp]
  simp only [Program.fieldsOf, Try.underlying23]
  go_simp
  by_cases h1 : x.1 = y.1
  · by_cases h2 : x.2 = y.2
    · have : x = y := Prod.ext h1 h2
      simp [this]
    · have : x ≠ y := fun e => h2 (by rw [e])
      have h3 : x.2.toList ≠ y.2.toList := fun e => h2 (toList_inj e)
      simp [h1, h3, this]
  · have : x ≠ y := fun e => h1 (by rw [e])
    have h3 : x.1.toList ≠ y.1.toList := fun e => h1 (toList_inj e)
    simp [h3, this]
theorem eqlU (x y : Uid) (w : World) : (binOp .eql 23 (valU x) (valU y)).run Try.prog w = .ok (.bool (decide (x = y))) w := by
  have h := eqlU_in x y w
  unfold valU at h ⊢
  rw [run_eql_struct, h]; rfl
theorem neqU (x y : Uid) (w : World) : (binOp .neq 23 (valU x) (valU y)).run Try.prog w = .ok (.bool (!decide (x = y))) w := by
  have h := eqlU_in x y w
  unfold valU at h ⊢
  rw [run_neq_struct, h]; rfl
theorem guardU (op : BinOp) (p q : Operand) (x y : Uid) (w : World) : (eqGuard op 23 p q (valU x) (valU y)).run Try.prog w = .ok () w := run_eqGuard_agg w op _ p q _ _ (by kernel_rfl)

set_option maxRecDepth 100000 in
set_option maxHeartbeats 400000 in
theorem indexFunc_okU (g : Nat) (cb : Array Value) (p : Uid → Bool) (S : Nat → Prop) (l : List Uid) (v : Value) (w : World) (eg : ∀ args w, (callFunc g args).run Try.prog w = .ok (.enter g args) w)
    (hS : ∀ b, S b → b < w.heap.size) (hl : uidR.RowsAt S w l v)
    (hc : ∀ x ∈ l, FitU x → ∀ (w1 : World), Ext w w1 → Calls Try.prog g (#[valU x] ++ cb) w1 fun e w' => e = .returned (.bool (p x)) ∧ Ext w1 w') :
    Calls Try.prog 91 #[v, .func (.func g) #[] cb] w fun e w' => e = .returned (.int .i64 (pos (fidx p l))) ∧ Ext w w' := by
  obtain ⟨A, cap, rfl, ⟨hl0, hl1, hl2⟩, hlr⟩ := hl
  rw [LIM_eq] at hl0
  rw [maxLen_eq] at hl2
  have HL := Lib.hid hlr
  have HS := Lib.hid hS
  have HC := Lib.hid hc
  clear hlr hS hc
  go_enter Try.func91, Try.ntmps91
  go_wp2_with fail
  go_loopw [8] (fun i wr => ∃ k : Nat, k ≤ l.length ∧ i = .int .i64 k ∧ Ext w wr ∧ Hid (∀ i x, i < k → l[i]? = some x → p x = false)) (fun i _ => l.length - (intOf i).toNat)
  case atStart => exact ⟨0, Nat.zero_le _, rfl, Ext.refl w, fun _ _ h => by omega⟩
  case round =>
    obtain ⟨k, hk, rfl, hext, Hall⟩ := hrel
    have HX := Lib.hid hext
    clear hext
    by_cases hlt : k < l.length
    · obtain ⟨b, o, rfl, hSb, hrow⟩ := HL.out (by omega)
      obtain ⟨x, hx⟩ : ∃ x, l[k]? = some x := ⟨_, List.getElem?_eq_getElem hlt⟩
      obtain ⟨cs, hca, rfl, hfit⟩ := hrow k x hx
      have Hca := Lib.hid (hca.alike hSb (Alike.of_ext HX.out HS.out))
      have Hx := Lib.hid hx
      have hgen := HC.out x (List.mem_of_getElem? hx) hfit wr HX.out
      generalize hpx : p x = px at *
      have HP := Lib.hid hpx
      have HG := Lib.hid hgen
      clear hx hca hrow hSb hpx hgen hfit
      go_wp2_with (first | refine wpList_load_cells rfl 23 _ rfl b (o + k * 2) rfl Try.agg23 Try.size23 rfl Hca.out ?_)
      refine HG.out.mono ?_
      rintro e w' ⟨rfl, hx2⟩
      have HX2 := Lib.hid hx2
      clear hx2
      cases px
      · go_wp2_with fail
        go_roundw
        case rel => exact ⟨k + 1, by omega, by go_num, HX.out.trans HX2.out, fun i y hi hy => by
          by_cases hik : i = k
          · subst hik; rw [Hx.out] at hy; cases hy; exact HP.out
          · exact Hall.out i y (by omega) hy⟩
        case measure => simp [intOf]; omega
      · go_wp2_with fail
        go_ret
        exact ⟨ret_int (by rw [fidx_some Hx.out HP.out Hall.out]; rfl), HX.out.trans HX2.out⟩
    · go_wp2_with fail
      go_ret
      have hke : k = l.length := by omega
      subst hke
      exact ⟨ret_int (by rw [fidx_none Hall.out]; rfl), HX.out⟩

theorem containsFunc_okU (g : Nat) (cb : Array Value) (p : Uid → Bool) (S : Nat → Prop) (l : List Uid) (v : Value) (w : World) (eg : ∀ args w, (callFunc g args).run Try.prog w = .ok (.enter g args) w)
    (hS : ∀ b, S b → b < w.heap.size) (hl : uidR.RowsAt S w l v)
    (hc : ∀ x ∈ l, FitU x → ∀ (w1 : World), Ext w w1 → Calls Try.prog g (#[valU x] ++ cb) w1 fun e w' => e = .returned (.bool (p x)) ∧ Ext w1 w') :
    Calls Try.prog 66 #[v, .func (.func g) #[] cb] w fun e w' => e = .returned (.bool (l.any p)) ∧ Ext w w' := by
  have hi := indexFunc_okU g cb p S l v w eg hS hl hc
  rw [← fidx_isSome]
  cases hf : fidx p l with
  | none =>
    rw [hf] at hi
    have HI := Lib.hid hi
    clear hi hc hS hl hf eg
    go_enter Try.func66, Try.ntmps66
    go_wp2_with (go_at_call 91; refine HI.out.mono ?_; rintro e w' ⟨rfl, hx2⟩; have HX2 := Lib.hid hx2; clear hx2)
    go_ret
    exact ⟨rfl, HX2.out⟩
  | some i =>
    rw [hf] at hi
    have HI := Lib.hid hi
    clear hi hc hS hl hf eg
    go_enter Try.func66, Try.ntmps66
    go_wp2_with (go_at_call 91; refine HI.out.mono ?_; rintro e w' ⟨rfl, hx2⟩; have HX2 := Lib.hid hx2; clear hx2)
    go_ret
    exact ⟨ret_bool (by simp [pos]), HX2.out⟩

theorem Try.info23 : (Try.prog.info? 23).map (fun i => (i.zero, i.size, i.bytes)) = some (some (.agg #[.string ByteArray.empty, .string ByteArray.empty]), 2, 32) := by kernel_rfl

theorem uidFlat_any {S S' : Nat → Prop} {w w' : World} : ∀ {l : List Uid} {xs : List Value}, uidR.Flat S w l xs → uidR.Flat S' w' l xs
  | [], _, h => h
  | _ :: _, _, ⟨c, ys, e, hv, hr⟩ => ⟨c, ys, e, hv, uidFlat_any hr⟩
theorem rows_src {α : Type} {R : Rep α} {S : Nat → Prop} {w : World} {l : List α} {A : Option Addr} {n cap : Nat} (h : R.RowsAt S w l (.slice A n cap)) : n = l.length ∧ ∃ xs, R.Flat S w l xs ∧ SrcAt w A l.length xs := by
  obtain ⟨A', cap', e, _, h1⟩ := h
  injection e with e1 e2 e3
  subst e1 e2 e3
  refine ⟨rfl, ?_⟩
  by_cases hn : 0 < l.length
  · obtain ⟨b, o, rfl, hs, hr⟩ := h1 hn
    obtain ⟨xs, h2, h3⟩ := hr.flat
    exact ⟨xs, h2, fun _ => ⟨b, o, rfl, h3⟩⟩
  · have : l = [] := List.eq_nil_of_length_eq_zero (by omega)
    subst this
    exact ⟨[], rfl, fun h => by simp at h⟩

/-- a row of names of the call's own -/
def ClonedU (l : List Uid) (w : World) (e : Ending) (w' : World) : Prop := ∃ v' xs, e = .returned v' ∧ w'.ownsRow w.heap.size 23 2 v' l.length xs ∧ (∀ S' w', uidR.Flat S' w' l xs) ∧ Ext w w'

set_option maxRecDepth 100000 in
set_option maxHeartbeats 400000 in
theorem cloneU_ok (S : Nat → Prop) (l : List Uid) (v : Value) (w : World) (hl : uidR.RowsAt S w l v) :
    Calls Try.prog 67 #[v] w (ClonedU l w) := by
  have hl' := hl
  obtain ⟨A, cap, rfl, ⟨hl0, hl1, hl2⟩, hlr⟩ := hl
  obtain ⟨_, xs, hf, hsrc⟩ := rows_src hl'
  rw [LIM_eq] at hl0
  rw [maxLen_eq] at hl2
  have HF : Hid (∀ S' w', uidR.Flat S' w' l xs) := Lib.hid fun S' w' => uidFlat_any hf
  have Hsrc := Lib.hid hsrc
  have HL := Lib.hid (hf.length)
  have H1 := Lib.hid hf.one
  have q58 := fun (w : World) (a : Option Addr) (n c n' c' : Nat) => Lib.run_eql_slice_nil (P := Try.prog) w 58 23 a n c n' c' Try.underlying58
  obtain ⟨i0, hi, hz0, hz1, hz2⟩ := info_parts Try.info23
  clear hl' hlr hf hsrc
  cases A with
  | none =>
    have hn : l = [] := by
      cases l with
      | nil => rfl
      | cons x r => obtain ⟨b, o, h, _⟩ := Hsrc.out (by simp); cases h
    subst hn
    go_enter Try.func67, Try.ntmps67
    go_wp2_with fail
    go_ret
    exact ⟨_, [], rfl, World.ownsRow_nil _ _ _ _, fun _ _ => rfl, Ext.refl w⟩
  | some a =>
    go_enter Try.func67, Try.ntmps67
    go_wp2_with (at_builtin; refine wpList_append_any rfl (.tmp 5) (.tmp 6) 58 rfl w.heap.size 23 i0 _ 2 32 Try.underlying58 hi hz0 hz1 hz2 rfl (by decide) _ 0 [] rfl (World.ownsRow_made w #[] 0 (Nat.le_refl _) (Nat.zero_le _) (by simp)) (some a) l.length cap xs rfl HL.out ?q1 H1.out ?q2 ?q3 ?q4 ?_)
    case q1 => exact fun h => let ⟨b, o, e, hc⟩ := Hsrc.out h; ⟨b, o, e, hc.alike (S := fun x => x < w.heap.size) (by
      have h0 : 0 < xs.length := by rw [HL.out]; exact Nat.mul_pos h (by decide)
      have := hc 0 xs[0] (List.getElem?_eq_getElem h0)
      exact block_lt_of_cell this) (Alike.of_ext ((Ext.refl w).alloc _) fun _ h => h)⟩
    case q2 => rw [maxLen_eq]; omega
    case q3 => omega
    intro v' w2 hown' hgrow hblk
    have Ho := Lib.hid hown'
    have Hg := Lib.hid hgrow
    clear hown' hgrow hblk
    go_wp2_with fail
    go_ret
    refine ⟨v', xs, rfl, by simpa using Ho.out, HF.out, ext_apart ((Ext.refl w).alloc _) Hg.out fun b e => ?_⟩
    simp only [Value.ownBlock] at e
    injection e with e
    omega

def zeroU : List Value := [.string ByteArray.empty, .string ByteArray.empty]
theorem zeroU_one : ∀ v ∈ zeroU, v.oneCell' = true := by decide
theorem Try.zero23 : ∀ w, (zeroValue 23).run Try.prog w = .ok (.agg zeroU.toArray) w := fun _ => by kernel_rfl

set_option maxRecDepth 100000 in
set_option maxHeartbeats 1600000 in
theorem compactU_ok (base : Nat) (w : World) (v : Value) (l : List Uid) (xs : List Value) (hown : w.ownsRow base 23 2 v l.length xs) (hf : uidR.Flat (Made base w v) w l xs) (hl : l.length ≤ LIM) :
    Calls Try.prog 69 #[v] w fun e w' =>
      ∃ v', e = .returned v' ∧ ∃ xs', w'.ownsRow base 23 2 v' (dedup ordU l).length xs' ∧ uidR.Flat (Made base w' v') w' (dedup ordU l) xs' ∧ Below base w w' ∧ w.drawn ≤ w'.drawn := by
  obtain ⟨hx, hv⟩ := id hown
  have hS0 : ∃ S : Nat → Prop, (∀ b, S b → base ≤ b ∧ b < w.heap.size ∧ v.ownBlock ≠ some b) ∧ uidR.Flat S w l xs := ⟨_, fun b hb => hb, hf⟩
  obtain ⟨S, hSm, hfS⟩ := hS0
  rw [LIM_eq] at hl
  have HF := Lib.hid hf
  have HOwn := Lib.hid hown
  by_cases h2 : l.length < 2
  · have hd : dedup ordU l = l := by
      match l, h2 with
      | [], _ => rfl
      | [x], _ => rfl
    rw [hd]
    obtain ⟨A, cap, rfl⟩ : ∃ A cap, v = .slice A l.length cap := by
      rcases hv with ⟨rfl, hn⟩ | ⟨g, cap, cur, rfl, _⟩
      · exact ⟨none, 0, by rw [hn]⟩
      · exact ⟨_, _, rfl⟩
    clear hf hown hfS hSm hv hx hd
    go_enter Try.func69, Try.ntmps69
    go_wp2_with fail
    go_ret
    exact ⟨_, rfl, xs, HOwn.out, HF.out, Below.refl _ _, Nat.le_refl _⟩
  rcases hv with ⟨rfl, hn⟩ | ⟨g, cap, cur, rfl, hg, hh, hnc, hcm, hcur, htake⟩
  · omega
  obtain ⟨rows, hr1, hr2, hr3⟩ := rows_ofK (sz := 2) cap cur.toList (by simpa using hcur)
  have hcurr : cur = rows.flatten.toArray := by rw [hr3]
  subst hcurr
  -- each element has its row
  have hrow : ∀ i x, l[i]? = some x → ∃ cs, rows[i]? = some cs ∧ uidR.At S w x cs := fun i x hix => by
    obtain ⟨cs, c2, c3⟩ := hfS.get hix
    have hil : i < l.length := (List.getElem?_eq_some_iff.1 hix).1
    have hir : i < rows.length := by omega
    refine ⟨rows[i], List.getElem?_eq_getElem hir, ?_⟩
    have c1 : cs.length = 2 := uidR.len c2
    have c3 : ∀ (j : Nat) (u : Value), cs[j]? = some u → xs[i * 2 + j]? = some u := c3
    have hrl := hr2 rows[i] (List.getElem_mem hir)
    have : rows[i] = cs := by
      apply List.ext_getElem?
      intro j
      by_cases hj : j < 2
      · have e1 := flatten_getK (rows := rows) (i := i) (j := j) hr2 (List.getElem?_eq_getElem hir) (List.getElem?_eq_getElem (by omega))
        have e2 := c3 j cs[j] (List.getElem?_eq_getElem (by omega))
        rw [← htake, List.getElem?_take, if_pos (by omega)] at e2
        dsimp only at e2
        rw [e1] at e2
        rw [List.getElem?_eq_getElem (by omega), List.getElem?_eq_getElem (by omega)]
        exact e2
      · rw [List.getElem?_eq_none (by omega), List.getElem?_eq_none (by omega)]
    rw [this]; exact c2
  have hSg : ∀ b, S b → b < w.heap.size := fun b hb => (hSm b hb).2.1
  have hgl := Blk_lt hh
  rw [maxLen_eq] at hcm
  have HR := Lib.hid hrow
  have HS := Lib.hid hSg
  have HSm := Lib.hid hSm
  have Hh := Lib.hid hh
  have H8 := Lib.hid hr2
  have Hr1 := Lib.hid hr1
  have Hgl := Lib.hid hgl
  clear hf hown hfS hSm hx hrow hSg hh hr2 hcur htake hr3 hr1 hgl
  have hn2 : 2 ≤ l.length := by omega
  clear h2
  go_enter Try.func69, Try.ntmps69
  go_wp2_with fail
  go_loopw [3] (fun i wr => ∃ k : Nat, k + 1 ≤ l.length ∧ i = .int .i64 ((k + 1 : Nat) : Int) ∧ Ext w wr ∧ Hid (∀ i x y, i < k → l[i]? = some x → l[i + 1]? = some y → ordU y x ≠ 0)) (fun i _ => l.length - (intOf i).toNat)
  case atStart => exact ⟨0, by omega, rfl, Ext.refl w, fun _ _ _ h => by omega⟩
  case round =>
    obtain ⟨k, hk, rfl, hext, Hall⟩ := hrel
    have HX := Lib.hid hext
    clear hext
    have ek : ((k + 1 : Nat) : Int) = (k : Int) + 1 := by omega
    rw [ek]
    clear ek
    by_cases hlt : k + 1 < l.length
    · obtain ⟨x, hx⟩ : ∃ x, l[k]? = some x := ⟨_, List.getElem?_eq_getElem (by omega)⟩
      obtain ⟨y, hy⟩ : ∃ y, l[k + 1]? = some y := ⟨_, List.getElem?_eq_getElem hlt⟩
      obtain ⟨cx, hcx, hxa⟩ := HR.out k x hx
      obtain ⟨cy, hcy, hya⟩ := HR.out (k + 1) y hy
      have hxa' := uidR.alike hxa (Alike.of_ext HX.out HS.out)
      have hya' := uidR.alike hya (Alike.of_ext HX.out HS.out)
      obtain ⟨rfl, _⟩ := id hxa
      obtain ⟨rfl, _⟩ := id hya
      have hcax : CellsAt wr g (k * 2) [.string x.1, .string x.2] := fun j u hj => by
        rw [cell_of_row _ _ _ _ _ _ ((HX.out.block _ Hgl.out).trans Hh.out)]
        simpa using flatten_getK H8.out hcx hj
      have hcay : CellsAt wr g ((k + 1) * 2) [.string y.1, .string y.2] := fun j u hj => by
        rw [cell_of_row _ _ _ _ _ _ ((HX.out.block _ Hgl.out).trans Hh.out)]
        simpa using flatten_getK H8.out hcy hj
      have Hx := Lib.hid hx
      have Hy := Lib.hid hy
      have Hxa := Lib.hid hxa'
      have Hya := Lib.hid hya'
      have HSr := Lib.hid (show ∀ b, S b → b < wr.heap.size from fun b hb => Nat.lt_of_lt_of_le (HS.out b hb) HX.out.size)
      have f0 := cell_regrown (show wr.cell? ⟨g, k * 2, none⟩ = some (.string x.1) by simpa using hcax 0 _ rfl)
      have f1 := cell_regrown (show wr.cell? ⟨g, k * 2 + 1, none⟩ = some (.string x.2) by simpa using hcax 1 _ rfl)
      have h0 := cell_regrown (show wr.cell? ⟨g, (k + 1) * 2, none⟩ = some (.string y.1) by simpa using hcay 0 _ rfl)
      have h1 := cell_regrown (show wr.cell? ⟨g, (k + 1) * 2 + 1, none⟩ = some (.string y.2) by simpa using hcay 1 _ rfl)
      clear hx hy hcx hcy hxa hya hxa' hya' hcax hcay
      have q1 : (0 : Int) ≤ (k : Int) + 1 := by omega
      have q2 : (k : Int) + 1 < l.length := by omega
      have q3 : ((k : Int) + 1).toNat = k + 1 := by omega
      have q4 : IntKind.i64.wrap ((k : Int) + 1 - 1) = (k : Int) := by rw [show (k : Int) + 1 - 1 = k by omega]; exact IntWalk.i64_in _ (by omega)
      have q5 : IntKind.i64.wrap (k : Int) = (k : Int) := IntWalk.i64_in _ (by omega)
      have q6 : (k : Int) < l.length := by omega
      have q7 : (0 : Int) ≤ (k : Int) := by omega
      have q8 : k < l.length := by omega
      obtain ⟨tb, htb⟩ : ∃ tb, decide (y = x) = tb := ⟨_, rfl⟩
      have tq : ∀ w, (binOp .eql 23 (.agg #[.string y.1, .string y.2]) (.agg #[.string x.1, .string x.2])).run Try.prog w = .ok (.bool tb) w := fun w => by rw [← htb]; exact eqlU y x w
      have tq' : ∀ w, (Op.equalIn 10000 23 (.agg #[.string y.1, .string y.2]) (.agg #[.string x.1, .string x.2])).run Try.prog w = .ok tb w := fun w => by rw [← htb]; exact eqlU_in y x w
      have tg : ∀ (p q : Operand) w, (eqGuard .eql 23 p q (.agg #[.string y.1, .string y.2]) (.agg #[.string x.1, .string x.2])).run Try.prog w = .ok () w := fun p q w => guardU _ p q y x w
      have HT := Lib.hid htb
      clear htb
      go_wp2_with fail
      refine region_later (by kernel_rfl) (by kernel_rfl) ?_
      repeat (quiet_step (fail))
      refine wpQuiet_nil ?_
      intro w2 hw2
      have HX2 := Lib.hid hw2
      clear tq tq' tg hw2 f0 f1 h0 h1 q1 q2 q3 q4 q5 q6 q7
      by_cases he : ordU y x = 0
      · have e0 : tb = true := by rw [← HT.out]; simpa using ordU_eq he
        have He := Lib.hid he
        clear he
        have hmid0 : MidG uidR ordU S w g cap 23 l (k + 1) (k + 1) 0 w2 := by
          have hd : dedup ordU (l.take (k + 1 + 0 + 1)) = l.take (k + 1) := by
            rw [Nat.add_zero, dedup_take_succ Hx.out Hy.out, if_pos He.out, List.append_nil, dedup_apart (by omega) Hall.out]
          have hx2 := HX.out.trans HX2.out
          refine ⟨GrownBy.of_ext _ hx2, by rw [hd, List.length_take]; omega, by omega, rows, (hx2.block _ Hgl.out).trans Hh.out, Hr1.out, H8.out, fun i z hi => ?_, fun i z _ hz => HR.out i z hz⟩
          rw [hd, List.getElem?_take] at hi
          split at hi
          · exact HR.out i z hi
          · cases hi
        have HM0 := Lib.hid hmid0
        clear hmid0 Hall Hx Hy Hxa Hya HSr HX2 HX He
        subst e0
        go_wp2_with fail
        go_loopw [3, 5] (fun u i wr => ∃ (kk q : Nat), k + 1 + q + 1 ≤ l.length ∧ kk ≤ k + 1 + q ∧ u = .int .i64 kk ∧ i = .int .i64 ((q + 1 : Nat) : Int) ∧ Hid (MidG uidR ordU S w g cap 23 l (k + 1) kk q wr)) (fun _ i _ => l.length - (intOf i).toNat)
        case atStart => exact ⟨k + 1, 0, by omega, by omega, by go_num, rfl, HM0.out⟩
        case round =>
          clear HM0
          obtain ⟨kk, q, hq, hkq, rfl, rfl, HM⟩ := hrel
          have ek : ((q + 1 : Nat) : Int) = (q : Int) + 1 := by omega
          rw [ek]
          clear ek
          have elen : ((l.length - (k + 1) : Nat) : Int) = (l.length : Int) - (k + 1) := by omega
          by_cases hql : k + 1 + q + 1 < l.length
          · obtain ⟨x, hx⟩ : ∃ x, l[k + 1 + q]? = some x := ⟨_, List.getElem?_eq_getElem (by omega)⟩
            obtain ⟨y, hy⟩ : ∃ y, l[k + 1 + q + 1]? = some y := ⟨_, List.getElem?_eq_getElem hql⟩
            obtain ⟨rows', m1, m2, m3, m4, m5⟩ := HM.out.rows
            have m3 : ∀ r ∈ rows', r.length = 2 := m3
            have hal := HM.out.alike HS.out (fun h => (HSm.out g h).2.2 rfl)
            obtain ⟨cx, hcx, hxa⟩ := m5 _ x (by omega) hx
            obtain ⟨cy, hcy, hya⟩ := m5 _ y (by omega) hy
            have hxa' := uidR.alike hxa hal
            have hya' := uidR.alike hya hal
            obtain ⟨rfl, _⟩ := id hxa
            obtain ⟨rfl, _⟩ := id hya
            have hcax : CellsAt wr g ((k + 1) * 2 + q * 2) [.string x.1, .string x.2] := fun j u hj => by
              rw [cell_of_row _ _ _ _ _ _ m1, show (k + 1) * 2 + q * 2 + j = (k + 1 + q) * 2 + j by omega]
              simpa using flatten_getK m3 hcx hj
            have hcay : CellsAt wr g ((k + 1) * 2 + (q + 1) * 2) [.string y.1, .string y.2] := fun j u hj => by
              rw [cell_of_row _ _ _ _ _ _ m1, show (k + 1) * 2 + (q + 1) * 2 + j = (k + 1 + q + 1) * 2 + j by omega]
              simpa using flatten_getK m3 hcy hj
            have HSr := Lib.hid (show ∀ b, S b → b < wr.heap.size from fun b hb => Nat.lt_of_lt_of_le (HS.out b hb) HM.out.grown.size)
            have Hm1 := Lib.hid m1
            have Hsz : cap * 2 = rows'.flatten.toArray.size := by have := flatten_lengthK m3; simp only [List.size_toArray]; omega
            have HSz := Lib.hid Hsz
            have Hx := Lib.hid hx
            have Hy := Lib.hid hy
            have Hxa := Lib.hid hxa'
            have Hya := Lib.hid hya'
            have Hya0 := Lib.hid hya
            have Hcy := Lib.hid hcay
            have f0 := cell_regrown (show wr.cell? ⟨g, (k + 1) * 2 + q * 2, none⟩ = some (.string x.1) by simpa using hcax 0 _ rfl)
            have f1 := cell_regrown (show wr.cell? ⟨g, (k + 1) * 2 + q * 2 + 1, none⟩ = some (.string x.2) by simpa using hcax 1 _ rfl)
            have h0 := cell_regrown (show wr.cell? ⟨g, (k + 1) * 2 + (q + 1) * 2, none⟩ = some (.string y.1) by simpa using hcay 0 _ rfl)
            have h1 := cell_regrown (show wr.cell? ⟨g, (k + 1) * 2 + (q + 1) * 2 + 1, none⟩ = some (.string y.2) by simpa using hcay 1 _ rfl)
            clear hx hy hcx hcy hxa hya hxa' hya' hcax hcay m1 m2 m3 m4 m5 hal Hsz
            have q1 : (0 : Int) ≤ (q : Int) + 1 := by omega
            have q2 : (q : Int) + 1 < ((l.length - (k + 1) : Nat) : Int) := by omega
            have q3 : ((q : Int) + 1).toNat = q + 1 := by omega
            have q4 : IntKind.i64.wrap ((q : Int) + 1 - 1) = (q : Int) := by rw [show (q : Int) + 1 - 1 = q by omega]; exact IntWalk.i64_in _ (by omega)
            have q5 : IntKind.i64.wrap (q : Int) = (q : Int) := IntWalk.i64_in _ (by omega)
            have q6 : (q : Int) < ((l.length - (k + 1) : Nat) : Int) := by omega
            have q7 : (0 : Int) ≤ (q : Int) := by omega
            have q8 : q < l.length - (k + 1) := by omega
            have q9 : q + 1 < l.length - (k + 1) := by omega
            clear elen
            obtain ⟨tb, htb⟩ : ∃ tb, decide (y = x) = tb := ⟨_, rfl⟩
            have tq : ∀ w, (binOp .neq 23 (.agg #[.string y.1, .string y.2]) (.agg #[.string x.1, .string x.2])).run Try.prog w = .ok (.bool !tb) w := fun w => by rw [← htb]; exact neqU y x w
            have tq' : ∀ w, (Op.equalIn 10000 23 (.agg #[.string y.1, .string y.2]) (.agg #[.string x.1, .string x.2])).run Try.prog w = .ok tb w := fun w => by rw [← htb]; exact eqlU_in y x w
            have tg : ∀ (p q : Operand) w, (eqGuard .neq 23 p q (.agg #[.string y.1, .string y.2]) (.agg #[.string x.1, .string x.2])).run Try.prog w = .ok () w := fun p q w => guardU _ p q y x w
            have HT := Lib.hid htb
            clear htb
            go_wp2_with fail
            refine region_later (by kernel_rfl) (by kernel_rfl) ?_
            repeat (quiet_step (fail))
            refine wpQuiet_nil ?_
            intro w3 hw3
            have HX3 := Lib.hid hw3
            clear tq tq' tg hw3 f0 f1 h0 h1 q1 q2 q3 q4 q5 q6 q7
            have Hm3 := Lib.hid ((HX3.out.block _ (Blk_lt Hm1.out)).trans Hm1.out)
            by_cases he : ordU y x = 0
            · have e0 : tb = true := by rw [← HT.out]; simpa using ordU_eq he
              have He := Lib.hid he
              clear he
              subst e0
              go_wp2_with fail
              have hfin : ∃ (kk' q' : Nat), k + 1 + q' + 1 ≤ l.length ∧ kk' ≤ k + 1 + q' ∧ Value.int .i64 (kk : Int) = .int .i64 (kk' : Int) ∧ Value.int .i64 ((q : Int) + 1 + 1) = .int .i64 ((q' + 1 : Nat) : Int) ∧ Hid (MidG uidR ordU S w g cap 23 l (k + 1) kk' q' w3) :=
                ⟨kk, q + 1, by omega, by omega, rfl, by go_num, (HM.out.old Hx.out Hy.out He.out).ext HX3.out⟩
              go_roundw
              case rel => exact hfin
              case measure => simp [intOf]; omega
            · have e0 : tb = false := by rw [← HT.out]; exact decide_eq_false fun e => he (by rw [e]; exact (GoodAt.ordU _).refl)
              have He := Lib.hid he
              clear he
              subst e0
              have hkl : kk < l.length := by omega
              have hkl' : (kk : Int) < l.length := by omega
              go_wp2_with (first | refine wpList_load_cells rfl 23 _ rfl g ((k + 1) * 2 + (q + 1) * 2) rfl Try.agg23 Try.size23 rfl (Hcy.out.alike (S := fun b => b < wr.heap.size) (Blk_lt Hm1.out) (Alike.of_ext HX3.out fun _ h => h)) ?_ | refine wpList_store_cells rfl 23 _ _ rfl g (kk * 2) rfl [.string y.1, .string y.2] rfl Try.size23 rfl 23 rows'.flatten.toArray Hm3.out (by have := HSz.out; simp only [List.length_cons, List.length_nil]; omega) (uidR.one Hya0.out) ?_)
              have hfin : ∃ (kk' q' : Nat), k + 1 + q' + 1 ≤ l.length ∧ kk' ≤ k + 1 + q' ∧ Value.int .i64 ((kk : Int) + 1) = .int .i64 (kk' : Int) ∧ Value.int .i64 ((q : Int) + 1 + 1) = .int .i64 ((q' + 1 : Nat) : Int) ∧ Hid (MidG uidR ordU S w g cap 23 l (k + 1) kk' q' (w3.setRow g (rows'.flatten.toArray.toList.take (kk * 2) ++ ([.string y.1, .string y.2] : List Value) ++ rows'.flatten.toArray.toList.drop (kk * 2 + 2)).toArray)) :=
                ⟨kk + 1, q + 1, by omega, by omega, by go_num, by go_num, (HM.out.ext HX3.out).new Hx.out Hy.out He.out Hm3.out Hya0.out (by omega)⟩
              go_roundw
              case rel =>
                simp only [List.append_assoc, List.cons_append, List.nil_append] at hfin
                exact hfin
              case measure => simp [intOf]; omega
          · have hkl : kk < l.length := by omega
            have hkl' : (kk : Int) < l.length := by omega
            have hkc : kk < cap := by omega
            have hqe : k + 1 + q + 1 = l.length := by omega
            have q2 : ¬ (q : Int) + 1 < ((l.length - (k + 1) : Nat) : Int) := by omega
            have HQ := Lib.hid hqe
            obtain ⟨rows', m1, m2, m3, _, _⟩ := HM.out.rows
            have m3 : ∀ r ∈ rows', r.length = 2 := m3
            have Hsz : cap * 2 = rows'.flatten.toArray.size := by have := flatten_lengthK m3; simp only [List.size_toArray]; omega
            have HSz := Lib.hid Hsz
            have Hm1 := Lib.hid m1
            clear m1 m2 m3 Hsz hqe elen
            go_wp2_with (refine wpList_clear_cells rfl (.tmp 56) 58 23 rfl Try.underlying58 zeroU Try.zero23 zeroU_one g (kk * 2) (l.length - kk) (cap - kk) rfl (by omega) 23 rows'.flatten.toArray Hm1.out (by have := HSz.out; simp only [zeroU, List.length_cons, List.length_nil]; omega) ?_)
            intro zs hzs
            have HZ := Lib.hid hzs
            clear hzs
            go_wp2_with fail
            go_ret
            obtain ⟨xs', o1, o2, o3, o4⟩ := HM.out.finish (by rw [HQ.out]) hg (by omega) (by rw [maxLen_eq]; exact hcm) Hgl.out (fun b hb => ⟨(HSm.out b hb).1, (HSm.out b hb).2.1, fun e => (HSm.out b hb).2.2 (by rw [e]; rfl)⟩) zs (by rw [HZ.out]; rfl) Hm1.out rfl
            simp only [List.append_assoc] at o1 o2 o3 o4
            exact ⟨_, rfl, xs', o1, o2, o3, o4⟩
      · have e0 : tb = false := by rw [← HT.out]; exact decide_eq_false fun e => he (by rw [e]; exact (GoodAt.ordU _).refl)
        have He := Lib.hid he
        clear he
        subst e0
        go_wp2_with fail
        go_roundw
        case rel => exact ⟨k + 1, by omega, by go_num, HX.out.trans HX2.out, fun i a b hi ha hb => by
          by_cases hik : i = k
          · subst hik; rw [Hx.out] at ha; rw [Hy.out] at hb; cases ha; cases hb; exact He.out
          · exact Hall.out i a b (by omega) ha hb⟩
        case measure => simp [intOf]; omega
    · have hke : k + 1 = l.length := by omega
      have hd : dedup ordU l = l := by
        have := dedup_apart (l := l) (c := ordU) (k := k) (by omega) Hall.out
        rwa [hke, List.take_length] at this
      have HD := Lib.hid hd
      clear hke hd
      go_wp2_with fail
      go_ret
      rw [HD.out]
      refine ⟨_, rfl, xs, ownsRow_ext HOwn.out HX.out, ?_, HX.out.toBelow.mono (by have := hg; have := Hgl.out; omega), HX.out.drawn⟩
      exact (HF.out.alike (Alike.of_ext HX.out fun b hb => hb.2.1)).mono fun b hb => ⟨hb.1, Nat.lt_of_lt_of_le hb.2.1 HX.out.size, hb.2.2⟩

end Go.Proofs.Ytpkgkabcikmopaa
