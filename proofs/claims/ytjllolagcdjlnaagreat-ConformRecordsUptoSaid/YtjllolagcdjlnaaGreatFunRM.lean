/-
  The first of a row that something is so of, and whether there is one. The conditions: the row lies in memory as it should, and what is asked of each is answered.
-/
import Derived.Test.YtjllolagcdjlnaaGreatGd
namespace Go.Proofs.YtjllolagcdjlnaaGreat
open Go.RowKit

theorem Tryz.aggRV : ∀ w, (isAgg 35).run Tryz.prog w = .ok true w := fun _ => by kernel_rfl
theorem Tryz.sizeRV : ∀ w, (Go.sizeOf 35).run Tryz.prog w = .ok 8 w := fun _ => by kernel_rfl
set_option maxRecDepth 100000 in
set_option maxHeartbeats 400000 in
theorem indexFuncRV {α : Type} (R : Rep α) (hz : R.size = 8) (g : Nat) (cb : Array Value) (p : α → Bool) (S : Nat → Prop) (l : List α) (v : Value) (w : World) (eg : ∀ args w, (callFunc g args).run Tryz.prog w = .ok (.enter g args) w)
    (hS : ∀ b, S b → b < w.heap.size) (hl : R.RowsAt S w l v)
    (hc : ∀ x ∈ l, ∀ (cs : List Value) (w1 : World), Ext w w1 → R.At S w1 x cs → Calls Tryz.prog g (#[.agg cs.toArray] ++ cb) w1 fun e w' => e = .returned (.bool (p x)) ∧ Ext w1 w') :
    Calls Tryz.prog 112 #[v, .func (.func g) #[] cb] w fun e w' => e = .returned (.int .i64 (pos (fidx p l))) ∧ Ext w w' := by
  obtain ⟨A, cap, rfl, ⟨hl0, hl1, hl2⟩, hlr⟩ := hl
  rw [LIM_eq] at hl0
  rw [maxLen_eq] at hl2
  have HL := Lib.hid hlr
  have HS := Lib.hid hS
  have HC := Lib.hid hc
  have HZ := Lib.hid hz
  clear hlr hS hc hz
  go_enter Tryz.func112, Tryz.ntmps112
  go_wp2_with fail
  go_loopw [8] (fun i wr => ∃ k : Nat, k ≤ l.length ∧ i = .int .i64 k ∧ Ext w wr ∧ Hid (∀ i x, i < k → l[i]? = some x → p x = false)) (fun i _ => l.length - (intOf i).toNat)
  case atStart => exact ⟨0, Nat.zero_le _, rfl, Ext.refl w, fun _ _ h => by omega⟩
  case round =>
    obtain ⟨k, hk, rfl, hext, Hall⟩ := hrel
    have HX := Lib.hid hext
    clear hext
    by_cases hlt : k < l.length
    · obtain ⟨b, o, rfl, hSb, hrow⟩ := HL.out (by omega)
      obtain ⟨x, hx⟩ : ∃ x, l[k]? = some x := ⟨_, List.getElem?_eq_getElem hlt⟩
      obtain ⟨cs, hca, hat⟩ := hrow k x hx
      rw [HZ.out] at hca
      have Hcl := Lib.hid ((R.len hat).trans HZ.out)
      have Hca := Lib.hid (hca.alike hSb (Alike.of_ext HX.out HS.out))
      have Hx := Lib.hid hx
      have hgen := HC.out x (List.mem_of_getElem? hx) cs wr HX.out (R.alike hat (Alike.of_ext HX.out HS.out))
      generalize hpx : p x = px at *
      have HP := Lib.hid hpx
      have HG := Lib.hid hgen
      clear hx hca hrow hSb hpx hgen hat
      go_wp2_with (first | refine wpList_load_cells rfl 35 _ rfl b (o + k * 8) rfl Tryz.aggRV Tryz.sizeRV Hcl.out Hca.out ?_)
      refine HG.out.mono ?_
      rintro e w' ⟨rfl, hx2⟩
      have HX2 := Lib.hid hx2
      clear hx2
      cases px
      · go_wp2_with fail
        go_roundw
        case rel => exact ⟨k + 1, by omega, by go_num, HX.out.trans HX2.out, fun i y hi hy => by
          by_cases hik : i = k
          · subst hik; rw [Hx.out] at hy; cases hy; exact HP.out
          · exact Hall.out i y (by omega) hy⟩
        case measure => simp [intOf]; omega
      · go_wp2_with fail
        go_ret
        exact ⟨ret_int (by rw [fidx_some Hx.out HP.out Hall.out]; rfl), HX.out.trans HX2.out⟩
    · go_wp2_with fail
      go_ret
      have hke : k = l.length := by omega
      subst hke
      exact ⟨ret_int (by rw [fidx_none Hall.out]; rfl), HX.out⟩
theorem containsFuncRV {α : Type} (R : Rep α) (hz : R.size = 8) (g : Nat) (cb : Array Value) (p : α → Bool) (S : Nat → Prop) (l : List α) (v : Value) (w : World) (eg : ∀ args w, (callFunc g args).run Tryz.prog w = .ok (.enter g args) w)
    (hS : ∀ b, S b → b < w.heap.size) (hl : R.RowsAt S w l v)
    (hc : ∀ x ∈ l, ∀ (cs : List Value) (w1 : World), Ext w w1 → R.At S w1 x cs → Calls Tryz.prog g (#[.agg cs.toArray] ++ cb) w1 fun e w' => e = .returned (.bool (p x)) ∧ Ext w1 w') :
    Calls Tryz.prog 78 #[v, .func (.func g) #[] cb] w fun e w' => e = .returned (.bool (l.any p)) ∧ Ext w w' := by
  have hi := indexFuncRV R hz g cb p S l v w eg hS hl hc
  rw [← fidx_isSome]
  cases hf : fidx p l with
  | none =>
    rw [hf] at hi
    have HI := Lib.hid hi
    clear hi hc hS hl hf eg
    go_enter Tryz.func78, Tryz.ntmps78
    go_wp2_with (go_at_call 112; refine HI.out.mono ?_; rintro e w' ⟨rfl, hx2⟩; have HX2 := Lib.hid hx2; clear hx2)
    go_ret
    exact ⟨rfl, HX2.out⟩
  | some i =>
    rw [hf] at hi
    have HI := Lib.hid hi
    clear hi hc hS hl hf eg
    go_enter Tryz.func78, Tryz.ntmps78
    go_wp2_with (go_at_call 112; refine HI.out.mono ?_; rintro e w' ⟨rfl, hx2⟩; have HX2 := Lib.hid hx2; clear hx2)
    go_ret
    exact ⟨ret_bool (by simp [pos]), HX2.out⟩

theorem Tryz.aggRE : ∀ w, (isAgg 37).run Tryz.prog w = .ok true w := fun _ => by kernel_rfl
theorem Tryz.sizeRE : ∀ w, (Go.sizeOf 37).run Tryz.prog w = .ok 11 w := fun _ => by kernel_rfl
set_option maxRecDepth 100000 in
set_option maxHeartbeats 400000 in
theorem indexFuncRE {α : Type} (R : Rep α) (hz : R.size = 11) (g : Nat) (cb : Array Value) (p : α → Bool) (S : Nat → Prop) (l : List α) (v : Value) (w : World) (eg : ∀ args w, (callFunc g args).run Tryz.prog w = .ok (.enter g args) w)
    (hS : ∀ b, S b → b < w.heap.size) (hl : R.RowsAt S w l v)
    (hc : ∀ x ∈ l, ∀ (cs : List Value) (w1 : World), Ext w w1 → R.At S w1 x cs → Calls Tryz.prog g (#[.agg cs.toArray] ++ cb) w1 fun e w' => e = .returned (.bool (p x)) ∧ Ext w1 w') :
    Calls Tryz.prog 120 #[v, .func (.func g) #[] cb] w fun e w' => e = .returned (.int .i64 (pos (fidx p l))) ∧ Ext w w' := by
  obtain ⟨A, cap, rfl, ⟨hl0, hl1, hl2⟩, hlr⟩ := hl
  rw [LIM_eq] at hl0
  rw [maxLen_eq] at hl2
  have HL := Lib.hid hlr
  have HS := Lib.hid hS
  have HC := Lib.hid hc
  have HZ := Lib.hid hz
  clear hlr hS hc hz
  go_enter Tryz.func120, Tryz.ntmps120
  go_wp2_with fail
  go_loopw [8] (fun i wr => ∃ k : Nat, k ≤ l.length ∧ i = .int .i64 k ∧ Ext w wr ∧ Hid (∀ i x, i < k → l[i]? = some x → p x = false)) (fun i _ => l.length - (intOf i).toNat)
  case atStart => exact ⟨0, Nat.zero_le _, rfl, Ext.refl w, fun _ _ h => by omega⟩
  case round =>
    obtain ⟨k, hk, rfl, hext, Hall⟩ := hrel
    have HX := Lib.hid hext
    clear hext
    by_cases hlt : k < l.length
    · obtain ⟨b, o, rfl, hSb, hrow⟩ := HL.out (by omega)
      obtain ⟨x, hx⟩ : ∃ x, l[k]? = some x := ⟨_, List.getElem?_eq_getElem hlt⟩
      obtain ⟨cs, hca, hat⟩ := hrow k x hx
      rw [HZ.out] at hca
      have Hcl := Lib.hid ((R.len hat).trans HZ.out)
      have Hca := Lib.hid (hca.alike hSb (Alike.of_ext HX.out HS.out))
      have Hx := Lib.hid hx
      have hgen := HC.out x (List.mem_of_getElem? hx) cs wr HX.out (R.alike hat (Alike.of_ext HX.out HS.out))
      generalize hpx : p x = px at *
      have HP := Lib.hid hpx
      have HG := Lib.hid hgen
      clear hx hca hrow hSb hpx hgen hat
      go_wp2_with (first | refine wpList_load_cells rfl 37 _ rfl b (o + k * 11) rfl Tryz.aggRE Tryz.sizeRE Hcl.out Hca.out ?_)
      refine HG.out.mono ?_
      rintro e w' ⟨rfl, hx2⟩
      have HX2 := Lib.hid hx2
      clear hx2
      cases px
      · go_wp2_with fail
        go_roundw
        case rel => exact ⟨k + 1, by omega, by go_num, HX.out.trans HX2.out, fun i y hi hy => by
          by_cases hik : i = k
          · subst hik; rw [Hx.out] at hy; cases hy; exact HP.out
          · exact Hall.out i y (by omega) hy⟩
        case measure => simp [intOf]; omega
      · go_wp2_with fail
        go_ret
        exact ⟨ret_int (by rw [fidx_some Hx.out HP.out Hall.out]; rfl), HX.out.trans HX2.out⟩
    · go_wp2_with fail
      go_ret
      have hke : k = l.length := by omega
      subst hke
      exact ⟨ret_int (by rw [fidx_none Hall.out]; rfl), HX.out⟩
theorem containsFuncRE {α : Type} (R : Rep α) (hz : R.size = 11) (g : Nat) (cb : Array Value) (p : α → Bool) (S : Nat → Prop) (l : List α) (v : Value) (w : World) (eg : ∀ args w, (callFunc g args).run Tryz.prog w = .ok (.enter g args) w)
    (hS : ∀ b, S b → b < w.heap.size) (hl : R.RowsAt S w l v)
    (hc : ∀ x ∈ l, ∀ (cs : List Value) (w1 : World), Ext w w1 → R.At S w1 x cs → Calls Tryz.prog g (#[.agg cs.toArray] ++ cb) w1 fun e w' => e = .returned (.bool (p x)) ∧ Ext w1 w') :
    Calls Tryz.prog 91 #[v, .func (.func g) #[] cb] w fun e w' => e = .returned (.bool (l.any p)) ∧ Ext w w' := by
  have hi := indexFuncRE R hz g cb p S l v w eg hS hl hc
  rw [← fidx_isSome]
  cases hf : fidx p l with
  | none =>
    rw [hf] at hi
    have HI := Lib.hid hi
    clear hi hc hS hl hf eg
    go_enter Tryz.func91, Tryz.ntmps91
    go_wp2_with (go_at_call 120; refine HI.out.mono ?_; rintro e w' ⟨rfl, hx2⟩; have HX2 := Lib.hid hx2; clear hx2)
    go_ret
    exact ⟨rfl, HX2.out⟩
  | some i =>
    rw [hf] at hi
    have HI := Lib.hid hi
    clear hi hc hS hl hf eg
    go_enter Tryz.func91, Tryz.ntmps91
    go_wp2_with (go_at_call 120; refine HI.out.mono ?_; rintro e w' ⟨rfl, hx2⟩; have HX2 := Lib.hid hx2; clear hx2)
    go_ret
    exact ⟨ret_bool (by simp [pos]), HX2.out⟩

theorem Tryz.aggRA : ∀ w, (isAgg 83).run Tryz.prog w = .ok true w := fun _ => by kernel_rfl
theorem Tryz.sizeRA : ∀ w, (Go.sizeOf 83).run Tryz.prog w = .ok 6 w := fun _ => by kernel_rfl
set_option maxRecDepth 100000 in
set_option maxHeartbeats 400000 in
theorem indexFuncRA {α : Type} (R : Rep α) (hz : R.size = 6) (g : Nat) (cb : Array Value) (p : α → Bool) (S : Nat → Prop) (l : List α) (v : Value) (w : World) (eg : ∀ args w, (callFunc g args).run Tryz.prog w = .ok (.enter g args) w)
    (hS : ∀ b, S b → b < w.heap.size) (hl : R.RowsAt S w l v)
    (hc : ∀ x ∈ l, ∀ (cs : List Value) (w1 : World), Ext w w1 → R.At S w1 x cs → Calls Tryz.prog g (#[.agg cs.toArray] ++ cb) w1 fun e w' => e = .returned (.bool (p x)) ∧ Ext w1 w') :
    Calls Tryz.prog 156 #[v, .func (.func g) #[] cb] w fun e w' => e = .returned (.int .i64 (pos (fidx p l))) ∧ Ext w w' := by
  obtain ⟨A, cap, rfl, ⟨hl0, hl1, hl2⟩, hlr⟩ := hl
  rw [LIM_eq] at hl0
  rw [maxLen_eq] at hl2
  have HL := Lib.hid hlr
  have HS := Lib.hid hS
  have HC := Lib.hid hc
  have HZ := Lib.hid hz
  clear hlr hS hc hz
  go_enter Tryz.func156, Tryz.ntmps156
  go_wp2_with fail
  go_loopw [8] (fun i wr => ∃ k : Nat, k ≤ l.length ∧ i = .int .i64 k ∧ Ext w wr ∧ Hid (∀ i x, i < k → l[i]? = some x → p x = false)) (fun i _ => l.length - (intOf i).toNat)
  case atStart => exact ⟨0, Nat.zero_le _, rfl, Ext.refl w, fun _ _ h => by omega⟩
  case round =>
    obtain ⟨k, hk, rfl, hext, Hall⟩ := hrel
    have HX := Lib.hid hext
    clear hext
    by_cases hlt : k < l.length
    · obtain ⟨b, o, rfl, hSb, hrow⟩ := HL.out (by omega)
      obtain ⟨x, hx⟩ : ∃ x, l[k]? = some x := ⟨_, List.getElem?_eq_getElem hlt⟩
      obtain ⟨cs, hca, hat⟩ := hrow k x hx
      rw [HZ.out] at hca
      have Hcl := Lib.hid ((R.len hat).trans HZ.out)
      have Hca := Lib.hid (hca.alike hSb (Alike.of_ext HX.out HS.out))
      have Hx := Lib.hid hx
      have hgen := HC.out x (List.mem_of_getElem? hx) cs wr HX.out (R.alike hat (Alike.of_ext HX.out HS.out))
      generalize hpx : p x = px at *
      have HP := Lib.hid hpx
      have HG := Lib.hid hgen
      clear hx hca hrow hSb hpx hgen hat
      go_wp2_with (first | refine wpList_load_cells rfl 83 _ rfl b (o + k * 6) rfl Tryz.aggRA Tryz.sizeRA Hcl.out Hca.out ?_)
      refine HG.out.mono ?_
      rintro e w' ⟨rfl, hx2⟩
      have HX2 := Lib.hid hx2
      clear hx2
      cases px
      · go_wp2_with fail
        go_roundw
        case rel => exact ⟨k + 1, by omega, by go_num, HX.out.trans HX2.out, fun i y hi hy => by
          by_cases hik : i = k
          · subst hik; rw [Hx.out] at hy; cases hy; exact HP.out
          · exact Hall.out i y (by omega) hy⟩
        case measure => simp [intOf]; omega
      · go_wp2_with fail
        go_ret
        exact ⟨ret_int (by rw [fidx_some Hx.out HP.out Hall.out]; rfl), HX.out.trans HX2.out⟩
    · go_wp2_with fail
      go_ret
      have hke : k = l.length := by omega
      subst hke
      exact ⟨ret_int (by rw [fidx_none Hall.out]; rfl), HX.out⟩
theorem containsFuncRA {α : Type} (R : Rep α) (hz : R.size = 6) (g : Nat) (cb : Array Value) (p : α → Bool) (S : Nat → Prop) (l : List α) (v : Value) (w : World) (eg : ∀ args w, (callFunc g args).run Tryz.prog w = .ok (.enter g args) w)
    (hS : ∀ b, S b → b < w.heap.size) (hl : R.RowsAt S w l v)
    (hc : ∀ x ∈ l, ∀ (cs : List Value) (w1 : World), Ext w w1 → R.At S w1 x cs → Calls Tryz.prog g (#[.agg cs.toArray] ++ cb) w1 fun e w' => e = .returned (.bool (p x)) ∧ Ext w1 w') :
    Calls Tryz.prog 115 #[v, .func (.func g) #[] cb] w fun e w' => e = .returned (.bool (l.any p)) ∧ Ext w w' := by
  have hi := indexFuncRA R hz g cb p S l v w eg hS hl hc
  rw [← fidx_isSome]
  cases hf : fidx p l with
  | none =>
    rw [hf] at hi
    have HI := Lib.hid hi
    clear hi hc hS hl hf eg
    go_enter Tryz.func115, Tryz.ntmps115
    go_wp2_with (go_at_call 156; refine HI.out.mono ?_; rintro e w' ⟨rfl, hx2⟩; have HX2 := Lib.hid hx2; clear hx2)
    go_ret
    exact ⟨rfl, HX2.out⟩
  | some i =>
    rw [hf] at hi
    have HI := Lib.hid hi
    clear hi hc hS hl hf eg
    go_enter Tryz.func115, Tryz.ntmps115
    go_wp2_with (go_at_call 156; refine HI.out.mono ?_; rintro e w' ⟨rfl, hx2⟩; have HX2 := Lib.hid hx2; clear hx2)
    go_ret
    exact ⟨ret_bool (by simp [pos]), HX2.out⟩

theorem Tryz.aggRT : ∀ w, (isAgg 112).run Tryz.prog w = .ok true w := fun _ => by kernel_rfl
theorem Tryz.sizeRT : ∀ w, (Go.sizeOf 112).run Tryz.prog w = .ok 3 w := fun _ => by kernel_rfl
set_option maxRecDepth 100000 in
set_option maxHeartbeats 400000 in
theorem indexFuncRT {α : Type} (R : Rep α) (hz : R.size = 3) (g : Nat) (cb : Array Value) (p : α → Bool) (S : Nat → Prop) (l : List α) (v : Value) (w : World) (eg : ∀ args w, (callFunc g args).run Tryz.prog w = .ok (.enter g args) w)
    (hS : ∀ b, S b → b < w.heap.size) (hl : R.RowsAt S w l v)
    (hc : ∀ x ∈ l, ∀ (cs : List Value) (w1 : World), Ext w w1 → R.At S w1 x cs → Calls Tryz.prog g (#[.agg cs.toArray] ++ cb) w1 fun e w' => e = .returned (.bool (p x)) ∧ Ext w1 w') :
    Calls Tryz.prog 121 #[v, .func (.func g) #[] cb] w fun e w' => e = .returned (.int .i64 (pos (fidx p l))) ∧ Ext w w' := by
  obtain ⟨A, cap, rfl, ⟨hl0, hl1, hl2⟩, hlr⟩ := hl
  rw [LIM_eq] at hl0
  rw [maxLen_eq] at hl2
  have HL := Lib.hid hlr
  have HS := Lib.hid hS
  have HC := Lib.hid hc
  have HZ := Lib.hid hz
  clear hlr hS hc hz
  go_enter Tryz.func121, Tryz.ntmps121
  go_wp2_with fail
  go_loopw [8] (fun i wr => ∃ k : Nat, k ≤ l.length ∧ i = .int .i64 k ∧ Ext w wr ∧ Hid (∀ i x, i < k → l[i]? = some x → p x = false)) (fun i _ => l.length - (intOf i).toNat)
  case atStart => exact ⟨0, Nat.zero_le _, rfl, Ext.refl w, fun _ _ h => by omega⟩
  case round =>
    obtain ⟨k, hk, rfl, hext, Hall⟩ := hrel
    have HX := Lib.hid hext
    clear hext
    by_cases hlt : k < l.length
    · obtain ⟨b, o, rfl, hSb, hrow⟩ := HL.out (by omega)
      obtain ⟨x, hx⟩ : ∃ x, l[k]? = some x := ⟨_, List.getElem?_eq_getElem hlt⟩
      obtain ⟨cs, hca, hat⟩ := hrow k x hx
      rw [HZ.out] at hca
      have Hcl := Lib.hid ((R.len hat).trans HZ.out)
      have Hca := Lib.hid (hca.alike hSb (Alike.of_ext HX.out HS.out))
      have Hx := Lib.hid hx
      have hgen := HC.out x (List.mem_of_getElem? hx) cs wr HX.out (R.alike hat (Alike.of_ext HX.out HS.out))
      generalize hpx : p x = px at *
      have HP := Lib.hid hpx
      have HG := Lib.hid hgen
      clear hx hca hrow hSb hpx hgen hat
      go_wp2_with (first | refine wpList_load_cells rfl 112 _ rfl b (o + k * 3) rfl Tryz.aggRT Tryz.sizeRT Hcl.out Hca.out ?_)
      refine HG.out.mono ?_
      rintro e w' ⟨rfl, hx2⟩
      have HX2 := Lib.hid hx2
      clear hx2
      cases px
      · go_wp2_with fail
        go_roundw
        case rel => exact ⟨k + 1, by omega, by go_num, HX.out.trans HX2.out, fun i y hi hy => by
          by_cases hik : i = k
          · subst hik; rw [Hx.out] at hy; cases hy; exact HP.out
          · exact Hall.out i y (by omega) hy⟩
        case measure => simp [intOf]; omega
      · go_wp2_with fail
        go_ret
        exact ⟨ret_int (by rw [fidx_some Hx.out HP.out Hall.out]; rfl), HX.out.trans HX2.out⟩
    · go_wp2_with fail
      go_ret
      have hke : k = l.length := by omega
      subst hke
      exact ⟨ret_int (by rw [fidx_none Hall.out]; rfl), HX.out⟩

theorem Tryz.aggRC : ∀ w, (isAgg 114).run Tryz.prog w = .ok true w := fun _ => by kernel_rfl
theorem Tryz.sizeRC : ∀ w, (Go.sizeOf 114).run Tryz.prog w = .ok 5 w := fun _ => by kernel_rfl
set_option maxRecDepth 100000 in
set_option maxHeartbeats 400000 in
theorem indexFuncRC {α : Type} (R : Rep α) (hz : R.size = 5) (g : Nat) (cb : Array Value) (p : α → Bool) (S : Nat → Prop) (l : List α) (v : Value) (w : World) (eg : ∀ args w, (callFunc g args).run Tryz.prog w = .ok (.enter g args) w)
    (hS : ∀ b, S b → b < w.heap.size) (hl : R.RowsAt S w l v)
    (hc : ∀ x ∈ l, ∀ (cs : List Value) (w1 : World), Ext w w1 → R.At S w1 x cs → Calls Tryz.prog g (#[.agg cs.toArray] ++ cb) w1 fun e w' => e = .returned (.bool (p x)) ∧ Ext w1 w') :
    Calls Tryz.prog 124 #[v, .func (.func g) #[] cb] w fun e w' => e = .returned (.int .i64 (pos (fidx p l))) ∧ Ext w w' := by
  obtain ⟨A, cap, rfl, ⟨hl0, hl1, hl2⟩, hlr⟩ := hl
  rw [LIM_eq] at hl0
  rw [maxLen_eq] at hl2
  have HL := Lib.hid hlr
  have HS := Lib.hid hS
  have HC := Lib.hid hc
  have HZ := Lib.hid hz
  clear hlr hS hc hz
  go_enter Tryz.func124, Tryz.ntmps124
  go_wp2_with fail
  go_loopw [8] (fun i wr => ∃ k : Nat, k ≤ l.length ∧ i = .int .i64 k ∧ Ext w wr ∧ Hid (∀ i x, i < k → l[i]? = some x → p x = false)) (fun i _ => l.length - (intOf i).toNat)
  case atStart => exact ⟨0, Nat.zero_le _, rfl, Ext.refl w, fun _ _ h => by omega⟩
  case round =>
    obtain ⟨k, hk, rfl, hext, Hall⟩ := hrel
    have HX := Lib.hid hext
    clear hext
    by_cases hlt : k < l.length
    · obtain ⟨b, o, rfl, hSb, hrow⟩ := HL.out (by omega)
      obtain ⟨x, hx⟩ : ∃ x, l[k]? = some x := ⟨_, List.getElem?_eq_getElem hlt⟩
      obtain ⟨cs, hca, hat⟩ := hrow k x hx
      rw [HZ.out] at hca
      have Hcl := Lib.hid ((R.len hat).trans HZ.out)
      have Hca := Lib.hid (hca.alike hSb (Alike.of_ext HX.out HS.out))
      have Hx := Lib.hid hx
      have hgen := HC.out x (List.mem_of_getElem? hx) cs wr HX.out (R.alike hat (Alike.of_ext HX.out HS.out))
      generalize hpx : p x = px at *
      have HP := Lib.hid hpx
      have HG := Lib.hid hgen
      clear hx hca hrow hSb hpx hgen hat
      go_wp2_with (first | refine wpList_load_cells rfl 114 _ rfl b (o + k * 5) rfl Tryz.aggRC Tryz.sizeRC Hcl.out Hca.out ?_)
      refine HG.out.mono ?_
      rintro e w' ⟨rfl, hx2⟩
      have HX2 := Lib.hid hx2
      clear hx2
      cases px
      · go_wp2_with fail
        go_roundw
        case rel => exact ⟨k + 1, by omega, by go_num, HX.out.trans HX2.out, fun i y hi hy => by
          by_cases hik : i = k
          · subst hik; rw [Hx.out] at hy; cases hy; exact HP.out
          · exact Hall.out i y (by omega) hy⟩
        case measure => simp [intOf]; omega
      · go_wp2_with fail
        go_ret
        exact ⟨ret_int (by rw [fidx_some Hx.out HP.out Hall.out]; rfl), HX.out.trans HX2.out⟩
    · go_wp2_with fail
      go_ret
      have hke : k = l.length := by omega
      subst hke
      exact ⟨ret_int (by rw [fidx_none Hall.out]; rfl), HX.out⟩

end Go.Proofs.YtjllolagcdjlnaaGreat
