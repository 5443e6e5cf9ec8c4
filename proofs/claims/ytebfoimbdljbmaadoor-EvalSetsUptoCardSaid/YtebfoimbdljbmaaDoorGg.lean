/-
  What a law's arguments read as, as plain data in memory; that they read as they did. The conditions: what is read is of bulk at most 1048576.
-/
import Derived.ProofKit
import Derived.OpenShut
import Derived.JoinedCond
import Derived.Deep.Slices
import Derived.Carry
import Derived.Test.YtebfoimbdljbmaaDoorGb
import Derived.Below
import Derived.ChangeSame
import Derived.WideKeyArgs
import Derived.Test.YtebfoimbdljbmaaDoorGc
import Derived.Test.YtebfoimbdljbmaaDoorGd
namespace Go.Proofs.YtebfoimbdljbmaaDoor
open Go.ChangeShapes Go.WideShapes Go.ChangeAt Go.RowKit Go.Deep

theorem bulk_pos {H : Type} (d : DataW H) : 1 ≤ Rows.uptoBulk d := by
  cases d with
  | lit l => cases l <;> simp [Rows.uptoBulk]
  | nil => simp [Rows.uptoBulk]
  | ptr d => simp [Rows.uptoBulk]
  | slice elems spare => simp [Rows.uptoBulk]
  | agg parts => simp [Rows.uptoBulk]
  | iface t d => simp [Rows.uptoBulk]
  | map entries => simp [Rows.uptoBulk]
  | held h => simp [Rows.uptoBulk]
theorem bulk_length {H : Type} : ∀ l : List (DataW H), l.length ≤ Rows.uptoBulkAll l
  | [] => by simp [Rows.uptoBulkAll]
  | x :: r => by have := bulk_pos x; have := bulk_length r; simp only [Rows.uptoBulkAll, List.length_cons]; omega
section
variable {H : Type} {enc : TypeId × Value → H} {W : World}

end
end Go.Proofs.YtebfoimbdljbmaaDoor

/-
  A law's last step: the call answered true and left old memory alone: what was read reads as it did. The conditions: none beyond the form's own.
-/
namespace Go.Proofs.YtebfoimbdljbmaaDoor
open Go.ChangeShapes Go.WideShapes Go.ChangeAt Go.RowKit

theorem own : ownKnob Tryd.prog.godebug = none := by kernel_rfl
theorem laidOut : laidOutB Tryd.prog = true := by kernel_rfl

section
variable {H : Type} {enc : TypeId × Value → H}

/-- the arguments read as they did -/
theorem args_stay {W W' : World} (hb : Below W.heap.size W W') : ∀ (ts : List TypeId) (vs : List Value) (ds : List (DataW H)) (ps : List MemPlace) (sp : Nat → Bool), (∀ t ∈ ts, Tryd.prog.readableRec t = true ∧ t < Tryd.prog.types.size) →
    DataW.TrodAll enc Tryd.prog W 0 (fun _ => true) true ts vs ds ps → (∀ x ∈ ps, x.block < W.heap.size) → (∀ x ∈ ps, sp x.block = true) → DataW.TrodAll enc Tryd.prog W' 0 sp true ts vs ds ps
  | [], [], [], _, _, _, h, _, _ => h
  | t :: ts, v :: vs, d :: ds, ps, sp, hr, h, hlt, hs => by
    obtain ⟨p, q, h1, h2, rfl⟩ := h
    refine ⟨p, q, ?_, args_stay hb ts vs ds q sp (fun u hu => hr u (by simp [hu])) h2 (fun x hx => hlt x (by simp [hx])) (fun x hx => hs x (by simp [hx])), rfl⟩
    exact WideElems.Trod_stays laidOut (hr t (by simp)).1 (hr t (by simp)).2 h1 (fun x hx => hb.same (hlt x (by simp [hx]))) (fun x hx => hs x (by simp [hx]))
  | [], _ :: _, _, _, _, _, h, _, _ => by simp [DataW.TrodAll] at h
  | [], [], _ :: _, _, _, _, h, _, _ => by simp [DataW.TrodAll] at h
  | _ :: _, [], _, _, _, _, h, _, _ => by simp [DataW.TrodAll] at h
  | _ :: _, _ :: _, [], _, _, _, h, _, _ => by simp [DataW.TrodAll] at h

set_option maxRecDepth 100000 in
/-- the law's end -/
theorem law_post {f : Func} {s : ChangeSpec} {W W' : World} {args : Array Value} {ds gs : List (DataW H)} {before : List MemPlace} (hr : f.resultTypes = #[4]) (hv : s.vars = [])
    (hrd : ∀ t ∈ f.params.toList, Tryd.prog.readableRec t = true ∧ t < Tryd.prog.types.size) (hW : DataW.Whole enc Tryd.prog f.params.toList s.vars false W args.toList ds gs before)
    (hfn : s.fn H ds = { results := [.lit (.bool true)], args := ds }) (hb : Below W.heap.size W W') : s.post enc Tryd.prog f false true false false W args (.bool true) W' := by
  have hlt : ∀ p ∈ before, p.block < W.heap.size := fun p hp => hW.lt p hp
  have hold : ∀ p ∈ before, (fun b => decide (b < W.heap.size)) p.block = true := fun p hp => by simpa using hlt p hp
  have hW0 := hW
  obtain ⟨p, q, hA, hV, hpq, hz, hn⟩ := hW
  rw [hv] at hV
  obtain ⟨rfl, rfl⟩ := trodVars_none hV
  rw [List.append_nil] at hpq
  subst hpq
  have hfn' : s.fn H (ds ++ []) = { results := [.lit (.bool true)], args := ds } := by rw [List.append_nil]; exact hfn
  have hargs : ∀ sp : Nat → Bool, (∀ x ∈ before, sp x.block = true) → DataW.TrodAll enc Tryd.prog W' 0 sp true f.params.toList args.toList (s.fn H (ds ++ [])).args before := fun sp hsp => by
    rw [hfn']
    exact args_stay hb _ _ _ _ sp hrd hA hlt hsp
  have hres : ∀ (b : Nat) (sp : Nat → Bool) (hd : Bool), DataW.TrodAll enc Tryd.prog W' b sp hd f.resultTypes.toList ((Value.bool true).resultList f.resultTypes.size) (s.fn H (ds ++ [])).results [] := fun b sp hd => by
    rw [hfn', hr]
    exact trodAll_cons_mk (shut_bool Tryd.underlying4 _) trodAll_mk0
  have hvars : ∀ sp : Nat → Bool, DataW.TrodVars enc Tryd.prog W' sp s.vars (s.fn H (ds ++ [])).vars [] := fun sp => by
    rw [hfn', hv]; exact rfl
  refine ⟨ds, [], before, [], before, [], hW0, hres _ _ _, hargs _ hold, hvars _, World.keptBut_mono (fun p hp => ⟨hp, .inr (.inl hp)⟩) (hb.frame (· ∈ before)), fun _ => ?_⟩
  refine ⟨ok_one hr rfl (okWide_bool_mk Tryd.underlying4 _), _, _, ([] ++ before) ++ [], ⟨[] ++ before, [], trodAll_append (hargs _ (fun _ _ => rfl)) (hres _ _ _), hvars _, rfl, ?_, ?_⟩, ?_⟩
  · intro b off hp
    have hin : MemPlace.cell b off ∈ before := by simpa using hp
    rw [hb.frozen (hlt _ hin)]
    exact hz b off hin
  · intro ha; cases ha
  · intro p hp _
    simpa using hp
end

end Go.Proofs.YtebfoimbdljbmaaDoor

/-
  A law's argument that is a slice of values, or of strings, as plain data; rows as cells. The conditions: what is read is of bulk at most 1048576.
-/
namespace Go.Proofs.YtebfoimbdljbmaaDoor
open Go.ChangeShapes Go.WideShapes Go.ChangeAt Go.RowKit Go.Deep

section
variable {H : Type} {enc : TypeId × Value → H} {W : World}
end
/-! ### rows as cells -/
theorem ValsAt.mono {S S' : Nat → Prop} {w : World} {l : List Val} {v : Value} (h : ValsAt S w l v) (k : ∀ b, S b → S' b) : ValsAt S' w l v := by
  obtain ⟨A, cap, e, h1, h2⟩ := h
  exact ⟨A, cap, e, h1, fun hn => let ⟨b, o, e, hs, hr⟩ := h2 hn; ⟨b, o, e, k b hs, Val.RowAt.mono k l b o hr⟩⟩
def ValsW (W : World) (l : List Val) (v : Value) : Prop := ValsAt (fun b => b < W.heap.size) W l v
theorem ValsW.ext {W W' : World} {l : List Val} {v : Value} (h : ValsW W l v) (k : Ext W W') : ValsW W' l v := (ValsAt.alike h (Alike.of_ext k fun _ h => h)).mono fun _ hb => Nat.lt_of_lt_of_le hb k.size
theorem Flat.append {S : Nat → Prop} {w : World} : ∀ {l m : List Val} {xs ys : List Value}, Flat S w l xs → Flat S w m ys → Flat S w (l ++ m) (xs ++ ys)
  | [], m, xs, ys, h, k => by simp only [Flat] at h; subst h; simpa using k
  | v :: r, m, xs, ys, ⟨c, zs, e, hv, hr⟩, k => by
    subst e
    exact ⟨c, zs ++ ys, by simp, hv, Flat.append hr k⟩
theorem InW.items {W : World} {v : Val} {v0 v1 v2 v3 v4 v5 v7 : Value} {A : Option Addr} {n c : Nat} (h : InW W v [v0, v1, v2, v3, v4, v5, .slice A n c, v7]) : v.items.length = n ∧ n ≤ 1073741824 := by
  cases v
  unfold InW Val.At at h
  obtain ⟨A', cap', nv, e, _, ⟨h1, _⟩, _⟩ := h
  simp only [List.cons.injEq, Value.slice.injEq] at e
  obtain ⟨_, _, _, _, _, _, ⟨_, e, _⟩, _⟩ := e
  rw [LIM_eq] at h1
  exact ⟨e.symm, by rw [e]; exact h1⟩
end Go.Proofs.YtebfoimbdljbmaaDoor
