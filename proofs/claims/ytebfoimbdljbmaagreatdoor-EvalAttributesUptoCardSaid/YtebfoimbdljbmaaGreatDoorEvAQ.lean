/-
  Attributes of records and of entities, as the program's evaluation has them. The conditions: what is handed in lies in memory as it should.
-/
import Derived.Test.YtebfoimbdljbmaaGreatDoorEvSQ
import Derived.Test.YtebfoimbdljbmaaGreatDoorKnownQ
namespace Go.Proofs.YtebfoimbdljbmaaGreatDoor
open Go.RowKit
open Lib renaming hid → q_
set_option maxRecDepth 100000
set_option maxHeartbeats 4000000
theorem zds {P : Program} {fn : Func} {tmps : Array Value} {w : World} {a t u : Tmp} {T : TypeId} {g n : Nat} {cs : List Value} (h : fn.results = #[.cell a T, .tmp t, .tmp u]) (hp : tmps.getD a undef = .pointer (some ⟨g, 0, none⟩))
  (hA : ∀ w, (isAgg T).run P w = .ok true w) (hz : ∀ w, (Go.sizeOf T).run P w = .ok n w) (hn : cs.length = n) (hc : CellsAt w g 0 cs) : (results fn tmps).run P w = .ok (.tuple #[.agg cs.toArray, tmps.getD t undef, tmps.getD u undef]) w := by
 have hp' : tmps[a]?.getD undef = .pointer (some ⟨g, 0, none⟩) := by simpa using hp
 simp [results, h, hp', asAddr, zcb hA hz hn hc]
def AttrsPost (S : Nat → Prop) (a : Val × Bool × Int) (w : World) (e : Ending) (w' : World) : Prop := ∃ cs : List Value, e = .returned (.tuple #[.agg cs.toArray, .bool a.2.1, .int .i64 a.2.2]) ∧ Val.At (fun b => S b ∨ Fresh w.heap.size w' b) w' a.1 cs ∧ Ext w w'
theorem Tryz.fieldRk (g : Nat) : ∀ w, (Instr.fieldAt 80 (.pointer (some ⟨g, 0, none⟩)) 1).run Tryz.prog w = .ok (.pointer (some ⟨g, 14, none⟩)) w := by
 intro w; simp [Instr.fieldAt, go_sem]
theorem Tryz.fieldVu (g : Nat) : ∀ w, (Instr.fieldAt 27 (.pointer (some ⟨g, 0, none⟩)) 4).run Tryz.prog w = .ok (.pointer (some ⟨g, 4, none⟩)) w := by
 intro w; simp [Instr.fieldAt, go_sem]
theorem Tryz.aggPs : ∀ w, (isAgg 42).run Tryz.prog w = .ok false w := fun _ => by kernel_rfl
theorem Tryz.allocEn : ∀ w, (Instr.alloc 87 true (.tuple #[])).run Tryz.prog w = .ok (.pointer (some ⟨w.heap.size, 0, none⟩)) (w.alloc (.cells zeroEnt.toArray 87)) := by
 intro w; simp [Instr.alloc, go_sem, zeroEnt, zap, zeroCells]; rfl
theorem zeroEnt_one : ∀ v ∈ zeroEnt, v.oneCell' = true := by decide
def EntIn (c : List Ent) (u : Uid) (lo hi : Nat) (cs : List Value) (W : World) : Prop := (idx (c.map Ent.uid) u = none ∧ cs = zeroEnt) ∨ ∃ i x, idx (c.map Ent.uid) u = some i ∧ c[i]? = some x ∧ entR.At (fun b => lo ≤ b ∧ b < hi) W x cs
theorem EntIn.alike {c : List Ent} {u : Uid} {lo hi : Nat} {cs : List Value} {W W' : World} (h : EntIn c u lo hi cs W) (k : Alike (fun b => lo ≤ b ∧ b < hi) W W') : EntIn c u lo hi cs W' := by
 rcases h with h | ⟨i, x, h1, h2, h3⟩
 ·exact .inl h
 ·exact .inr ⟨i, x, h1, h2, entR.alike h3 k⟩
theorem EntIn.len {c : List Ent} {u : Uid} {lo hi : Nat} {cs : List Value} {W : World} (h : EntIn c u lo hi cs W) : cs.length = 11 ∧ ∀ v ∈ cs, v.oneCell' = true := by
 rcases h with ⟨_, rfl⟩ | ⟨i, x, h1, h2, h3⟩
 ·exact ⟨rfl, zeroEnt_one⟩
 ·exact ⟨entR.len h3, entR.one h3⟩
theorem zal {xs : List Value} {i k : Nat} {v : Value} (h : i ≠ k) : (xs.set i v).getD k undef = xs.getD k undef := by
 rw [List.getD_eq_getElem?_getD, List.getElem?_set_ne h, ← List.getD_eq_getElem?_getD]
theorem zbu {xs : List Value} {i : Nat} {v : Value} (h : i < xs.length) : (xs.set i v).getD i undef = v := by
 rw [List.getD_eq_getElem?_getD, List.getElem?_set_self h]; rfl
def AttJ (c : List Ent) (g vb : Nat) (pv : Value) (u : Uid) (hb : Bool) (w0 : World) (L : Nat → Bool) (xs : List Value) (W : World) : Prop := ∃ (cs : List Value) (lo hi nb : Nat), Ext w0 W ∧ (L 0 = true → xs.getD 0 undef = .pointer (some ⟨g, 0, none⟩)) ∧ (L 1 = true → xs.getD 1 undef = .pointer (some ⟨g, 0, none⟩)) ∧ (L 2 = true → xs.getD 2 undef = .pointer (some ⟨g, 14, none⟩)) ∧ (L 3 = true → xs.getD 3 undef = pv) ∧ (L 4 = true → xs.getD 4 undef = .pointer (some ⟨vb, 4, none⟩)) ∧ (L 5 = true → xs.getD 5 undef = .agg [Value.string u.1, .string u.2].toArray) ∧ (L 6 = true → xs.getD 6 undef = .tuple #[.agg cs.toArray, .bool hb] ∧ w0.heap.size ≤ lo ∧ hi ≤ W.heap.size ∧ EntIn c u lo hi cs W) ∧ (L 7 = true → xs.getD 7 undef = .tuple #[.agg cs.toArray, .bool hb]) ∧ (L 8 = true → xs.getD 8 undef = .agg cs.toArray) ∧ (L 9 = true → xs.getD 9 undef = .bool hb) ∧ (L 10 = true → xs.getD 10 undef = .pointer (some ⟨nb, 0, none⟩) ∧ w0.heap.size ≤ nb ∧ nb < W.heap.size) ∧ (L 12 = true → xs.getD 12 undef = .bool hb) ∧ (L 6 = true → L 10 = true → nb < lo ∨ hi ≤ nb) ∧ (L 10 = true → L 11 = false → W.heap[nb]? = some (.cells zeroEnt.toArray 87 (0, 0))) ∧ (L 10 = true → L 11 = true → W.heap[nb]? = some (.cells cs.toArray 87 (0, 0)))
theorem wp_skipped {P : Program} {o : Oper} {a : Act} {w w' : World} {K : Act → World → Prop} {Q : Exit → Act → World → Prop} (hrun : (execOp a.eval o).run P w = .ok .skip w') (hk : K (a.put o.dst undef) w') : o.wp P a w K Q := by
 unfold Oper.wp
 rw [hrun]
 exact hk
theorem attrsE_ok {q : Req} {c : List Ent} (S : Nat → Prop) (v : Val) (g : Nat) (w : World) (cs : List Value) (hS : ∀ b, S b → b < w.heap.size) (hr : Rk q c w g) (hv : Val.At S w v cs) :
  Calls Tryz.prog 124 #[.pointer (some ⟨g, 0, none⟩), .agg cs.toArray] w (AttrsPost S (zbl c v) w) := by
 obtain ⟨qc, pv, hql, hg, hq, hst, hqd, hsm⟩ := id hr
 have hg14 : w.cell? ⟨g, 14, none⟩ = some pv := by
  match qc, hql with
  | [q0, q1, q2, q3, q4, q5, q6, q7, q8, q9, qa, qb, qc', qd], _ => exact cell_of_row _ _ 14 _ _ _ hg
 have HG14 := q_ hg14
 have HSt := q_ hst
 clear hql hg hq hst hqd hsm hg14
 obtain ⟨vk, vb, vn, vs, vt, vu, vi, vm⟩ := v
 obtain ⟨vA, vc, vB, vd, rfl⟩ := hv.opened
 have HS := q_ hS
 have HV := q_ hv
 have HFu : Hid (FitU (vt, vu)) := q_ ⟨hv.bounds.2.2.2.1, hv.bounds.2.2.2.2⟩
 obtain ⟨res, hres⟩ : ∃ res, zbl c (Val.mk vk vb vn vs vt vu vi vm) = res := ⟨_, rfl⟩
 have HD := q_ hres
 rw [hres]
 obtain ⟨p0, p1, ps, px⟩ := zdr w (.cells #[.int .i64 vk, .bool vb, .int .i64 vn, .string vs, .string vt, .string vu, .slice vA vi.length vc, .slice vB vm.length vd] 27) (.cells zeroCells.toArray 27)
 have HV0 := q_ p0
 have HR0 := q_ p1
 have HX0 := q_ px
 clear p0 p1 ps px
 have HVx : Hid (∀ W, Ext w W → ∀ rows, Val.At (fun b => S b ∨ Fresh w.heap.size (W.setRow (w.heap.size + 1) rows) b) (W.setRow (w.heap.size + 1) rows) (Val.mk vk vb vn vs vt vu vi vm) [.int .i64 vk, .bool vb, .int .i64 vn, .string vs, .string vt, .string vu, .slice vA vi.length vc, .slice vB vm.length vd]) := q_ fun W hx rows =>
  (Val.At.setRow (Val.At.alike (Alike.of_ext hx HS.out) _ _ HV.out) (fun b hb => ⟨Nat.lt_of_lt_of_le (HS.out b hb) hx.size, by have := HS.out b hb; omega⟩) rows).mono fun b hb => .inl hb
 clear hS hr hv hres
 by_cases h6 : vk = 6
 ·subst h6
  have hh : res = (.mk 6 vb vn vs vt vu vi vm, true, 0) := by rw [← HD.out]; simp [zbl, Val.kind]
  subst hh
  go_enter Tryz.func124, Tryz.ntmps124
  go_wp2_with (first | refine zab rfl 27 _ rfl w.heap.size 0 rfl zae zaa (cs := [.int .i64 6, .bool vb, .int .i64 vn, .string vs, .string vt, .string vu, .slice vA vi.length vc, .slice vB vm.length vd]) rfl (zak HV0.out) ?_ | refine zad rfl 27 _ _ rfl (w.heap.size + 1) 0 rfl [.int .i64 6, .bool vb, .int .i64 vn, .string vs, .string vt, .string vu, .slice vA vi.length vc, .slice vB vm.length vd] rfl zaa rfl 27 zeroCells.toArray HR0.out (by simp [zeroCells]) HV.out.one ?_)
  exact bodyPost_ret (v := .tuple #[.agg (show List Value from [.int .i64 6, .bool vb, .int .i64 vn, .string vs, .string vt, .string vu, .slice vA vi.length vc, .slice vB vm.length vd]).toArray, .bool true, .int .i64 0]) (zds Tryz.results124 rfl zae zaa rfl (zai HR0.out (by simp [zeroCells]))) rfl ⟨[.int .i64 6, .bool vb, .int .i64 vn, .string vs, .string vt, .string vu, .slice vA vi.length vc, .slice vB vm.length vd], rfl, HVx.out _ HX0.out _, HX0.out.setRow (by omega) _⟩
 have e6 : (vk == 6) = false := by simpa using h6
 by_cases h4 : vk = 4
 ·subst h4
  obtain ⟨W0, hW0⟩ : ∃ W0, W0 = (w.alloc (.cells #[.int .i64 4, .bool vb, .int .i64 vn, .string vs, .string vt, .string vu, .slice vA vi.length vc, .slice vB vm.length vd] 27)).alloc (.cells #[.int .i64 0, .bool false, .int .i64 0, .string ⟨#[]⟩, .string ⟨#[]⟩, .string ⟨#[]⟩, .slice none 0 0, .slice none 0 0] 27) := ⟨_, rfl⟩
  have HW0 : Hid (Ext w W0) := q_ (by rw [hW0]; exact HX0.out)
  have HRw : Hid (W0.heap[w.heap.size + 1]? = some (.cells zeroCells.toArray 27 (0, 0))) := q_ (by rw [hW0]; exact HR0.out)
  have HUc : Hid (CellsAt W0 w.heap.size 4 [.string vt, .string vu]) := q_ (by rw [hW0]; exact zcd (pre := [.int .i64 4, .bool vb, .int .i64 vn, .string vs]) (cs := [.string vt, .string vu]) HV0.out)
  have HBl : Hid (w.heap.size < W0.heap.size) := q_ (by have := zaf HRw.out; omega)
  clear h6
  go_enter Tryz.func124, Tryz.ntmps124
  go_wp2_with fail
  rw [show ((w.alloc (.cells #[.int .i64 4, .bool vb, .int .i64 vn, .string vs, .string vt, .string vu, .slice vA vi.length vc, .slice vB vm.length vd] 27)).alloc (.cells #[.int .i64 0, .bool false, .int .i64 0, .string ⟨#[]⟩, .string ⟨#[]⟩, .string ⟨#[]⟩, .slice none 0 0, .slice none 0 0] 27)) = W0 from hW0.symm]
  clear hW0
  refine zdw 13 (AttJ c g w.heap.size pv (vt, vu) (idx (c.map Ent.uid) (vt, vu)).isSome W0) (by kernel_rfl) (by kernel_rfl) (by kernel_rfl) ?_ (fun xs _ => by refine ⟨[], 0, 0, 0, (Ext.refl W0).drewN 1, ?_, ?_, ?_, ?_, ?_, ?_, ?_, ?_, ?_, ?_, ?_, ?_, ?_, ?_, ?_⟩ <;> (intro h; simp at h)) (fun i o hi' ho L xs W a hlen hJ hL hw hcl hold hat Q K hK => ?_) ?_
  ·rintro L L' xs W he ⟨cs, lo, hi, nb, hx, p0, p1, p2, p3, p4, p5, p6, p7, p8, p9, p10, p12, pa, pz, pc⟩
   exact ⟨cs, lo, hi, nb, hx, fun h => p0 (by rwa [he 0 (by omega)]), fun h => p1 (by rwa [he 1 (by omega)]), fun h => p2 (by rwa [he 2 (by omega)]), fun h => p3 (by rwa [he 3 (by omega)]), fun h => p4 (by rwa [he 4 (by omega)]), fun h => p5 (by rwa [he 5 (by omega)]), fun h => p6 (by rwa [he 6 (by omega)]), fun h => p7 (by rwa [he 7 (by omega)]), fun h => p8 (by rwa [he 8 (by omega)]), fun h => p9 (by rwa [he 9 (by omega)]), fun h => p10 (by rwa [he 10 (by omega)]), fun h => p12 (by rwa [he 12 (by omega)]), fun h k => pa (by rwa [he 6 (by omega)]) (by rwa [he 10 (by omega)]), fun h k => pz (by rwa [he 10 (by omega)]) (by rwa [he 11 (by omega)]), fun h k => pc (by rwa [he 10 (by omega)]) (by rwa [he 11 (by omega)])⟩
  ·obtain ⟨cs, lo, hi, nb, hx, p0, p1, p2, p3, p4, p5, p6, p7, p8, p9, p10, p12, pa, pz, pc⟩ := hJ
   rcases (by omega : i = 0 ∨ i = 1 ∨ i = 2 ∨ i = 3 ∨ i = 4 ∨ i = 5 ∨ i = 6 ∨ i = 7 ∨ i = 8 ∨ i = 9 ∨ i = 10 ∨ i = 11 ∨ i = 12) with rfl | rfl | rfl | rfl | rfl | rfl | rfl | rfl | rfl | rfl | rfl | rfl | rfl <;> obtain rfl := Option.some.inj ho
   ·exact za1 (zbd rfl (hold 0 (by kernel_rfl))) (hK _ _ ⟨cs, lo, hi, nb, hx, fun _ => by rw [zbu (by omega)] <;> rfl, fun h => by rw [zal (by omega)]; exact p1 (by rwa [zag (by omega)] at h), fun h => by rw [zal (by omega)]; exact p2 (by rwa [zag (by omega)] at h), fun h => by rw [zal (by omega)]; exact p3 (by rwa [zag (by omega)] at h), fun h => by rw [zal (by omega)]; exact p4 (by rwa [zag (by omega)] at h), fun h => by rw [zal (by omega)]; exact p5 (by rwa [zag (by omega)] at h), fun h => by rw [zal (by omega)]; exact p6 (by rwa [zag (by omega)] at h), fun h => by rw [zal (by omega)]; exact p7 (by rwa [zag (by omega)] at h), fun h => by rw [zal (by omega)]; exact p8 (by rwa [zag (by omega)] at h), fun h => by rw [zal (by omega)]; exact p9 (by rwa [zag (by omega)] at h), fun h => by rw [zal (by omega)]; exact p10 (by rwa [zag (by omega)] at h), fun h => by rw [zal (by omega)]; exact p12 (by rwa [zag (by omega)] at h), fun h k => pa (by rwa [zag (by omega)] at h) (by rwa [zag (by omega)] at k), fun h k => pz (by rwa [zag (by omega)] at h) (by rwa [zag (by omega)] at k), fun h k => pc (by rwa [zag (by omega)] at h) (by rwa [zag (by omega)] at k)⟩)
   ·exact za1 (zcg rfl ((hat 0 17 (by omega) (by kernel_rfl)).trans (p0 (hw 0 (by omega) (by kernel_rfl))))) (hK _ _ ⟨cs, lo, hi, nb, hx, fun h => by rw [zal (by omega)]; exact p0 (by rwa [zag (by omega)] at h), fun _ => by rw [zbu (by omega)] <;> rfl, fun h => by rw [zal (by omega)]; exact p2 (by rwa [zag (by omega)] at h), fun h => by rw [zal (by omega)]; exact p3 (by rwa [zag (by omega)] at h), fun h => by rw [zal (by omega)]; exact p4 (by rwa [zag (by omega)] at h), fun h => by rw [zal (by omega)]; exact p5 (by rwa [zag (by omega)] at h), fun h => by rw [zal (by omega)]; exact p6 (by rwa [zag (by omega)] at h), fun h => by rw [zal (by omega)]; exact p7 (by rwa [zag (by omega)] at h), fun h => by rw [zal (by omega)]; exact p8 (by rwa [zag (by omega)] at h), fun h => by rw [zal (by omega)]; exact p9 (by rwa [zag (by omega)] at h), fun h => by rw [zal (by omega)]; exact p10 (by rwa [zag (by omega)] at h), fun h => by rw [zal (by omega)]; exact p12 (by rwa [zag (by omega)] at h), fun h k => pa (by rwa [zag (by omega)] at h) (by rwa [zag (by omega)] at k), fun h k => pz (by rwa [zag (by omega)] at h) (by rwa [zag (by omega)] at k), fun h k => pc (by rwa [zag (by omega)] at h) (by rwa [zag (by omega)] at k)⟩)
   ·exact za1 (za8 _ _ _ rfl ((hat 1 18 (by omega) (by kernel_rfl)).trans (p1 (hw 1 (by omega) (by kernel_rfl)))) (Tryz.fieldRk g)) (hK _ _ ⟨cs, lo, hi, nb, hx, fun h => by rw [zal (by omega)]; exact p0 (by rwa [zag (by omega)] at h), fun h => by rw [zal (by omega)]; exact p1 (by rwa [zag (by omega)] at h), fun _ => by rw [zbu (by omega)] <;> rfl, fun h => by rw [zal (by omega)]; exact p3 (by rwa [zag (by omega)] at h), fun h => by rw [zal (by omega)]; exact p4 (by rwa [zag (by omega)] at h), fun h => by rw [zal (by omega)]; exact p5 (by rwa [zag (by omega)] at h), fun h => by rw [zal (by omega)]; exact p6 (by rwa [zag (by omega)] at h), fun h => by rw [zal (by omega)]; exact p7 (by rwa [zag (by omega)] at h), fun h => by rw [zal (by omega)]; exact p8 (by rwa [zag (by omega)] at h), fun h => by rw [zal (by omega)]; exact p9 (by rwa [zag (by omega)] at h), fun h => by rw [zal (by omega)]; exact p10 (by rwa [zag (by omega)] at h), fun h => by rw [zal (by omega)]; exact p12 (by rwa [zag (by omega)] at h), fun h k => pa (by rwa [zag (by omega)] at h) (by rwa [zag (by omega)] at k), fun h k => pz (by rwa [zag (by omega)] at h) (by rwa [zag (by omega)] at k), fun h k => pc (by rwa [zag (by omega)] at h) (by rwa [zag (by omega)] at k)⟩)
   ·exact za1 (za9 _ _ rfl g 14 ((hat 2 19 (by omega) (by kernel_rfl)).trans (p2 (hw 2 (by omega) (by kernel_rfl)))) Tryz.aggPs (hx.cell (HW0.out.cell HG14.out))) (hK _ _ ⟨cs, lo, hi, nb, hx, fun h => by rw [zal (by omega)]; exact p0 (by rwa [zag (by omega)] at h), fun h => by rw [zal (by omega)]; exact p1 (by rwa [zag (by omega)] at h), fun h => by rw [zal (by omega)]; exact p2 (by rwa [zag (by omega)] at h), fun _ => by rw [zbu (by omega)] <;> rfl, fun h => by rw [zal (by omega)]; exact p4 (by rwa [zag (by omega)] at h), fun h => by rw [zal (by omega)]; exact p5 (by rwa [zag (by omega)] at h), fun h => by rw [zal (by omega)]; exact p6 (by rwa [zag (by omega)] at h), fun h => by rw [zal (by omega)]; exact p7 (by rwa [zag (by omega)] at h), fun h => by rw [zal (by omega)]; exact p8 (by rwa [zag (by omega)] at h), fun h => by rw [zal (by omega)]; exact p9 (by rwa [zag (by omega)] at h), fun h => by rw [zal (by omega)]; exact p10 (by rwa [zag (by omega)] at h), fun h => by rw [zal (by omega)]; exact p12 (by rwa [zag (by omega)] at h), fun h k => pa (by rwa [zag (by omega)] at h) (by rwa [zag (by omega)] at k), fun h k => pz (by rwa [zag (by omega)] at h) (by rwa [zag (by omega)] at k), fun h k => pc (by rwa [zag (by omega)] at h) (by rwa [zag (by omega)] at k)⟩)
   ·exact za1 (za8 _ _ _ rfl (hold 3 (by kernel_rfl)) (Tryz.fieldVu w.heap.size)) (hK _ _ ⟨cs, lo, hi, nb, hx, fun h => by rw [zal (by omega)]; exact p0 (by rwa [zag (by omega)] at h), fun h => by rw [zal (by omega)]; exact p1 (by rwa [zag (by omega)] at h), fun h => by rw [zal (by omega)]; exact p2 (by rwa [zag (by omega)] at h), fun h => by rw [zal (by omega)]; exact p3 (by rwa [zag (by omega)] at h), fun _ => by rw [zbu (by omega)] <;> rfl, fun h => by rw [zal (by omega)]; exact p5 (by rwa [zag (by omega)] at h), fun h => by rw [zal (by omega)]; exact p6 (by rwa [zag (by omega)] at h), fun h => by rw [zal (by omega)]; exact p7 (by rwa [zag (by omega)] at h), fun h => by rw [zal (by omega)]; exact p8 (by rwa [zag (by omega)] at h), fun h => by rw [zal (by omega)]; exact p9 (by rwa [zag (by omega)] at h), fun h => by rw [zal (by omega)]; exact p10 (by rwa [zag (by omega)] at h), fun h => by rw [zal (by omega)]; exact p12 (by rwa [zag (by omega)] at h), fun h k => pa (by rwa [zag (by omega)] at h) (by rwa [zag (by omega)] at k), fun h k => pz (by rwa [zag (by omega)] at h) (by rwa [zag (by omega)] at k), fun h k => pc (by rwa [zag (by omega)] at h) (by rwa [zag (by omega)] at k)⟩)
   ·exact za1 (zat _ _ rfl w.heap.size 4 ((hat 4 21 (by omega) (by kernel_rfl)).trans (p4 (hw 4 (by omega) (by kernel_rfl)))) zbh za6 (cs := [.string vt, .string vu]) rfl (HUc.out.alike (S := fun b => b < W0.heap.size) HBl.out (Alike.of_ext hx fun _ h => h))) (hK _ _ ⟨cs, lo, hi, nb, hx, fun h => by rw [zal (by omega)]; exact p0 (by rwa [zag (by omega)] at h), fun h => by rw [zal (by omega)]; exact p1 (by rwa [zag (by omega)] at h), fun h => by rw [zal (by omega)]; exact p2 (by rwa [zag (by omega)] at h), fun h => by rw [zal (by omega)]; exact p3 (by rwa [zag (by omega)] at h), fun h => by rw [zal (by omega)]; exact p4 (by rwa [zag (by omega)] at h), fun _ => by rw [zbu (by omega)] <;> rfl, fun h => by rw [zal (by omega)]; exact p6 (by rwa [zag (by omega)] at h), fun h => by rw [zal (by omega)]; exact p7 (by rwa [zag (by omega)] at h), fun h => by rw [zal (by omega)]; exact p8 (by rwa [zag (by omega)] at h), fun h => by rw [zal (by omega)]; exact p9 (by rwa [zag (by omega)] at h), fun h => by rw [zal (by omega)]; exact p10 (by rwa [zag (by omega)] at h), fun h => by rw [zal (by omega)]; exact p12 (by rwa [zag (by omega)] at h), fun h k => pa (by rwa [zag (by omega)] at h) (by rwa [zag (by omega)] at k), fun h k => pz (by rwa [zag (by omega)] at h) (by rwa [zag (by omega)] at k), fun h k => pc (by rwa [zag (by omega)] at h) (by rwa [zag (by omega)] at k)⟩)
   ·refine zc3 (Φ := fun v W' => AttJ c g w.heap.size pv (vt, vu) (idx (c.map Ent.uid) (vt, vu)).isSome W0 (done L 6) (xs.set 6 v) W') (zco Tryz.func171 rfl rfl rfl (map_two ((hat 3 20 (by omega) (by kernel_rfl)).trans (p3 (hw 3 (by omega) (by kernel_rfl)))) ((hat 5 22 (by omega) (by kernel_rfl)).trans (p5 (hw 5 (by omega) (by kernel_rfl)))))) ?_ (fun v W' h => hK _ _ h)
    refine (getV_ok pv c (vt, vu) W HFu.out (HSt.out.ext (HW0.out.trans hx))).mono ?_
    rintro e3 w3 ⟨ce, bb, rfl, hcase, hx3⟩
    have hbv : Value.tuple #[.agg ce.toArray, .bool bb] = .tuple #[.agg ce.toArray, .bool (idx (c.map Ent.uid) (vt, vu)).isSome] := by
     rcases hcase with ⟨hi, rfl, _⟩ | ⟨i, x, hi, _, rfl, _⟩ <;> rw [hi] <;> rfl
    have hin : EntIn c (vt, vu) W.heap.size w3.heap.size ce w3 := by
     rcases hcase with ⟨hi, _, rfl⟩ | ⟨i, x, hi, hx, _, hat⟩
     ·exact .inl ⟨hi, rfl⟩
     ·exact .inr ⟨i, x, hi, hx, entR.mono hat fun b hb => ⟨hb.1, hb.lt⟩⟩
    refine ⟨_, rfl, ?_⟩
    show AttJ c g w.heap.size pv (vt, vu) (idx (c.map Ent.uid) (vt, vu)).isSome W0 (done L 6) (xs.set 6 (.tuple #[.agg ce.toArray, .bool bb])) w3
    exact ⟨ce, W.heap.size, w3.heap.size, nb, hx.trans hx3, fun h => by rw [zal (by omega)]; exact p0 (by rwa [zag (by omega)] at h), fun h => by rw [zal (by omega)]; exact p1 (by rwa [zag (by omega)] at h), fun h => by rw [zal (by omega)]; exact p2 (by rwa [zag (by omega)] at h), fun h => by rw [zal (by omega)]; exact p3 (by rwa [zag (by omega)] at h), fun h => by rw [zal (by omega)]; exact p4 (by rwa [zag (by omega)] at h), fun h => by rw [zal (by omega)]; exact p5 (by rwa [zag (by omega)] at h), fun _ => ⟨by rw [zbu (by omega)]; exact hbv, hx.size, Nat.le_refl _, hin⟩, (fun h => by have h7 : L 7 = true := (by rwa [zag (by omega)] at h); have h6 := hcl 7 6 (by omega) (by omega) h7 (by kernel_rfl); rw [hL] at h6; cases h6), (fun h => by have h8 : L 8 = true := (by rwa [zag (by omega)] at h); have h7 := hcl 8 7 (by omega) (by omega) h8 (by kernel_rfl); have h6 := hcl 7 6 (by omega) (by omega) h7 (by kernel_rfl); rw [hL] at h6; cases h6), fun h => by rw [zal (by omega)]; exact p9 (by rwa [zag (by omega)] at h), fun h => by rw [zal (by omega)]; have k := p10 (by rwa [zag (by omega)] at h); exact ⟨k.1, k.2.1, Nat.lt_of_lt_of_le k.2.2 hx3.size⟩, fun h => by rw [zal (by omega)]; exact p12 (by rwa [zag (by omega)] at h), fun _ k => .inl (p10 (by rwa [zag (by omega)] at k)).2.2, fun h k => by have h1 : L 10 = true := (by rwa [zag (by omega)] at h); exact (hx3.block nb (p10 h1).2.2).trans (pz h1 (by rwa [zag (by omega)] at k)), (fun _ k => by have h1 : L 11 = true := (by rwa [zag (by omega)] at k); have h6 := hcl 11 6 (by omega) (by omega) h1 (by kernel_rfl); rw [hL] at h6; cases h6)⟩
   ·exact za1 (zbd rfl ((hat 6 23 (by omega) (by kernel_rfl)).trans (p6 (hw 6 (by omega) (by kernel_rfl))).1)) (hK _ _ ⟨cs, lo, hi, nb, hx, fun h => by rw [zal (by omega)]; exact p0 (by rwa [zag (by omega)] at h), fun h => by rw [zal (by omega)]; exact p1 (by rwa [zag (by omega)] at h), fun h => by rw [zal (by omega)]; exact p2 (by rwa [zag (by omega)] at h), fun h => by rw [zal (by omega)]; exact p3 (by rwa [zag (by omega)] at h), fun h => by rw [zal (by omega)]; exact p4 (by rwa [zag (by omega)] at h), fun h => by rw [zal (by omega)]; exact p5 (by rwa [zag (by omega)] at h), fun h => by rw [zal (by omega)]; exact p6 (by rwa [zag (by omega)] at h), fun _ => by rw [zbu (by omega)] <;> rfl, fun h => by rw [zal (by omega)]; exact p8 (by rwa [zag (by omega)] at h), fun h => by rw [zal (by omega)]; exact p9 (by rwa [zag (by omega)] at h), fun h => by rw [zal (by omega)]; exact p10 (by rwa [zag (by omega)] at h), fun h => by rw [zal (by omega)]; exact p12 (by rwa [zag (by omega)] at h), fun h k => pa (by rwa [zag (by omega)] at h) (by rwa [zag (by omega)] at k), fun h k => pz (by rwa [zag (by omega)] at h) (by rwa [zag (by omega)] at k), fun h k => pc (by rwa [zag (by omega)] at h) (by rwa [zag (by omega)] at k)⟩)
   ·exact za1 (zbn rfl ((hat 7 16 (by omega) (by kernel_rfl)).trans (p7 (hw 7 (by omega) (by kernel_rfl)))) rfl) (hK _ _ ⟨cs, lo, hi, nb, hx, fun h => by rw [zal (by omega)]; exact p0 (by rwa [zag (by omega)] at h), fun h => by rw [zal (by omega)]; exact p1 (by rwa [zag (by omega)] at h), fun h => by rw [zal (by omega)]; exact p2 (by rwa [zag (by omega)] at h), fun h => by rw [zal (by omega)]; exact p3 (by rwa [zag (by omega)] at h), fun h => by rw [zal (by omega)]; exact p4 (by rwa [zag (by omega)] at h), fun h => by rw [zal (by omega)]; exact p5 (by rwa [zag (by omega)] at h), fun h => by rw [zal (by omega)]; exact p6 (by rwa [zag (by omega)] at h), fun h => by rw [zal (by omega)]; exact p7 (by rwa [zag (by omega)] at h), fun _ => by rw [zbu (by omega)] <;> rfl, fun h => by rw [zal (by omega)]; exact p9 (by rwa [zag (by omega)] at h), fun h => by rw [zal (by omega)]; exact p10 (by rwa [zag (by omega)] at h), fun h => by rw [zal (by omega)]; exact p12 (by rwa [zag (by omega)] at h), fun h k => pa (by rwa [zag (by omega)] at h) (by rwa [zag (by omega)] at k), fun h k => pz (by rwa [zag (by omega)] at h) (by rwa [zag (by omega)] at k), fun h k => pc (by rwa [zag (by omega)] at h) (by rwa [zag (by omega)] at k)⟩)
   ·exact za1 (zbn rfl ((hat 7 16 (by omega) (by kernel_rfl)).trans (p7 (hw 7 (by omega) (by kernel_rfl)))) rfl) (hK _ _ ⟨cs, lo, hi, nb, hx, fun h => by rw [zal (by omega)]; exact p0 (by rwa [zag (by omega)] at h), fun h => by rw [zal (by omega)]; exact p1 (by rwa [zag (by omega)] at h), fun h => by rw [zal (by omega)]; exact p2 (by rwa [zag (by omega)] at h), fun h => by rw [zal (by omega)]; exact p3 (by rwa [zag (by omega)] at h), fun h => by rw [zal (by omega)]; exact p4 (by rwa [zag (by omega)] at h), fun h => by rw [zal (by omega)]; exact p5 (by rwa [zag (by omega)] at h), fun h => by rw [zal (by omega)]; exact p6 (by rwa [zag (by omega)] at h), fun h => by rw [zal (by omega)]; exact p7 (by rwa [zag (by omega)] at h), fun h => by rw [zal (by omega)]; exact p8 (by rwa [zag (by omega)] at h), fun _ => by rw [zbu (by omega)] <;> rfl, fun h => by rw [zal (by omega)]; exact p10 (by rwa [zag (by omega)] at h), fun h => by rw [zal (by omega)]; exact p12 (by rwa [zag (by omega)] at h), fun h k => pa (by rwa [zag (by omega)] at h) (by rwa [zag (by omega)] at k), fun h k => pz (by rwa [zag (by omega)] at h) (by rwa [zag (by omega)] at k), fun h k => pc (by rwa [zag (by omega)] at h) (by rwa [zag (by omega)] at k)⟩)
   ·exact za1 (exec_alloc rfl (Tryz.allocEn W)) (hK _ _ ⟨cs, lo, hi, W.heap.size, hx.alloc _, fun h => by rw [zal (by omega)]; exact p0 (by rwa [zag (by omega)] at h), fun h => by rw [zal (by omega)]; exact p1 (by rwa [zag (by omega)] at h), fun h => by rw [zal (by omega)]; exact p2 (by rwa [zag (by omega)] at h), fun h => by rw [zal (by omega)]; exact p3 (by rwa [zag (by omega)] at h), fun h => by rw [zal (by omega)]; exact p4 (by rwa [zag (by omega)] at h), fun h => by rw [zal (by omega)]; exact p5 (by rwa [zag (by omega)] at h), fun h => by rw [zal (by omega)]; have k := p6 (by rwa [zag (by omega)] at h); exact ⟨k.1, k.2.1, Nat.le_trans k.2.2.1 (by simp), k.2.2.2.alike (Alike.of_ext ((Ext.refl W).alloc _) fun b hb => Nat.lt_of_lt_of_le hb.2 k.2.2.1)⟩, fun h => by rw [zal (by omega)]; exact p7 (by rwa [zag (by omega)] at h), fun h => by rw [zal (by omega)]; exact p8 (by rwa [zag (by omega)] at h), fun h => by rw [zal (by omega)]; exact p9 (by rwa [zag (by omega)] at h), fun _ => ⟨by rw [zbu (by omega)] <;> rfl, hx.size, by simp⟩, fun h => by rw [zal (by omega)]; exact p12 (by rwa [zag (by omega)] at h), fun h _ => .inr (p6 (by rwa [zag (by omega)] at h)).2.2.1, fun _ _ => heap_alloc_new _ _, (fun _ k => by have h1 : L 11 = true := (by rwa [zag (by omega)] at k); have h6 := hcl 11 10 (by omega) (by omega) h1 (by kernel_rfl); rw [hL] at h6; cases h6)⟩)
   ·have h6 := hw 6 (by omega) (by kernel_rfl)
    have h10 := hw 10 (by omega) (by kernel_rfl)
    have h8 := hw 8 (by omega) (by kernel_rfl)
    obtain ⟨hl, ho1⟩ := (p6 h6).2.2.2.len
    have hsz : (W.setRow nb cs.toArray).heap.size = W.heap.size := by simp [World.setRow]
    exact wp_skipped (zcv rfl ((hat 10 7 (by omega) (by kernel_rfl)).trans (p10 (hw 10 (by omega) (by kernel_rfl))).1) ((hat 8 24 (by omega) (by kernel_rfl)).trans (p8 (hw 8 (by omega) (by kernel_rfl)))) zas hl (pz h10 hL) (by rw [hl]; rfl) ho1) (hK undef _ ⟨cs, lo, hi, nb, hx.setRow (p10 h10).2.1 _, fun h => by rw [zal (by omega)]; exact p0 (by rwa [zag (by omega)] at h), fun h => by rw [zal (by omega)]; exact p1 (by rwa [zag (by omega)] at h), fun h => by rw [zal (by omega)]; exact p2 (by rwa [zag (by omega)] at h), fun h => by rw [zal (by omega)]; exact p3 (by rwa [zag (by omega)] at h), fun h => by rw [zal (by omega)]; exact p4 (by rwa [zag (by omega)] at h), fun h => by rw [zal (by omega)]; exact p5 (by rwa [zag (by omega)] at h), fun h => by rw [zal (by omega)]; have k := p6 (by rwa [zag (by omega)] at h); exact ⟨k.1, k.2.1, by rw [hsz]; exact k.2.2.1, k.2.2.2.alike (fun b hb => (GrownBy.setRow W nb _).block b (Nat.lt_of_lt_of_le hb.2 k.2.2.1) (fun e => by injection e with e; have := pa h6 h10; omega))⟩, fun h => by rw [zal (by omega)]; exact p7 (by rwa [zag (by omega)] at h), fun h => by rw [zal (by omega)]; exact p8 (by rwa [zag (by omega)] at h), fun h => by rw [zal (by omega)]; exact p9 (by rwa [zag (by omega)] at h), fun _ => by rw [zal (by omega)]; have k := p10 h10; exact ⟨k.1, k.2.1, by rw [hsz]; exact k.2.2⟩, fun h => by rw [zal (by omega)]; exact p12 (by rwa [zag (by omega)] at h), fun h k => pa (by rwa [zag (by omega)] at h) (by rwa [zag (by omega)] at k), (fun _ k => by rw [ze5] at k; cases k), fun _ _ => zbi (pz h10 hL) _⟩)
   ·exact za1 (zdg rfl ((hat 9 25 (by omega) (by kernel_rfl)).trans (p9 (hw 9 (by omega) (by kernel_rfl))))) (hK _ _ ⟨cs, lo, hi, nb, hx, fun h => by rw [zal (by omega)]; exact p0 (by rwa [zag (by omega)] at h), fun h => by rw [zal (by omega)]; exact p1 (by rwa [zag (by omega)] at h), fun h => by rw [zal (by omega)]; exact p2 (by rwa [zag (by omega)] at h), fun h => by rw [zal (by omega)]; exact p3 (by rwa [zag (by omega)] at h), fun h => by rw [zal (by omega)]; exact p4 (by rwa [zag (by omega)] at h), fun h => by rw [zal (by omega)]; exact p5 (by rwa [zag (by omega)] at h), fun h => by rw [zal (by omega)]; exact p6 (by rwa [zag (by omega)] at h), fun h => by rw [zal (by omega)]; exact p7 (by rwa [zag (by omega)] at h), fun h => by rw [zal (by omega)]; exact p8 (by rwa [zag (by omega)] at h), fun h => by rw [zal (by omega)]; exact p9 (by rwa [zag (by omega)] at h), fun h => by rw [zal (by omega)]; exact p10 (by rwa [zag (by omega)] at h), fun _ => by rw [zbu (by omega)] <;> rfl, fun h k => pa (by rwa [zag (by omega)] at h) (by rwa [zag (by omega)] at k), fun h k => pz (by rwa [zag (by omega)] at h) (by rwa [zag (by omega)] at k), fun h k => pc (by rwa [zag (by omega)] at h) (by rwa [zag (by omega)] at k)⟩)
  intro L xs W hxl hall hJ
  obtain ⟨cs, lo, hi, nb, hx, p0, p1, p2, p3, p4, p5, p6, p7, p8, p9, p10, p12, pa, pz, pc⟩ := hJ
  match xs, hxl with
  | [y0, y1, y2, y3, y4, y5, y6, y7, y8, y9, y10, y11, y12], _ =>
  have e8 : y8 = .agg cs.toArray := p8 (hall 8 (by omega))
  have e9 : y9 = .bool (idx (c.map Ent.uid) (vt, vu)).isSome := p9 (hall 9 (by omega))
  have e10 : y10 = .pointer (some ⟨nb, 0, none⟩) := (p10 (hall 10 (by omega))).1
  have e12 : y12 = .bool (idx (c.map Ent.uid) (vt, vu)).isSome := p12 (hall 12 (by omega))
  obtain ⟨_, h6a, h6b, hok⟩ := p6 (hall 6 (by omega))
  have hnb := (p10 (hall 10 (by omega))).2
  have hnw := pc (hall 10 (by omega)) (hall 11 (by omega))
  subst e8 e9 e10 e12
  simp only [List.take, List.drop, za0, Act.put, List.setIfInBounds_toArray, List.set_cons_zero, List.set_cons_succ]
  have HX2 := q_ (HW0.out.trans hx)
  have HR2 := q_ ((hx.block _ (zaf HRw.out)).trans HRw.out)
  have HNw := q_ hnw
  have hsz : w.heap.size + 2 ≤ W0.heap.size := by have := zaf HRw.out; omega
  have HSz := q_ hsz
  have H6 := q_ (And.intro h6a h6b)
  clear hx p0 p1 p2 p3 p4 p5 p6 p7 p8 p9 p10 p12 pa pz pc hnw hsz hnb hall h6a h6b
  rcases hok with ⟨hi', rfl⟩ | ⟨i, x, hi', hx, hat⟩
  ·have hh : res = (.zero, false, 0) := by rw [← HD.out]; simp [zbl, Val.kind, Val.uid, Val.ut, Val.ui, hi']
   subst hh
   rw [hi']
   simp only [Option.isSome]
   have HCz := q_ (show CellsAt W nb 3 zeroCells from zcd (pre := [.string ByteArray.empty, .string ByteArray.empty, .slice none 0 0]) (cs := zeroCells) (r := []) HNw.out)
   clear hi'
   go_wp2_with (first | refine zab rfl 27 _ rfl nb 3 rfl zae zaa rfl HCz.out ?_ | refine zad rfl 27 _ _ rfl (w.heap.size + 1) 0 rfl zeroCells rfl zaa rfl 27 zeroCells.toArray HR2.out (by simp [zeroCells]) za2 ?_)
   exact bodyPost_ret (v := .tuple #[.agg (show List Value from zeroCells).toArray, .bool false, .int .i64 0]) (zds Tryz.results124 rfl zae zaa rfl (zai HR2.out (by simp [zeroCells]))) rfl ⟨zeroCells, rfl, Val.zero_at _ _, HX2.out.setRow (by omega) _⟩
  ·obtain ⟨xp, acs, rfl, _, ⟨xA, xc, rfl, _⟩, hav⟩ := hat
   obtain ⟨⟨xu1, xu2⟩, xps, xav⟩ := x
   have hav : Val.At (fun b => lo ≤ b ∧ b < hi) W xav acs := hav
   obtain ⟨yk, yb, yn, ys, yt, yu, yi, ym⟩ := xav
   obtain ⟨yA, yc, yB, yd, rfl⟩ := hav.opened
   have hh : res = ((Val.mk yk yb yn ys yt yu yi ym), true, 0) := by rw [← HD.out]; simp [zbl, Val.kind, Val.uid, Val.ut, Val.ui, hi', hx]
   subst hh
   rw [hi']
   simp only [Option.isSome]
   have HAv := q_ hav
   have HCz := q_ (show CellsAt W nb 3 [.int .i64 yk, .bool yb, .int .i64 yn, .string ys, .string yt, .string yu, .slice yA yi.length yc, .slice yB ym.length yd] from zcd (pre := [.string xu1, .string xu2, .slice xA xps.length xc]) (cs := [.int .i64 yk, .bool yb, .int .i64 yn, .string ys, .string yt, .string yu, .slice yA yi.length yc, .slice yB ym.length yd]) (r := []) HNw.out)
   have HXr := q_ (Ext.refl W)
   clear hi' hx hav
   go_wp2_with (first | refine zab rfl 27 _ rfl nb 3 rfl zae zaa rfl HCz.out ?_ | refine zad rfl 27 _ _ rfl (w.heap.size + 1) 0 rfl [.int .i64 yk, .bool yb, .int .i64 yn, .string ys, .string yt, .string yu, .slice yA yi.length yc, .slice yB ym.length yd] rfl zaa rfl 27 zeroCells.toArray HR2.out (by simp [zeroCells]) HAv.out.one ?_)
   exact bodyPost_ret (v := .tuple #[.agg (show List Value from [.int .i64 yk, .bool yb, .int .i64 yn, .string ys, .string yt, .string yu, .slice yA yi.length yc, .slice yB ym.length yd]).toArray, .bool true, .int .i64 0]) (zds Tryz.results124 rfl zae zaa rfl (zai HR2.out (by simp [zeroCells]))) rfl ⟨[.int .i64 yk, .bool yb, .int .i64 yn, .string ys, .string yt, .string yu, .slice yA yi.length yc, .slice yB ym.length yd], rfl, ((ret_at (w := w) (c := W0.heap.size) (HAv.out.mono fun b hb => ⟨Nat.le_trans H6.out.1 hb.1, Nat.lt_of_lt_of_le hb.2 H6.out.2⟩) HXr.out (by have := HSz.out; omega) (by have := HSz.out; omega) _).mono fun b hb => .inr hb), HX2.out.setRow (by omega) _⟩
 ·have e4 : (vk == 4) = false := by simpa using h4
  have hh : res = (.zero, false, 30) := by rw [← HD.out]; simp [zbl, Val.kind, h6, h4]
  subst hh
  clear h6 h4
  go_enter Tryz.func124, Tryz.ntmps124
  go_wp2_with (refine zad rfl 27 _ _ rfl (w.heap.size + 1) 0 rfl zeroCells rfl zaa rfl 27 zeroCells.toArray HR0.out (by simp [zeroCells]) za2 ?_)
  exact bodyPost_ret (v := .tuple #[.agg (show List Value from zeroCells).toArray, .bool false, .int .i64 30]) (zds Tryz.results124 rfl zae zaa rfl (zai HR0.out (by simp [zeroCells]))) rfl ⟨zeroCells, rfl, Val.zero_at _ _, HX0.out.setRow (by omega) _⟩
theorem attributeE_ok {q : Req} {c : List Ent} (S : Nat → Prop) (e : Exp) (v : Val) (g : Nat) (w : World) (ce cs : List Value) (hS : ∀ b, S b → b < w.heap.size) (hr : Rk q c w g) (he : InX w e ce) (hv : Val.At S w v cs) :
  Calls Tryz.prog 89 #[.pointer (some ⟨g, 0, none⟩), .agg ce.toArray, .agg cs.toArray] w (zci S (za3 c e.op e.name v).1 (za3 c e.op e.name v).2 w) := by
 obtain ⟨eo, ev, en, eks, ens⟩ := e
 obtain ⟨lk, lb, ln, ls, lt, lu, lA, ll, lc, lB, lm, ld, eK, ec, eN, ed, hcs, _, hev, hek, hen⟩ := Exp.At.shape he
 obtain rfl : ce = [.int .i64 eo, .int .i64 lk, .bool lb, .int .i64 ln, .string ls, .string lt, .string lu, .slice lA ll lc, .slice lB lm ld, .string en, .slice eK eks.length ec, .slice eN ens.length ed] := hcs
 have hev : InW w ev [.int .i64 lk, .bool lb, .int .i64 ln, .string ls, .string lt, .string lu, .slice lA ll lc, .slice lB lm ld] := hev
 have hek : expR.RowsAt (fun b => b < w.heap.size) w eks (.slice eK eks.length ec) := hek
 have hen : StrsAt (fun b => b < w.heap.size) w ens (.slice eN ens.length ed) := hen
 show Calls _ _ _ _ (zci S (za3 c eo en v).1 (za3 c eo en v).2 w)
 obtain ⟨vk, vb, vn, vs, vt, vu, vA, vl, vc, vB, vm, vd, rfl⟩ := hv.shape
 have HS := q_ hS
 have HV := q_ hv
 have HRk := q_ hr
 obtain ⟨res, hres⟩ : ∃ res, za3 c eo en v = res := ⟨_, rfl⟩
 have HD0 := q_ hres
 rw [hres]
 obtain ⟨⟨x, ab, ae⟩, hat⟩ : ∃ a, zbl c v = a := ⟨_, rfl⟩
 have HD : Hid (res = if ae ≠ 0 then no ae else if eo = 17 then yes (ab && (x.find en).isSome) else if ab = false then no 22 else match x.find en with | none => no 31 | some i => (((x.items[i]?).getD .zero), 0)) := q_ (by rw [← HD0.out]; unfold za3; rw [hat]; rfl)
 obtain ⟨p0, p1, p2, ps, px⟩ := zdn w (.cells #[.int .i64 eo, .int .i64 lk, .bool lb, .int .i64 ln, .string ls, .string lt, .string lu, .slice lA ll lc, .slice lB lm ld, .string en, .slice eK eks.length ec, .slice eN ens.length ed] 30) (.cells #[.int .i64 vk, .bool vb, .int .i64 vn, .string vs, .string vt, .string vu, .slice vA vl vc, .slice vB vm vd] 27) (.cells zeroCells.toArray 27)
 have HE0 := q_ p0
 have HV0 := q_ p1
 have HR0 := q_ p2
 have HX0 := q_ px
 clear p0 p1 p2 ps px
 have hcall := attrsE_ok S v g _ [.int .i64 vk, .bool vb, .int .i64 vn, .string vs, .string vt, .string vu, .slice vA vl vc, .slice vB vm vd] (fun b hb => Nat.lt_of_lt_of_le (HS.out b hb) HX0.out.size) (HRk.out.ext HX0.out) (Val.At.alike (Alike.of_ext HX0.out HS.out) _ _ HV.out)
 rw [hat] at hcall
 have HCall := q_ hcall
 clear hcall hat HD0 hres hS hr he hev hek hen hv
 go_enter Tryz.func89, Tryz.ntmps89
 go_wp2_with (first | refine zab rfl 27 _ rfl (w.heap.size + 1) 0 rfl zae zaa (cs := [.int .i64 vk, .bool vb, .int .i64 vn, .string vs, .string vt, .string vu, .slice vA vl vc, .slice vB vm vd]) rfl (zak HV0.out) ?_)
 refine HCall.out.mono ?_
 rintro e1 w1 ⟨ca, rfl, ha, hx1⟩
 obtain ⟨xk, xb, xn, xs, xt, xu, xi, xm⟩ := x
 obtain ⟨xA, xc, xB, xd, rfl⟩ := ha.opened
 have HX1 := q_ (HX0.out.trans hx1)
 have HR1 := q_ ((hx1.block _ (zaf HR0.out)).trans HR0.out)
 have HE1 := q_ ((hx1.block _ (zaf HE0.out)).trans HE0.out)
 have HA := q_ ha
 have hs0 : w.heap.size + 3 ≤ (((w.alloc (.cells #[.int .i64 eo, .int .i64 lk, .bool lb, .int .i64 ln, .string ls, .string lt, .string lu, .slice lA ll lc, .slice lB lm ld, .string en, .slice eK eks.length ec, .slice eN ens.length ed] 30)).alloc (.cells #[.int .i64 vk, .bool vb, .int .i64 vn, .string vs, .string vt, .string vu, .slice vA vl vc, .slice vB vm vd] 27)).alloc (.cells zeroCells.toArray 27)).heap.size := by simp
 have hs1 : w.heap.size + 3 ≤ w1.heap.size := Nat.le_trans hs0 hx1.size
 have HS1 := q_ hs1
 have HA2 : Hid (Val.At (fun b => S b ∨ (w.heap.size + 3 ≤ b ∧ b < w1.heap.size)) w1 (Val.mk xk xb xn xs xt xu xi xm) [.int .i64 xk, .bool xb, .int .i64 xn, .string xs, .string xt, .string xu, .slice xA xi.length xc, .slice xB xm.length xd]) := q_ (ha.mono fun b hb => hb.imp id fun h => ⟨Nat.le_trans hs0 h.1, h.2⟩)
 have HR2 := q_ ((heap_alloc_old w1 (.cells #[.int .i64 xk, .bool xb, .int .i64 xn, .string xs, .string xt, .string xu, .slice xA xi.length xc, .slice xB xm.length xd] 27) (zaf HR1.out)).trans HR1.out)
 have HE2 := q_ ((heap_alloc_old w1 (.cells #[.int .i64 xk, .bool xb, .int .i64 xn, .string xs, .string xt, .string xu, .slice xA xi.length xc, .slice xB xm.length xd] 27) (zaf HE1.out)).trans HE1.out)
 have HX2 := q_ (HX1.out.alloc (.cells #[.int .i64 xk, .bool xb, .int .i64 xn, .string xs, .string xt, .string xu, .slice xA xi.length xc, .slice xB xm.length xd] 27))
 have c9 : (w1.alloc (.cells #[.int .i64 xk, .bool xb, .int .i64 xn, .string xs, .string xt, .string xu, .slice xA xi.length xc, .slice xB xm.length xd] 27)).cell? ⟨w.heap.size, 9, none⟩ = some (.string en) := cell_of_row _ _ 9 _ _ _ HE2.out
 clear ha hx1 HCall HA hs0 hs1
 by_cases h0 : ae = 0
 case neg =>
  have t0 : (ae != 0) = true := by simpa using h0
  have hh : res = (.zero, ae) := by rw [HD.out, if_pos h0]; rfl
  subst hh
  clear h0 c9
  go_wp2_with (refine zad rfl 27 _ _ rfl (w.heap.size + 2) 0 rfl zeroCells rfl zaa rfl 27 zeroCells.toArray HR2.out (by simp [zeroCells]) za2 ?_)
  exact bodyPost_ret (v := .tuple #[.agg (show List Value from zeroCells).toArray, .int .i64 ae]) (zah Tryz.results89 rfl zae zaa rfl (zai HR2.out (by simp [zeroCells]))) rfl ⟨zeroCells, rfl, Val.zero_at _ _, HX2.out.setRow (by omega) _⟩
 subst h0
 have HT : Hid (∀ b, (S b ∨ (w.heap.size + 3 ≤ b ∧ b < w1.heap.size)) → b < (w1.alloc (.cells #[.int .i64 xk, .bool xb, .int .i64 xn, .string xs, .string xt, .string xu, .slice xA xi.length xc, .slice xB xm.length xd] 27)).heap.size) := q_ fun b hb => by
  have h1 := (Ext.refl w1).alloc (.cells #[.int .i64 xk, .bool xb, .int .i64 xn, .string xs, .string xt, .string xu, .slice xA xi.length xc, .slice xB xm.length xd] 27)
  rcases hb with hb | hb
  ·exact Nat.lt_of_lt_of_le (HS.out b hb) HX2.out.size
  ·exact Nat.lt_of_lt_of_le hb.2 h1.size
 have hget := get_ok (Val.mk xk xb xn xs xt xu xi xm) en (fun b => S b ∨ (w.heap.size + 3 ≤ b ∧ b < w1.heap.size)) _ [.int .i64 xk, .bool xb, .int .i64 xn, .string xs, .string xt, .string xu, .slice xA xi.length xc, .slice xB xm.length xd] HT.out (Val.At.alike (Alike.of_ext ((Ext.refl w1).alloc (.cells #[.int .i64 xk, .bool xb, .int .i64 xn, .string xs, .string xt, .string xu, .slice xA xi.length xc, .slice xB xm.length xd] 27)) fun b hb => hb.elim (fun h => Nat.lt_of_lt_of_le (HS.out b h) HX1.out.size) fun h => h.2) _ _ HA2.out)
 have HGet := q_ hget
 clear hget
 go_wp2_with fail
 refine HGet.out.mono ?_
 rintro e3 w3 ⟨cx, rfl, hx, hx3⟩
 obtain ⟨fd, hfd⟩ : ∃ fd, ((Val.mk xk xb xn xs xt xu xi xm)).find en = fd := ⟨_, rfl⟩
 rw [hfd] at hx HD ⊢
 obtain ⟨yk, yb, yn, ys, yt, yu, yA, yl, yc, yB, ym, yd, rfl⟩ := hx.shape
 have HX3 := q_ (HX2.out.trans hx3)
 have HR3 := q_ ((hx3.block _ (zaf HR2.out)).trans HR2.out)
 have HE3 := q_ ((hx3.block _ (zaf HE2.out)).trans HE2.out)
 have HY := q_ hx
 have HR4 := q_ ((heap_alloc_old w3 (.cells #[.int .i64 yk, .bool yb, .int .i64 yn, .string ys, .string yt, .string yu, .slice yA yl yc, .slice yB ym yd] 27) (zaf HR3.out)).trans HR3.out)
 have HE4 := q_ ((heap_alloc_old w3 (.cells #[.int .i64 yk, .bool yb, .int .i64 yn, .string ys, .string yt, .string yu, .slice yA yl yc, .slice yB ym yd] 27) (zaf HE3.out)).trans HE3.out)
 have HX4 := q_ (HX3.out.alloc (.cells #[.int .i64 yk, .bool yb, .int .i64 yn, .string ys, .string yt, .string yu, .slice yA yl yc, .slice yB ym yd] 27))
 have c0 : (w3.alloc (.cells #[.int .i64 yk, .bool yb, .int .i64 yn, .string ys, .string yt, .string yu, .slice yA yl yc, .slice yB ym yd] 27)).cell? ⟨w.heap.size, 0, none⟩ = some (.int .i64 eo) := cell_of_row _ _ 0 _ _ _ HE4.out
 have HS3 := q_ (show w1.heap.size ≤ w3.heap.size from Nat.le_trans ((Ext.refl w1).alloc (.cells #[.int .i64 xk, .bool xb, .int .i64 xn, .string xs, .string xt, .string xu, .slice xA xi.length xc, .slice xB xm.length xd] 27)).size hx3.size)
 clear hx hx3 hfd c9 HGet
 by_cases h17 : eo = 17
 ·subst h17
  have hh : res = yes (ab && fd.isSome) := by rw [HD.out]; simp
  subst hh
  cases ab with
  | false =>
   cases fd with
   | none =>
    simp only [Option.isSome]
    go_wp2_with fail
    refine (truthE_ok false _).mono ?_
    rintro et wt ⟨rfl, hxt⟩
    have HXt := q_ hxt
    have HRt := q_ ((hxt.block _ (zaf HR4.out)).trans HR4.out)
    clear hxt
    go_wp2_with (refine zad rfl 27 _ _ rfl (w.heap.size + 2) 0 rfl (zbb (false)) rfl zaa rfl 27 zeroCells.toArray HRt.out (by simp [zeroCells, zbb]) (zcn (false)) ?_)
    exact bodyPost_ret (v := .tuple #[.agg (show List Value from (zbb (false))).toArray, .int .i64 0]) (zah Tryz.results89 rfl zae zaa rfl (zai HRt.out (by simp [zeroCells, zbb]))) rfl ⟨(zbb (false)), rfl, zeh _ _ _, (HX4.out.trans HXt.out).setRow (by omega) _⟩
   | some i =>
    simp only [Option.isSome]
    go_wp2_with fail
    refine (truthE_ok false _).mono ?_
    rintro et wt ⟨rfl, hxt⟩
    have HXt := q_ hxt
    have HRt := q_ ((hxt.block _ (zaf HR4.out)).trans HR4.out)
    clear hxt
    go_wp2_with (refine zad rfl 27 _ _ rfl (w.heap.size + 2) 0 rfl (zbb (false)) rfl zaa rfl 27 zeroCells.toArray HRt.out (by simp [zeroCells, zbb]) (zcn (false)) ?_)
    exact bodyPost_ret (v := .tuple #[.agg (show List Value from (zbb (false))).toArray, .int .i64 0]) (zah Tryz.results89 rfl zae zaa rfl (zai HRt.out (by simp [zeroCells, zbb]))) rfl ⟨(zbb (false)), rfl, zeh _ _ _, (HX4.out.trans HXt.out).setRow (by omega) _⟩
  | true =>
   cases fd with
   | none =>
    simp only [Option.isSome]
    go_wp2_with fail
    refine (truthE_ok false _).mono ?_
    rintro et wt ⟨rfl, hxt⟩
    have HXt := q_ hxt
    have HRt := q_ ((hxt.block _ (zaf HR4.out)).trans HR4.out)
    clear hxt
    go_wp2_with (refine zad rfl 27 _ _ rfl (w.heap.size + 2) 0 rfl (zbb (false)) rfl zaa rfl 27 zeroCells.toArray HRt.out (by simp [zeroCells, zbb]) (zcn (false)) ?_)
    exact bodyPost_ret (v := .tuple #[.agg (show List Value from (zbb (false))).toArray, .int .i64 0]) (zah Tryz.results89 rfl zae zaa rfl (zai HRt.out (by simp [zeroCells, zbb]))) rfl ⟨(zbb (false)), rfl, zeh _ _ _, (HX4.out.trans HXt.out).setRow (by omega) _⟩
   | some i =>
    simp only [Option.isSome]
    go_wp2_with fail
    refine (truthE_ok true _).mono ?_
    rintro et wt ⟨rfl, hxt⟩
    have HXt := q_ hxt
    have HRt := q_ ((hxt.block _ (zaf HR4.out)).trans HR4.out)
    clear hxt
    go_wp2_with (refine zad rfl 27 _ _ rfl (w.heap.size + 2) 0 rfl (zbb (true)) rfl zaa rfl 27 zeroCells.toArray HRt.out (by simp [zeroCells, zbb]) (zcn (true)) ?_)
    exact bodyPost_ret (v := .tuple #[.agg (show List Value from (zbb (true))).toArray, .int .i64 0]) (zah Tryz.results89 rfl zae zaa rfl (zai HRt.out (by simp [zeroCells, zbb]))) rfl ⟨(zbb (true)), rfl, zeh _ _ _, (HX4.out.trans HXt.out).setRow (by omega) _⟩
 ·have e17 : (eo == 17) = false := by simpa using h17
  cases ab with
  | false =>
   have hh : res = (.zero, 22) := by rw [HD.out]; simp [h17, no]
   subst hh
   clear h17
   go_wp2_with (refine zad rfl 27 _ _ rfl (w.heap.size + 2) 0 rfl zeroCells rfl zaa rfl 27 zeroCells.toArray HR4.out (by simp [zeroCells]) za2 ?_)
   exact bodyPost_ret (v := .tuple #[.agg (show List Value from zeroCells).toArray, .int .i64 22]) (zah Tryz.results89 rfl zae zaa rfl (zai HR4.out (by simp [zeroCells]))) rfl ⟨zeroCells, rfl, Val.zero_at _ _, HX4.out.setRow (by omega) _⟩
  | true =>
  cases fd with
  | none =>
   have hh : res = (.zero, 31) := by rw [HD.out]; simp [h17, no]
   subst hh
   clear h17
   simp only [Option.isSome]
   go_wp2_with (refine zad rfl 27 _ _ rfl (w.heap.size + 2) 0 rfl zeroCells rfl zaa rfl 27 zeroCells.toArray HR4.out (by simp [zeroCells]) za2 ?_)
   exact bodyPost_ret (v := .tuple #[.agg (show List Value from zeroCells).toArray, .int .i64 31]) (zah Tryz.results89 rfl zae zaa rfl (zai HR4.out (by simp [zeroCells]))) rfl ⟨zeroCells, rfl, Val.zero_at _ _, HX4.out.setRow (by omega) _⟩
  | some i =>
   have hh : res = ((((Val.mk xk xb xn xs xt xu xi xm).items[i]?).getD .zero), 0) := by rw [HD.out]; simp [h17]
   subst hh
   clear h17
   simp only [Option.isSome]
   have HY2 : Hid (Val.At (fun b => S b ∨ Fresh (w.heap.size + 3) w3 b) w3 (((Val.mk xk xb xn xs xt xu xi xm).items[i]?).getD .zero) [.int .i64 yk, .bool yb, .int .i64 yn, .string ys, .string yt, .string yu, .slice yA yl yc, .slice yB ym yd]) := q_ (HY.out.mono fun b hb => hb.imp id fun h => ⟨h.1, Nat.lt_of_lt_of_le h.2 HS3.out⟩)
   go_wp2_with (refine zad rfl 27 _ _ rfl (w.heap.size + 2) 0 rfl [.int .i64 yk, .bool yb, .int .i64 yn, .string ys, .string yt, .string yu, .slice yA yl yc, .slice yB ym yd] rfl zaa rfl 27 zeroCells.toArray HR4.out (by simp [zeroCells]) HY.out.one ?_)
   exact bodyPost_ret (v := .tuple #[.agg (show List Value from [.int .i64 yk, .bool yb, .int .i64 yn, .string ys, .string yt, .string yu, .slice yA yl yc, .slice yB ym yd]).toArray, .int .i64 0]) (zah Tryz.results89 rfl zae zaa rfl (zai HR4.out (by simp [zeroCells]))) rfl ⟨[.int .i64 yk, .bool yb, .int .i64 yn, .string ys, .string yt, .string yu, .slice yA yl yc, .slice yB ym yd], rfl, ret_in HY2.out HS.out (by omega) ((Ext.refl w3).alloc _) (by omega) HX3.out.size _, HX4.out.setRow (by omega) _⟩
end Go.Proofs.YtebfoimbdljbmaaGreatDoor
