/-
  decide.Decide of at most two policies without conditions, with no store. The conditions: what is handed in lies in memory as it should.
-/
import Derived.Test.YtebfoimbdljbmaaGreatDoorTellQ
import Derived.Test.YtebfoimbdljbmaaGreatDoorGd
namespace Go.Proofs.YtebfoimbdljbmaaGreatDoor
open Go.RowKit
open Lib renaming hid → q_
set_option maxRecDepth 100000
set_option maxHeartbeats 4000000
theorem TellS.ext {w w' : World} {b : Nat} {l : List ByteArray} (h : TellS w b l) (k : Ext w w') : TellS w' b l := MapS.ext h k
theorem toldP_len (q : Req) (v : Nat) (l : List Pol) : (zas q v l).length ≤ l.length := by unfold zas; rw [List.length_map]; exact List.length_filter_le _ _
theorem zbk : ∀ w, (isAgg 62).run Tryz.prog w = .ok true w := fun _ => by kernel_rfl
theorem zaz : ∀ w, (Go.sizeOf 62).run Tryz.prog w = .ok 21 w := fun _ => by kernel_rfl
theorem heapD5 (w : World) (o0 o1 o2 o3 o4 : Obj) : ∃ W, W = ((((w.alloc o0).alloc o1).alloc o2).alloc o3).alloc o4 ∧ W.heap[w.heap.size]? = some o0 ∧ W.heap[w.heap.size + 1]? = some o1 ∧ W.heap[w.heap.size + 2]? = some o2 ∧ W.heap[w.heap.size + 3]? = some o3 ∧ W.heap[w.heap.size + 4]? = some o4 ∧ Ext w W := by
 refine ⟨_, rfl, ?_, ?_, ?_, ?_, ?_, (((((Ext.refl w).alloc _).alloc _).alloc _).alloc _).alloc _⟩ <;> (simp only [World.alloc, Array.getElem?_push, Array.size_push]; (repeat rw [if_neg (by omega)]); simp)
theorem TellS.made {w : World} {b : Nat} (h : w.heap[b]? = some (.map #[] 0)) : TellS w b [] := by
 obtain ⟨D, n, ⟨es, clock, h1, h2⟩, h3⟩ := MapS.made w
 rw [heap_alloc_new] at h1
 exact ⟨D, n, ⟨es, clock, h.trans h1, h2⟩, h3⟩
theorem TellS.len {w : World} {b : Nat} {l : List ByteArray} (h : TellS w b l) (ty : TypeId) : (Builtin.len_ #[102] ty #[.map (some b)]).run Tryz.prog w = .ok (.int .i64 l.length) w := by
 obtain ⟨D, n, h1, _, _, h2⟩ := h
 have h3 := h1.len Tryz.underlying102 ty
 rw [h2] at h3; exact h3
theorem za2 : ∀ w, (isAgg 66).run Tryz.prog w = .ok true w := fun _ => by kernel_rfl
theorem zam : ∀ w, (Go.sizeOf 66).run Tryz.prog w = .ok 3 w := fun _ => by kernel_rfl
theorem za3 {w : World} {base g lo : Nat} {T : TypeId} {n : Nat} {v : Value} {xs : List Value} {cs : Array Value} (hlo : lo ≤ base) (h : w.ownsRow base T 1 v n xs) (hg : g < base) : (w.setRow g cs).ownsRow lo T 1 v n xs :=
 ownsRow_base (zaj h (GrownBy.setRow w g cs) (fun b hb e => by injection e with e; have := (World.ownsRow.lt h b hb).1; omega)) hlo
theorem zbw {w : World} {base g j : Nat} {T : TypeId} {n : Nat} {v u : Value} {xs : List Value} (h : w.ownsRow base T 1 v n xs) (hne : ∀ b, v.ownBlock = some b → b ≠ g) : (w.setCell ⟨g, j, none⟩ u).ownsRow base T 1 v n xs :=
 zaj h (GrownBy.setCell w g j u) (fun b hb e => by injection e with e; exact hne b hb e.symm)
theorem zar {P : Program} {ops : Array Oper} {rest : List Oper} {op : Oper} {a : Act} {w : World} {Q : Exit → Act → World → Prop} (hgd : op.guard = none) (ty : TypeId) (x y : Operand) (ho : op.op = .store ty x y)
  (g off : Nat) (hx : a.eval x = .pointer (some ⟨g, off, none⟩)) (cs : List Value) (hy : a.eval y = .agg cs.toArray) {n : Nat} (hz : ∀ w, (Go.sizeOf ty).run P w = .ok n w) (hn : cs.length = n)
  (T : TypeId) (cur : Array Value) (hg : w.heap[g]? = some (.cells cur T (0, 0))) (hl : off + cs.length ≤ cur.size) (h1 : ∀ v ∈ cs, v.oneCell' = true) (new : List Value) (hnew : cur.toList.take off ++ cs ++ cur.toList.drop (off + cs.length) = new)
  (hk : ∀ w', w'.heap[g]? = some (.cells new.toArray T (0, 0)) → GrownBy w w' (some g) → wpList P ops Q rest (a.put op.dst undef) w') : wpList P ops Q (op :: rest) a w :=
 zau hgd ty x y ho g off hx cs hy hz hn T cur hg hl h1 (by rw [hnew]; exact hk _ (zbq hg _) (GrownBy.setRow _ _ _))
theorem one21 (nm : ByteArray) (permit : Bool) (xk : Int) (xt xd xe : ByteArray) (xs : Bool) (xA : Option Addr) (xl : List Uid) (xc : Nat) (yk : Int) (yt yd ye : ByteArray) (ys : Bool) (yA : Option Addr) (yl : List Uid) (yc : Nat) (zk : Int) (zt zd ze : ByteArray) (zs : Bool) (zA : Option Addr) (zl : List Uid) (zc : Nat) : ∀ v ∈ ([.string nm, .bool permit, .int .i64 xk, .string xt, .string xd, .string xe, .bool xs, .slice xA xl.length xc, .int .i64 yk, .string yt, .string yd, .string ye, .bool ys, .slice yA yl.length yc, .int .i64 zk, .string zt, .string zd, .string ze, .bool zs, .slice zA zl.length zc, .slice none 0 0] : List Value), v.oneCell' = true := by
 intro v hv
 simp only [List.mem_cons, List.not_mem_nil, or_false] at hv
 rcases hv with rfl | rfl | rfl | rfl | rfl | rfl | rfl | rfl | rfl | rfl | rfl | rfl | rfl | rfl | rfl | rfl | rfl | rfl | rfl | rfl | rfl <;> rfl
noncomputable def whyP (q : Req) (l : List Pol) : List ByteArray := if zas q 2 l = [] then zas q 1 l else zas q 2 l
def zbz (q : Req) (l : List Pol) (w : World) (e : Ending) (w' : World) : Prop := ∃ v1 v2, e = .returned (.agg #[.bool (!(zas q 1 l).isEmpty && (zas q 2 l).isEmpty), v1, v2]) ∧ w'.ownsRow w.heap.size 9 1 v1 (whyP q l).length ((whyP q l).map .string) ∧ w'.ownsRow w.heap.size 9 1 v2 (zas q 3 l).length ((zas q 3 l).map .string) ∧ Ext w w'
theorem decide0_ok (l : List Pol) (q : Req) (w : World) (b o c : Nat) (qc : List Value) (hl : l.length ≤ 2) (hnd : (l.map Pol.name).Nodup) (hfit : ∀ p ∈ l, FitS p.name) (h1 : ∀ v, 1 ≤ v → (zas q v l).length ≤ 1) (hq : InR w q qc) (hb : b < w.heap.size) (hrow : ∀ i p, l[i]? = some p → ∃ cs, p.At w cs ∧ CellsAt w b (o + i * 21) cs) :
  Calls Tryz.prog 25 #[.slice (some ⟨b, o, none⟩) l.length c, .agg qc.toArray, .pointer none] w (zbz q l w) := by
 have HRow := q_ hrow
 have HFit := q_ hfit
 have HNd := q_ hnd
 have H1 := q_ h1
 have HQi := q_ hq
 obtain ⟨vk, vb, vn, vs, vt, vu, vA, vl, vc, vB, vm, vd, rfl, _⟩ := hq.shape
 obtain ⟨W, hW, p0, p1, p2, p3, p4, px⟩ := heapD5 w (.cells #[.string q.pr.1, .string q.pr.2, .string q.act.1, .string q.act.2, .string q.res.1, .string q.res.2, .int .i64 vk, .bool vb, .int .i64 vn, .string vs, .string vt, .string vu, .slice vA vl vc, .slice vB vm vd] 34) (.cells #[.bool false, .slice none 0 0, .slice none 0 0] 66) (.map #[] 0) (.map #[] 0) (.map #[] 0)
 subst hW
 have HQ0 := q_ p0
 have HA0 := q_ p1
 have HM1 := q_ (TellS.made p2)
 have HM2 := q_ (TellS.made p3)
 have HM3 := q_ (TellS.made p4)
 have HX0 := q_ px
 clear p0 p1 p2 p3 p4 px hq hrow hfit hnd h1
 have hmm := @run_makeMap Tryz.prog
 go_enter Tryz.func25, Tryz.ntmps25
 go_wp2_with fail
 clear hmm
 go_loopw [20] (fun i' wr => ∃ k : Nat, k ≤ l.length ∧ i' = .int .i64 k ∧ Hid (Ext w wr) ∧ Hid (wr.heap[w.heap.size]? = some (.cells #[.string q.pr.1, .string q.pr.2, .string q.act.1, .string q.act.2, .string q.res.1, .string q.res.2, .int .i64 vk, .bool vb, .int .i64 vn, .string vs, .string vt, .string vu, .slice vA vl vc, .slice vB vm vd] 34 (0, 0))) ∧ Hid (wr.heap[w.heap.size + 1]? = some (.cells #[.bool false, .slice none 0 0, .slice none 0 0] 66 (0, 0))) ∧ Hid (TellS wr (w.heap.size + 2) (zas q 1 (l.take k))) ∧ Hid (TellS wr (w.heap.size + 3) (zas q 2 (l.take k))) ∧ Hid (TellS wr (w.heap.size + 4) (zas q 3 (l.take k)))) (fun i' _ => l.length - (intOf i').toNat)
 case atStart => exact ⟨0, Nat.zero_le _, rfl, HX0, HQ0, HA0, HM1, HM2, HM3⟩
 case round =>
 clear HX0 HQ0 HA0 HM1 HM2 HM3
 obtain ⟨k, hk, rfl, HX, HQr, HAr, HT1, HT2, HT3⟩ := hrel
 by_cases hkt : k < l.length
 ·as_aux_lemma =>
  obtain ⟨p, hp⟩ : ∃ p, l[k]? = some p := ⟨_, List.getElem?_eq_getElem hkt⟩
  obtain ⟨cs, hpa, hca⟩ := HRow.out k p hp
  have HTk := q_ (show l.take (k + 1) = l.take k ++ [p] by rw [List.take_add_one, hp]; rfl)
  have hca' := hca.below HX.out.toBelow hb
  obtain ⟨pc, acl, rc, rfl, hxs, hys, hzs⟩ := hpa
  have HPm := q_ (HFit.out p (List.mem_of_getElem? hp))
  have HNn : Hid (∀ v, p.name ∉ zas q v (l.take k)) := q_ fun v hm => by
   have h2 := toldP_sub hm
   have h3 : ((l.take (k + 1)).map Pol.name).Nodup := List.Nodup.sublist ((List.take_sublist _ _).map _) HNd.out
   rw [HTk.out, List.map_append, List.nodup_append] at h3
   exact h3.2.2 _ h2 _ (by simp) rfl
  obtain ⟨nm, permit, ⟨xk, xt, ⟨xd, xe⟩, xs, xl⟩, ⟨yk, yt, ⟨yd, ye⟩, ys, yl⟩, ⟨zk, zt, ⟨zd, ze⟩, zs, zl⟩⟩ := p
  obtain ⟨_, rfl, _, _, _, xA, xc, rfl, _⟩ := id hxs
  obtain ⟨_, rfl, _, _, _, yA, yc, rfl, _⟩ := id hys
  obtain ⟨_, rfl, _, _, _, zA, zc, rfl, _⟩ := id hzs
  obtain ⟨⟨tb, er⟩, hte⟩ : ∃ r, zbb (Scp.mk xk xt (xd, xe) xs xl) (Scp.mk yk yt (yd, ye) ys yl) (Scp.mk zk zt (zd, ze) zs zl) q = r := ⟨_, rfl⟩
  have HTs := q_ (fun v => show zas q v (l.take (k + 1)) = _ from (congrArg (zas q v) HTk.out).trans (toldP_snoc q v (l.take k) (Pol.mk nm permit (Scp.mk xk xt (xd, xe) xs xl) (Scp.mk yk yt (yd, ye) ys yl) (Scp.mk zk zt (zd, ze) zs zl))))
  have HTl := q_ (fun v => toldP_len q v (l.take k))
  have HTo : Hid (Pol.told q (Pol.mk nm permit (Scp.mk xk xt (xd, xe) xs xl) (Scp.mk yk yt (yd, ye) ys yl) (Scp.mk zk zt (zd, ze) zs zl)) = if er ≠ 0 then 3 else if tb = true then (if permit = true then 1 else 2) else 0) := q_ (by unfold Pol.told Pol.takes; simp only [hte])
  have HCall : Hid (∀ X, Ext wr X → Calls Tryz.prog 24 #[.agg ([.string nm, .bool permit, .int .i64 xk, .string xt, .string xd, .string xe, .bool xs, .slice xA xl.length xc, .int .i64 yk, .string yt, .string yd, .string ye, .bool ys, .slice yA yl.length yc, .int .i64 zk, .string zt, .string zd, .string ze, .bool zs, .slice zA zl.length zc, .slice none 0 0] : List Value).toArray, .agg ([.string q.pr.1, .string q.pr.2, .string q.act.1, .string q.act.2, .string q.res.1, .string q.res.2, .int .i64 vk, .bool vb, .int .i64 vn, .string vs, .string vt, .string vu, .slice vA vl vc, .slice vB vm vd] : List Value).toArray, .pointer none] X (zai (tb, er) X)) := q_ fun X hX => by as_aux_lemma =>
   have h := takes0_ok nm permit (Scp.mk xk xt (xd, xe) xs xl) (Scp.mk yk yt (yd, ye) ys yl) (Scp.mk zk zt (zd, ze) zs zl) q X [.int .i64 xk, .string xt, .string xd, .string xe, .bool xs, .slice xA xl.length xc] [.int .i64 yk, .string yt, .string yd, .string ye, .bool ys, .slice yA yl.length yc] [.int .i64 zk, .string zt, .string zd, .string ze, .bool zs, .slice zA zl.length zc] [.string q.pr.1, .string q.pr.2, .string q.act.1, .string q.act.2, .string q.res.1, .string q.res.2, .int .i64 vk, .bool vb, .int .i64 vn, .string vs, .string vt, .string vu, .slice vA vl vc, .slice vB vm vd] (zca hxs (HX.out.trans hX)) (zca hys (HX.out.trans hX)) (zca hzs (HX.out.trans hX)) (HQi.out.ext (HX.out.trans hX))
   rw [hte] at h
   exact h
  obtain ⟨L, hL⟩ : ∃ L : List Value, L = [.string nm, .bool permit, .int .i64 xk, .string xt, .string xd, .string xe, .bool xs, .slice xA xl.length xc, .int .i64 yk, .string yt, .string yd, .string ye, .bool ys, .slice yA yl.length yc, .int .i64 zk, .string zt, .string zd, .string ze, .bool zs, .slice zA zl.length zc, .slice none 0 0] := ⟨_, rfl⟩
  have HLe := q_ hL
  have HLn : Hid (L.length = 21) := q_ (by rw [hL]; rfl)
  have HLo : Hid (∀ v ∈ L, v.oneCell' = true) := q_ (by rw [hL]; exact (one21 nm permit xk xt xd xe xs xA xl xc yk yt yd ye ys yA yl yc zk zt zd ze zs zA zl zc))
  have Hca : Hid (CellsAt wr b (o + k * 21) L) := q_ (by rw [hL]; exact hca')
  clear hL
  clear hte hca hca' hp hxs hys hzs HTk
  go_wp2_with (first | (with_reducible refine zae ?_; refine zaa rfl 62 _ rfl b (o + k * 21) rfl zbk zaz (cs := L) HLn.out Hca.out ?_) | ((with_reducible refine za6 ?_); refine zar rfl 62 _ _ rfl wr.heap.size 0 rfl L rfl zaz HLn.out 62 #[.string ByteArray.empty, .bool false, .int .i64 0, .string ByteArray.empty, .string ByteArray.empty, .string ByteArray.empty, .bool false, .slice none 0 0, .int .i64 0, .string ByteArray.empty, .string ByteArray.empty, .string ByteArray.empty, .bool false, .slice none 0 0, .int .i64 0, .string ByteArray.empty, .string ByteArray.empty, .string ByteArray.empty, .bool false, .slice none 0 0, .slice none 0 0] (heap_alloc_new wr _) (by rw [HLn.out]; simp) HLo.out [.string nm, .bool permit, .int .i64 xk, .string xt, .string xd, .string xe, .bool xs, .slice xA xl.length xc, .int .i64 yk, .string yt, .string yd, .string ye, .bool ys, .slice yA yl.length yc, .int .i64 zk, .string zt, .string zd, .string ze, .bool zs, .slice zA zl.length zc, .slice none 0 0] (by rw [List.take_zero, List.nil_append, List.drop_eq_nil_of_le (by rw [HLn.out]; simp), List.append_nil, HLe.out]) ?_; intro w0 hp0 hg0; have HB := q_ hp0; have HQb := q_ ((hg0.block _ (zaf (za0 HQr.out)) (by have := zaf HQr.out; intro e; injection e with e; omega)).trans (za0 HQr.out))) | (with_reducible refine zae ?_; refine zaa rfl 62 _ rfl wr.heap.size 0 rfl zbk zaz (cs := [.string nm, .bool permit, .int .i64 xk, .string xt, .string xd, .string xe, .bool xs, .slice xA xl.length xc, .int .i64 yk, .string yt, .string yd, .string ye, .bool ys, .slice yA yl.length yc, .int .i64 zk, .string zt, .string zd, .string ze, .bool zs, .slice zA zl.length zc, .slice none 0 0]) rfl (zad HB.out) ?_) | (with_reducible refine zae ?_; refine zaa rfl 34 _ rfl w.heap.size 0 rfl Tryz.aggQ zb5 (cs := [.string q.pr.1, .string q.pr.2, .string q.act.1, .string q.act.2, .string q.res.1, .string q.res.2, .int .i64 vk, .bool vb, .int .i64 vn, .string vs, .string vt, .string vu, .slice vA vl vc, .slice vB vm vd]) rfl (zad HQb.out) ?_))
  have hx0 : Ext wr w0 := zak ((Ext.refl wr).alloc _) hg0 (fun b e => by injection e with e; omega)
  have HA0 := q_ ((hg0.block _ (zaf (za0 HAr.out)) (by have := zaf HAr.out; intro e; injection e with e; omega)).trans (za0 HAr.out))
  have Hx0 := q_ hx0
  clear hp0 hg0 hx0
  refine (HCall.out w0 Hx0.out).mono ?_
  rintro e1 w1 ⟨rfl, hx1⟩
  have HX1 := q_ (HX.out.trans (Hx0.out.trans hx1))
  have HQ1 := q_ ((hx1.block _ (zaf HQb.out)).trans HQb.out)
  have HA1 := q_ ((hx1.block _ (zaf HA0.out)).trans HA0.out)
  have HS1 := q_ (TellS.ext HT1.out (Hx0.out.trans hx1))
  have HS2 := q_ (TellS.ext HT2.out (Hx0.out.trans hx1))
  have HS3 := q_ (TellS.ext HT3.out (Hx0.out.trans hx1))
  have hB1 := (hx1.block _ (zaf HB.out)).trans HB.out
  have c0 : w1.cell? ⟨wr.heap.size, 0, none⟩ = some (.string nm) := cell_of_row _ _ 0 _ _ _ hB1
  have c1 : w1.cell? ⟨wr.heap.size, 1, none⟩ = some (.bool permit) := cell_of_row _ _ 1 _ _ _ hB1
  clear hB1 hx1 HCall HB HQb HA0 Hx0 HQr HAr HT1 HT2 HT3 Hca
  by_cases h0 : er = 0
  ·subst h0
   cases tb with
   | false =>
    as_aux_lemma =>
    go_wp2_with fail
    have hs : ∀ v, 1 ≤ v → zas q v (l.take (k + 1)) = zas q v (l.take k) := fun v hv => by
     rw [HTs.out v, HTo.out]; simp; omega
    go_roundw
    case rel => exact ⟨k + 1, by omega, by go_num, HX1, HQ1, HA1, q_ (by rw [hs 1 (by omega)]; exact HS1.out), q_ (by rw [hs 2 (by omega)]; exact HS2.out), q_ (by rw [hs 3 (by omega)]; exact HS3.out)⟩
    case measure => simp [intOf]; omega
   | true =>
    cases permit with
    | true =>
     as_aux_lemma =>
     have hl2 := HTl.out 1
     rw [List.length_take] at hl2
     go_wp2_with (at_mapUpdate; refine wpList_tell rfl _ _ _ rfl (w.heap.size + 2) (zas q 1 (l.take k)) rfl HS1.out (by omega) nm HPm.out (HNn.out 1) rfl rfl ?_; intro w2 hm2 hg2)
     have hs : ∀ u, u ≠ 1 → zas q u (l.take (k + 1)) = zas q u (l.take k) := fun u hu => by
      rw [HTs.out u, HTo.out]; simp; omega
     have hv : zas q 1 (l.take (k + 1)) = zas q 1 (l.take k) ++ [nm] := by rw [HTs.out 1, HTo.out]; simp
     have hext := zak HX1.out hg2 (fun b e => by injection e with e; omega)
     have hq2 := (hg2.block _ (zaf HQ1.out) (by intro e; injection e with e; omega)).trans HQ1.out
     have ha2 := (hg2.block _ (zaf HA1.out) (by intro e; injection e with e; omega)).trans HA1.out
     go_roundw
     case rel => exact ⟨k + 1, by omega, by go_num, q_ hext, q_ hq2, q_ ha2, q_ (by rw [hv]; exact hm2), q_ (by rw [hs 2 (by omega)]; exact TellS.grown HS2.out hg2 (by intro e; injection e with e; omega)), q_ (by rw [hs 3 (by omega)]; exact TellS.grown HS3.out hg2 (by intro e; injection e with e; omega))⟩
     case measure => simp [intOf]; omega
    | false =>
     as_aux_lemma =>
     have hl2 := HTl.out 2
     rw [List.length_take] at hl2
     go_wp2_with (at_mapUpdate; refine wpList_tell rfl _ _ _ rfl (w.heap.size + 3) (zas q 2 (l.take k)) rfl HS2.out (by omega) nm HPm.out (HNn.out 2) rfl rfl ?_; intro w2 hm2 hg2)
     have hs : ∀ u, u ≠ 2 → zas q u (l.take (k + 1)) = zas q u (l.take k) := fun u hu => by
      rw [HTs.out u, HTo.out]; simp; omega
     have hv : zas q 2 (l.take (k + 1)) = zas q 2 (l.take k) ++ [nm] := by rw [HTs.out 2, HTo.out]; simp
     have hext := zak HX1.out hg2 (fun b e => by injection e with e; omega)
     have hq2 := (hg2.block _ (zaf HQ1.out) (by intro e; injection e with e; omega)).trans HQ1.out
     have ha2 := (hg2.block _ (zaf HA1.out) (by intro e; injection e with e; omega)).trans HA1.out
     go_roundw
     case rel => exact ⟨k + 1, by omega, by go_num, q_ hext, q_ hq2, q_ ha2, q_ (by rw [hs 1 (by omega)]; exact TellS.grown HS1.out hg2 (by intro e; injection e with e; omega)), q_ (by rw [hv]; exact hm2), q_ (by rw [hs 3 (by omega)]; exact TellS.grown HS3.out hg2 (by intro e; injection e with e; omega))⟩
     case measure => simp [intOf]; omega
  ·as_aux_lemma =>
   have t0 : (er != 0) = true := by simpa using h0
   have hl2 := HTl.out 3
   rw [List.length_take] at hl2
   go_wp2_with (at_mapUpdate; refine wpList_tell rfl _ _ _ rfl (w.heap.size + 4) (zas q 3 (l.take k)) rfl HS3.out (by omega) nm HPm.out (HNn.out 3) rfl rfl ?_; intro w2 hm2 hg2)
   have hs : ∀ u, u ≠ 3 → zas q u (l.take (k + 1)) = zas q u (l.take k) := fun u hu => by
    rw [HTs.out u, HTo.out]; simp [h0]; omega
   have hv : zas q 3 (l.take (k + 1)) = zas q 3 (l.take k) ++ [nm] := by rw [HTs.out 3, HTo.out]; simp [h0]
   have hext := zak HX1.out hg2 (fun b e => by injection e with e; omega)
   have hq2 := (hg2.block _ (zaf HQ1.out) (by intro e; injection e with e; omega)).trans HQ1.out
   have ha2 := (hg2.block _ (zaf HA1.out) (by intro e; injection e with e; omega)).trans HA1.out
   go_roundw
   case rel => exact ⟨k + 1, by omega, by go_num, q_ hext, q_ hq2, q_ ha2, q_ (by rw [hs 1 (by omega)]; exact TellS.grown HS1.out hg2 (by intro e; injection e with e; omega)), q_ (by rw [hs 2 (by omega)]; exact TellS.grown HS2.out hg2 (by intro e; injection e with e; omega)), q_ (by rw [hv]; exact hm2)⟩
   case measure => simp [intOf]; omega
 ·have hke : k = l.length := by omega
  subst hke
  have HF : Hid (∀ v, ∀ y ∈ zas q v l, FitS y) := q_ fun v y hy => by
   obtain ⟨p, hp, rfl⟩ := List.mem_map.1 (toldP_sub hy)
   exact HFit.out p hp
  rw [List.take_length] at HT1 HT2 HT3
  have h1A := H1.out 1 (by omega)
  have h1B := H1.out 2 (by omega)
  have h1C := H1.out 3 (by omega)
  have HFA := q_ (HF.out 1)
  have HFB := q_ (HF.out 2)
  have HFC := q_ (HF.out 3)
  have HXs := q_ HX.out.size
  generalize hA : zas q 1 l = A at HT1 h1A HFA
  generalize hB : zas q 2 l = B at HT2 h1B HFB
  generalize hC : zas q 3 l = C at HT3 h1C HFC
  have HA := q_ hA
  have HB := q_ hB
  have HC := q_ hC
  have HN1 := q_ (zbf _ A wr HT1.out HFA.out h1A)
  clear hA hB hC HF HFA HRow HNd HQi HFit H1 HQr hk hkt
  rcases (by omega : A.length = 0 ∨ A.length = 1) with hn1 | hn1
  ·rcases (by omega : B.length = 0 ∨ B.length = 1) with hn2 | hn2
   ·as_aux_lemma =>
    have HA0 := q_ (List.eq_nil_of_length_eq_zero hn1)
    have HB0 := q_ (List.eq_nil_of_length_eq_zero hn2)
    have Hn1 := q_ hn1
    have Hn2 := q_ hn2
    clear hn1 hn2
    have hln1 : ∀ ty, (Builtin.len_ #[102] ty #[.map (some (w.heap.size + 2))]).run Tryz.prog wr = .ok (.int .i64 0) wr := fun ty => by have h := TellS.len HT1.out ty; rw [Hn1.out] at h; exact h
    have hln2 : ∀ ty, (Builtin.len_ #[102] ty #[.map (some (w.heap.size + 3))]).run Tryz.prog wr = .ok (.int .i64 0) wr := fun ty => by have h := TellS.len HT2.out ty; rw [Hn2.out] at h; exact h
    go_wp2_with fail
    refine HN1.out.mono ?_
    rintro e1 w1 ⟨v1, rfl, ho1, hx1⟩
    obtain ⟨A1, c1, rfl⟩ := zap ho1
    have HO1 := q_ ho1
    have HX1 := q_ (HX.out.trans hx1)
    have Hx1 := q_ hx1
    have HA1 := q_ ((hx1.block _ (zaf HAr.out)).trans HAr.out)
    have HN3 := q_ (zbf _ C w1 (TellS.ext HT3.out hx1) HFC.out h1C)
    clear hln1 hln2 hx1 ho1 HN1
    go_wp2_with fail
    refine HN3.out.mono ?_
    rintro e2 w2 ⟨v3, rfl, ho3, hx2⟩
    obtain ⟨A3, c3, rfl⟩ := zap ho3
    have hx3 : Ext w1 (w2.alloc (.cells #[.bool false, .slice A1 A.length c1, .slice A3 C.length c3] 66)) := hx2.alloc _
    have hb3 : (w2.alloc (.cells #[.bool false, .slice A1 A.length c1, .slice A3 C.length c3] 66)).heap[w2.heap.size]? = some (.cells #[.bool false, .slice A1 A.length c1, .slice A3 C.length c3] 66 (0, 0)) := heap_alloc_new w2 _
    have Hs2 := q_ (show w1.heap.size ≤ w2.heap.size from hx2.size)
    have Hg1 := q_ (show w.heap.size + 1 < w1.heap.size from zaf HA1.out)
    have HO3l := q_ (fun b hb => (World.ownsRow.lt ho3 b hb).2)
    have HO3 := q_ (zah ho3 ((Ext.refl w2).alloc (.cells #[.bool false, .slice A1 A.length c1, .slice A3 C.length c3] 66)))
    have HO1b := q_ (zah HO1.out hx3)
    have HX3 := q_ (HX1.out.trans hx3)
    have HA3 := q_ ((hx3.block _ (zaf HA1.out)).trans HA1.out)
    have HT2b := q_ (TellS.ext HT2.out (Hx1.out.trans hx3))
    have HB3 := q_ hb3
    have hln2 : ∀ ty, (Builtin.len_ #[102] ty #[.map (some (w.heap.size + 3))]).run Tryz.prog (w2.alloc (.cells #[.bool false, .slice A1 A.length c1, .slice A3 C.length c3] 66)) = .ok (.int .i64 0) (w2.alloc (.cells #[.bool false, .slice A1 A.length c1, .slice A3 C.length c3] 66)) := fun ty => by have h := TellS.len HT2b.out ty; rw [Hn2.out] at h; exact h
    have Hs1 := q_ (show w.heap.size ≤ w1.heap.size from HX1.out.size)
    clear hx2 hx3 hb3 ho3 HN3 HO1 HA1 HX1 Hx1
    go_wp2_with (first | (with_reducible refine zae ?_; refine zaa rfl 66 _ rfl w2.heap.size 0 rfl za2 zam (cs := [.bool false, .slice A1 A.length c1, .slice A3 C.length c3]) rfl (zad HB3.out) ?_) | ((with_reducible refine za6 ?_); refine zau rfl 66 _ _ rfl (w.heap.size + 1) 0 rfl [.bool false, .slice A1 A.length c1, .slice A3 C.length c3] rfl zam rfl 66 #[.bool false, .slice none 0 0, .slice none 0 0] HA3.out (by simp) (by simp [Value.oneCell']) ?_))
    refine bodyPost_ret (v := .agg ([.bool false, .slice A1 A.length c1, .slice A3 C.length c3] : List Value).toArray) (zcc Tryz.results25 rfl za2 zam rfl (zbg HA3.out (by first | rfl | simp))) rfl ?_
    show zbz _ _ _ _ _
    unfold zbz whyP
    rw [HA.out, HB.out, HC.out]
    rw [if_pos HB0.out]
    exact ⟨_, _, by rw [show (!A.isEmpty && B.isEmpty) = false by simp [HA0.out]], za3 HX.out.size HO1b.out (zaf HAr.out), za3 Hs1.out HO3.out Hg1.out, HX3.out.setRow (by omega) _⟩
   ·as_aux_lemma =>
    have HA0 := q_ (List.eq_nil_of_length_eq_zero hn1)
    have Hne : Hid (B ≠ []) := q_ fun h => by rw [h] at hn2; cases hn2
    have Hn1 := q_ hn1
    have Hn2 := q_ hn2
    clear hn1 hn2
    have hln1 : ∀ ty, (Builtin.len_ #[102] ty #[.map (some (w.heap.size + 2))]).run Tryz.prog wr = .ok (.int .i64 0) wr := fun ty => by have h := TellS.len HT1.out ty; rw [Hn1.out] at h; exact h
    have hln2 : ∀ ty, (Builtin.len_ #[102] ty #[.map (some (w.heap.size + 3))]).run Tryz.prog wr = .ok (.int .i64 1) wr := fun ty => by have h := TellS.len HT2.out ty; rw [Hn2.out] at h; exact h
    go_wp2_with fail
    refine HN1.out.mono ?_
    rintro e1 w1 ⟨v1, rfl, ho1, hx1⟩
    obtain ⟨A1, c1, rfl⟩ := zap ho1
    have HO1 := q_ ho1
    have HX1 := q_ (HX.out.trans hx1)
    have Hx1 := q_ hx1
    have HA1 := q_ ((hx1.block _ (zaf HAr.out)).trans HAr.out)
    have HN3 := q_ (zbf _ C w1 (TellS.ext HT3.out hx1) HFC.out h1C)
    clear hln1 hln2 hx1 ho1 HN1
    go_wp2_with fail
    refine HN3.out.mono ?_
    rintro e2 w2 ⟨v3, rfl, ho3, hx2⟩
    obtain ⟨A3, c3, rfl⟩ := zap ho3
    have hx3 : Ext w1 (w2.alloc (.cells #[.bool false, .slice A1 A.length c1, .slice A3 C.length c3] 66)) := hx2.alloc _
    have hb3 : (w2.alloc (.cells #[.bool false, .slice A1 A.length c1, .slice A3 C.length c3] 66)).heap[w2.heap.size]? = some (.cells #[.bool false, .slice A1 A.length c1, .slice A3 C.length c3] 66 (0, 0)) := heap_alloc_new w2 _
    have Hs2 := q_ (show w1.heap.size ≤ w2.heap.size from hx2.size)
    have Hg1 := q_ (show w.heap.size + 1 < w1.heap.size from zaf HA1.out)
    have HO3l := q_ (fun b hb => (World.ownsRow.lt ho3 b hb).2)
    have HO3 := q_ (zah ho3 ((Ext.refl w2).alloc (.cells #[.bool false, .slice A1 A.length c1, .slice A3 C.length c3] 66)))
    have HO1b := q_ (zah HO1.out hx3)
    have HX3 := q_ (HX1.out.trans hx3)
    have HA3 := q_ ((hx3.block _ (zaf HA1.out)).trans HA1.out)
    have HT2b := q_ (TellS.ext HT2.out (Hx1.out.trans hx3))
    have HB3 := q_ hb3
    have hln2 : ∀ ty, (Builtin.len_ #[102] ty #[.map (some (w.heap.size + 3))]).run Tryz.prog (w2.alloc (.cells #[.bool false, .slice A1 A.length c1, .slice A3 C.length c3] 66)) = .ok (.int .i64 1) (w2.alloc (.cells #[.bool false, .slice A1 A.length c1, .slice A3 C.length c3] 66)) := fun ty => by have h := TellS.len HT2b.out ty; rw [Hn2.out] at h; exact h
    have Hs1 := q_ (show w.heap.size ≤ w1.heap.size from HX1.out.size)
    clear hx2 hx3 hb3 ho3 HN3 HO1 HA1 HX1 Hx1
    have HN2 := q_ (zbf _ B (w2.alloc (.cells #[.bool false, .slice A1 A.length c1, .slice A3 C.length c3] 66)) HT2b.out HFB.out h1B)
    go_wp2_with fail
    refine HN2.out.mono ?_
    rintro e4 w4 ⟨v2, rfl, ho2, hx4⟩
    obtain ⟨A2, c2, rfl⟩ := zap ho2
    have hb4 := (hx4.block _ (zaf HB3.out)).trans HB3.out
    have z1 : w4.frozen? ⟨w2.heap.size, 1, none⟩ = false := frozen_of_row _ _ _ _ _ hb4
    have k1 : w4.cell? ⟨w2.heap.size, 1, none⟩ = some (.slice A1 A.length c1) := cell_of_row _ _ 1 _ _ _ hb4
    have hb5 : (w4.setCell ⟨w2.heap.size, 1, none⟩ (.slice A2 B.length c2)).heap[w2.heap.size]? = some (.cells #[.bool false, .slice A2 B.length c2, .slice A3 C.length c3] 66 (0, 0)) := by rw [zaq hb4]; rfl
    have hg5 := GrownBy.setCell w4 w2.heap.size 1 (.slice A2 B.length c2)
    have hsz := HX3.out.size
    have hlt4 := Nat.lt_of_lt_of_le (zaf HB3.out) hx4.size
    have HB5 := q_ hb5
    have HX5 := q_ (zak (HX3.out.trans hx4) hg5 (fun b e => by have := Hs2.out; have := Hs1.out; injection e with e; omega))
    have HA5 := q_ ((hg5.block _ (Nat.lt_of_lt_of_le (zaf HA3.out) hx4.size) (by have := Hs2.out; have := Hg1.out; intro e; injection e with e; omega)).trans ((hx4.block _ (zaf HA3.out)).trans HA3.out))
    have HO2 := q_ (zbw (g := w2.heap.size) (j := 1) (u := .slice A2 B.length c2) ho2 (fun b hb e => by have := (World.ownsRow.lt ho2 b hb).1; have := zaf HB3.out; omega))
    have HO3b := q_ (zbw (g := w2.heap.size) (j := 1) (u := .slice A2 B.length c2) (zah HO3.out hx4) (fun b hb e => by have := HO3l.out b hb; omega))
    clear ho2 hx4 hb4 hb5 hg5 HN2 hln2 hsz hlt4
    go_wp2_with (first | (with_reducible refine zae ?_; refine zaa rfl 66 _ rfl w2.heap.size 0 rfl za2 zam (cs := [.bool false, .slice A2 B.length c2, .slice A3 C.length c3]) rfl (zad HB5.out) ?_) | ((with_reducible refine za6 ?_); refine zau rfl 66 _ _ rfl (w.heap.size + 1) 0 rfl [.bool false, .slice A2 B.length c2, .slice A3 C.length c3] rfl zam rfl 66 #[.bool false, .slice none 0 0, .slice none 0 0] HA5.out (by simp) (by simp [Value.oneCell']) ?_))
    refine bodyPost_ret (v := .agg ([.bool false, .slice A2 B.length c2, .slice A3 C.length c3] : List Value).toArray) (zcc Tryz.results25 rfl za2 zam rfl (zbg HA5.out (by first | rfl | simp))) rfl ?_
    show zbz _ _ _ _ _
    unfold zbz whyP
    rw [HA.out, HB.out, HC.out]
    rw [if_neg Hne.out]
    exact ⟨_, _, by rw [show (!A.isEmpty && B.isEmpty) = false by simp [Hne.out]], za3 HX3.out.size HO2.out (zaf HA3.out), za3 Hs1.out HO3b.out Hg1.out, HX5.out.setRow (by omega) _⟩
  ·rcases (by omega : B.length = 0 ∨ B.length = 1) with hn2 | hn2
   ·as_aux_lemma =>
    have HneA : Hid (A ≠ []) := q_ fun h => by rw [h] at hn1; cases hn1
    have HB0 := q_ (List.eq_nil_of_length_eq_zero hn2)
    have Hn1 := q_ hn1
    have Hn2 := q_ hn2
    clear hn1 hn2
    have hln1 : ∀ ty, (Builtin.len_ #[102] ty #[.map (some (w.heap.size + 2))]).run Tryz.prog wr = .ok (.int .i64 1) wr := fun ty => by have h := TellS.len HT1.out ty; rw [Hn1.out] at h; exact h
    have hln2 : ∀ ty, (Builtin.len_ #[102] ty #[.map (some (w.heap.size + 3))]).run Tryz.prog wr = .ok (.int .i64 0) wr := fun ty => by have h := TellS.len HT2.out ty; rw [Hn2.out] at h; exact h
    go_wp2_with fail
    refine HN1.out.mono ?_
    rintro e1 w1 ⟨v1, rfl, ho1, hx1⟩
    obtain ⟨A1, c1, rfl⟩ := zap ho1
    have HO1 := q_ ho1
    have HX1 := q_ (HX.out.trans hx1)
    have Hx1 := q_ hx1
    have HA1 := q_ ((hx1.block _ (zaf HAr.out)).trans HAr.out)
    have HN3 := q_ (zbf _ C w1 (TellS.ext HT3.out hx1) HFC.out h1C)
    clear hln1 hln2 hx1 ho1 HN1
    go_wp2_with fail
    refine HN3.out.mono ?_
    rintro e2 w2 ⟨v3, rfl, ho3, hx2⟩
    obtain ⟨A3, c3, rfl⟩ := zap ho3
    have hx3 : Ext w1 (w2.alloc (.cells #[.bool true, .slice A1 A.length c1, .slice A3 C.length c3] 66)) := hx2.alloc _
    have hb3 : (w2.alloc (.cells #[.bool true, .slice A1 A.length c1, .slice A3 C.length c3] 66)).heap[w2.heap.size]? = some (.cells #[.bool true, .slice A1 A.length c1, .slice A3 C.length c3] 66 (0, 0)) := heap_alloc_new w2 _
    have Hs2 := q_ (show w1.heap.size ≤ w2.heap.size from hx2.size)
    have Hg1 := q_ (show w.heap.size + 1 < w1.heap.size from zaf HA1.out)
    have HO3l := q_ (fun b hb => (World.ownsRow.lt ho3 b hb).2)
    have HO3 := q_ (zah ho3 ((Ext.refl w2).alloc (.cells #[.bool true, .slice A1 A.length c1, .slice A3 C.length c3] 66)))
    have HO1b := q_ (zah HO1.out hx3)
    have HX3 := q_ (HX1.out.trans hx3)
    have HA3 := q_ ((hx3.block _ (zaf HA1.out)).trans HA1.out)
    have HT2b := q_ (TellS.ext HT2.out (Hx1.out.trans hx3))
    have HB3 := q_ hb3
    have hln2 : ∀ ty, (Builtin.len_ #[102] ty #[.map (some (w.heap.size + 3))]).run Tryz.prog (w2.alloc (.cells #[.bool true, .slice A1 A.length c1, .slice A3 C.length c3] 66)) = .ok (.int .i64 0) (w2.alloc (.cells #[.bool true, .slice A1 A.length c1, .slice A3 C.length c3] 66)) := fun ty => by have h := TellS.len HT2b.out ty; rw [Hn2.out] at h; exact h
    have Hs1 := q_ (show w.heap.size ≤ w1.heap.size from HX1.out.size)
    clear hx2 hx3 hb3 ho3 HN3 HO1 HA1 HX1 Hx1
    go_wp2_with (first | (with_reducible refine zae ?_; refine zaa rfl 66 _ rfl w2.heap.size 0 rfl za2 zam (cs := [.bool true, .slice A1 A.length c1, .slice A3 C.length c3]) rfl (zad HB3.out) ?_) | ((with_reducible refine za6 ?_); refine zau rfl 66 _ _ rfl (w.heap.size + 1) 0 rfl [.bool true, .slice A1 A.length c1, .slice A3 C.length c3] rfl zam rfl 66 #[.bool false, .slice none 0 0, .slice none 0 0] HA3.out (by simp) (by simp [Value.oneCell']) ?_))
    refine bodyPost_ret (v := .agg ([.bool true, .slice A1 A.length c1, .slice A3 C.length c3] : List Value).toArray) (zcc Tryz.results25 rfl za2 zam rfl (zbg HA3.out (by first | rfl | simp))) rfl ?_
    show zbz _ _ _ _ _
    unfold zbz whyP
    rw [HA.out, HB.out, HC.out]
    rw [if_pos HB0.out]
    exact ⟨_, _, by rw [show (!A.isEmpty && B.isEmpty) = true by simp [HneA.out, HB0.out]], za3 HX.out.size HO1b.out (zaf HAr.out), za3 Hs1.out HO3.out Hg1.out, HX3.out.setRow (by omega) _⟩
   ·as_aux_lemma =>
    have Hne : Hid (B ≠ []) := q_ fun h => by rw [h] at hn2; cases hn2
    have Hn1 := q_ hn1
    have Hn2 := q_ hn2
    clear hn1 hn2
    have hln1 : ∀ ty, (Builtin.len_ #[102] ty #[.map (some (w.heap.size + 2))]).run Tryz.prog wr = .ok (.int .i64 1) wr := fun ty => by have h := TellS.len HT1.out ty; rw [Hn1.out] at h; exact h
    have hln2 : ∀ ty, (Builtin.len_ #[102] ty #[.map (some (w.heap.size + 3))]).run Tryz.prog wr = .ok (.int .i64 1) wr := fun ty => by have h := TellS.len HT2.out ty; rw [Hn2.out] at h; exact h
    go_wp2_with fail
    refine HN1.out.mono ?_
    rintro e1 w1 ⟨v1, rfl, ho1, hx1⟩
    obtain ⟨A1, c1, rfl⟩ := zap ho1
    have HO1 := q_ ho1
    have HX1 := q_ (HX.out.trans hx1)
    have Hx1 := q_ hx1
    have HA1 := q_ ((hx1.block _ (zaf HAr.out)).trans HAr.out)
    have HN3 := q_ (zbf _ C w1 (TellS.ext HT3.out hx1) HFC.out h1C)
    clear hln1 hln2 hx1 ho1 HN1
    go_wp2_with fail
    refine HN3.out.mono ?_
    rintro e2 w2 ⟨v3, rfl, ho3, hx2⟩
    obtain ⟨A3, c3, rfl⟩ := zap ho3
    have hx3 : Ext w1 (w2.alloc (.cells #[.bool false, .slice A1 A.length c1, .slice A3 C.length c3] 66)) := hx2.alloc _
    have hb3 : (w2.alloc (.cells #[.bool false, .slice A1 A.length c1, .slice A3 C.length c3] 66)).heap[w2.heap.size]? = some (.cells #[.bool false, .slice A1 A.length c1, .slice A3 C.length c3] 66 (0, 0)) := heap_alloc_new w2 _
    have Hs2 := q_ (show w1.heap.size ≤ w2.heap.size from hx2.size)
    have Hg1 := q_ (show w.heap.size + 1 < w1.heap.size from zaf HA1.out)
    have HO3l := q_ (fun b hb => (World.ownsRow.lt ho3 b hb).2)
    have HO3 := q_ (zah ho3 ((Ext.refl w2).alloc (.cells #[.bool false, .slice A1 A.length c1, .slice A3 C.length c3] 66)))
    have HO1b := q_ (zah HO1.out hx3)
    have HX3 := q_ (HX1.out.trans hx3)
    have HA3 := q_ ((hx3.block _ (zaf HA1.out)).trans HA1.out)
    have HT2b := q_ (TellS.ext HT2.out (Hx1.out.trans hx3))
    have HB3 := q_ hb3
    have hln2 : ∀ ty, (Builtin.len_ #[102] ty #[.map (some (w.heap.size + 3))]).run Tryz.prog (w2.alloc (.cells #[.bool false, .slice A1 A.length c1, .slice A3 C.length c3] 66)) = .ok (.int .i64 1) (w2.alloc (.cells #[.bool false, .slice A1 A.length c1, .slice A3 C.length c3] 66)) := fun ty => by have h := TellS.len HT2b.out ty; rw [Hn2.out] at h; exact h
    have Hs1 := q_ (show w.heap.size ≤ w1.heap.size from HX1.out.size)
    clear hx2 hx3 hb3 ho3 HN3 HO1 HA1 HX1 Hx1
    have HN2 := q_ (zbf _ B (w2.alloc (.cells #[.bool false, .slice A1 A.length c1, .slice A3 C.length c3] 66)) HT2b.out HFB.out h1B)
    go_wp2_with fail
    refine HN2.out.mono ?_
    rintro e4 w4 ⟨v2, rfl, ho2, hx4⟩
    obtain ⟨A2, c2, rfl⟩ := zap ho2
    have hb4 := (hx4.block _ (zaf HB3.out)).trans HB3.out
    have z1 : w4.frozen? ⟨w2.heap.size, 1, none⟩ = false := frozen_of_row _ _ _ _ _ hb4
    have k1 : w4.cell? ⟨w2.heap.size, 1, none⟩ = some (.slice A1 A.length c1) := cell_of_row _ _ 1 _ _ _ hb4
    have hb5 : (w4.setCell ⟨w2.heap.size, 1, none⟩ (.slice A2 B.length c2)).heap[w2.heap.size]? = some (.cells #[.bool false, .slice A2 B.length c2, .slice A3 C.length c3] 66 (0, 0)) := by rw [zaq hb4]; rfl
    have hg5 := GrownBy.setCell w4 w2.heap.size 1 (.slice A2 B.length c2)
    have hsz := HX3.out.size
    have hlt4 := Nat.lt_of_lt_of_le (zaf HB3.out) hx4.size
    have HB5 := q_ hb5
    have HX5 := q_ (zak (HX3.out.trans hx4) hg5 (fun b e => by have := Hs2.out; have := Hs1.out; injection e with e; omega))
    have HA5 := q_ ((hg5.block _ (Nat.lt_of_lt_of_le (zaf HA3.out) hx4.size) (by have := Hs2.out; have := Hg1.out; intro e; injection e with e; omega)).trans ((hx4.block _ (zaf HA3.out)).trans HA3.out))
    have HO2 := q_ (zbw (g := w2.heap.size) (j := 1) (u := .slice A2 B.length c2) ho2 (fun b hb e => by have := (World.ownsRow.lt ho2 b hb).1; have := zaf HB3.out; omega))
    have HO3b := q_ (zbw (g := w2.heap.size) (j := 1) (u := .slice A2 B.length c2) (zah HO3.out hx4) (fun b hb e => by have := HO3l.out b hb; omega))
    clear ho2 hx4 hb4 hb5 hg5 HN2 hln2 hsz hlt4
    go_wp2_with (first | (with_reducible refine zae ?_; refine zaa rfl 66 _ rfl w2.heap.size 0 rfl za2 zam (cs := [.bool false, .slice A2 B.length c2, .slice A3 C.length c3]) rfl (zad HB5.out) ?_) | ((with_reducible refine za6 ?_); refine zau rfl 66 _ _ rfl (w.heap.size + 1) 0 rfl [.bool false, .slice A2 B.length c2, .slice A3 C.length c3] rfl zam rfl 66 #[.bool false, .slice none 0 0, .slice none 0 0] HA5.out (by simp) (by simp [Value.oneCell']) ?_))
    refine bodyPost_ret (v := .agg ([.bool false, .slice A2 B.length c2, .slice A3 C.length c3] : List Value).toArray) (zcc Tryz.results25 rfl za2 zam rfl (zbg HA5.out (by first | rfl | simp))) rfl ?_
    show zbz _ _ _ _ _
    unfold zbz whyP
    rw [HA.out, HB.out, HC.out]
    rw [if_neg Hne.out]
    exact ⟨_, _, by rw [show (!A.isEmpty && B.isEmpty) = false by simp [Hne.out]], za3 HX3.out.size HO2.out (zaf HA3.out), za3 Hs1.out HO3b.out Hg1.out, HX5.out.setRow (by omega) _⟩
end Go.Proofs.YtebfoimbdljbmaaGreatDoor
