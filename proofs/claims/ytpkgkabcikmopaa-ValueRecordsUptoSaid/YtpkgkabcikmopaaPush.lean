/-
  A value in the making, one name or one item longer; what it is in the end. The conditions: none (lemmas).
-/
import Derived.Test.YtpkgkabcikmopaaOne
import Derived.Test.YtpkgkabcikmopaaBox
namespace Go.Proofs.Ytpkgkabcikmopaa
open Go.RowKit

theorem TwoInv.grownBy {w3 w4 : World} {R : Value} (h : TwoInv w3 R R w4) : GrownBy w3 w4 R.ownBlock :=
  ⟨⟨h.os, h.tape, h.output, h.size, fun b hb hne => h.block b hb (fun e => hne e.symm) (fun e => hne e.symm)⟩, h.drawn⟩
theorem TwoInv.later {W0 wr w3 w4 : World} {O : Nat} {R : Value} (h : GrownBy W0 wr (some O)) (hx3 : Ext wr w3) (hinv : TwoInv w3 R R w4) (hR : ∀ b, R.ownBlock = some b → W0.heap.size ≤ b) : GrownBy W0 w4 (some O) := by
  have s1 := h.size
  have s2 := hx3.size
  refine ⟨⟨hinv.os.trans (hx3.os.trans h.os), hinv.tape.trans (hx3.tape.trans h.tape), hinv.output.trans (hx3.output.trans h.output), Nat.le_trans s1 (Nat.le_trans s2 hinv.size), fun b hb hbo => ?_⟩, Nat.le_trans h.drawn (Nat.le_trans hx3.drawn hinv.drawn)⟩
  rw [hinv.block b (by omega) (fun e => by have := hR b e; omega) (fun e => by have := hR b e; omega), hx3.block b (by omega), h.block b hb hbo]

section
variable {S : Nat → Prop} {W0 wr w3 w4 w5 : World} {O : Nat} {kd : Int} {L : List Val} {M : List ByteArray} {I N R' : Value} {xs : List Value}

/-- one name more -/
theorem Ins.push_name {nm : ByteArray} (h : GrownBy W0 wr (some O)) (hx3 : Ext wr w3) (hOs : O < W0.heap.size) (hI : wr.ownsRow W0.heap.size 27 8 I L.length xs) (hN : wr.ownsRow W0.heap.size 9 1 N M.length (M.map Value.string)) (hf : Flat S wr L xs) (hS : ∀ b, S b → b < W0.heap.size ∧ b ≠ O)
    (hinv : TwoInv w3 N N w4) (hl : Longer w3 W0.heap.size M.length 9 1 N (M.map Value.string) [.string nm] R' w4)
    (hO5 : w5.heap[O]? = some (.cells #[.int .i64 kd, .bool false, .int .i64 0, .string ByteArray.empty, .string ByteArray.empty, .string ByteArray.empty, I, R'] 27 (0, 0))) (g5 : GrownBy w4 w5 (some O)) :
    Ins S W0 O kd L (M ++ [nm]) w5 := by
  have hNb : ∀ b, N.ownBlock = some b → W0.heap.size ≤ b := fun b hb => (hN.lt b hb).1
  have g4 := TwoInv.later h hx3 hinv hNb
  have s1 := h.size
  have s2 := hx3.size
  have s3 := hinv.size
  have hal : Alike S wr w5 := fun b hb => by
    obtain ⟨hb1, hb2⟩ := hS b hb
    rw [g5.block b (by omega) (fun e => by injection e with e; omega), hinv.block b (by omega) (fun e => by have := hNb b e; omega) (fun e => by have := hNb b e; omega), hx3.block b (by omega)]
  refine ⟨g4.trans g5, I, R', xs, hO5, ?_, ?_, hf.alike hal⟩
  · refine ownsRow_apart (ownsRow_apart (ownsRow_ext hI hx3) hinv.grownBy fun b hb e => ?_) g5 fun b hb e => by injection e with e; have := (hI.lt b hb).1; omega
    exact row_types hN hI (by decide) e hb
  · have := ownsRow_apart hl.1 g5 fun b hb e => by injection e with e; have := (hl.1.lt b hb).1; omega
    simpa using this

/-- one item more -/
theorem Ins.push_item {x : Val} {cs : List Value} (h : GrownBy W0 wr (some O)) (hx3 : Ext wr w3) (hOs : O < W0.heap.size) (hI : wr.ownsRow W0.heap.size 27 8 I L.length xs) (hN : wr.ownsRow W0.heap.size 9 1 N M.length (M.map Value.string)) (hf : Flat S wr L xs) (hS : ∀ b, S b → b < W0.heap.size ∧ b ≠ O)
    (hinv : TwoInv w3 I I w4) (hl : Longer w3 W0.heap.size L.length 27 8 I xs cs R' w4) (hx : ∀ w, Val.At S w x cs)
    (hO5 : w5.heap[O]? = some (.cells #[.int .i64 kd, .bool false, .int .i64 0, .string ByteArray.empty, .string ByteArray.empty, .string ByteArray.empty, R', N] 27 (0, 0))) (g5 : GrownBy w4 w5 (some O)) :
    Ins S W0 O kd (L ++ [x]) M w5 := by
  have hIb : ∀ b, I.ownBlock = some b → W0.heap.size ≤ b := fun b hb => (hI.lt b hb).1
  have g4 := TwoInv.later h hx3 hinv hIb
  have s1 := h.size
  have s2 := hx3.size
  have s3 := hinv.size
  have hal : Alike S wr w5 := fun b hb => by
    obtain ⟨hb1, hb2⟩ := hS b hb
    rw [g5.block b (by omega) (fun e => by injection e with e; omega), hinv.block b (by omega) (fun e => by have := hIb b e; omega) (fun e => by have := hIb b e; omega), hx3.block b (by omega)]
  refine ⟨g4.trans g5, R', N, xs ++ cs, hO5, ?_, ?_, Flat.snoc (hx w5) (hf.alike hal)⟩
  · have := ownsRow_apart hl.1 g5 fun b hb e => by injection e with e; have := (hl.1.lt b hb).1; omega
    simpa using this
  · refine ownsRow_apart (ownsRow_apart (ownsRow_ext hN hx3) hinv.grownBy fun b hb e => ?_) g5 fun b hb e => by injection e with e; have := (hN.lt b hb).1; omega
    exact row_types hI hN (by decide) e hb

/-- in the end -/
theorem Ins.done (h : Ins S W0 O kd L M wr) (hk : I64 kd) (hL : L.length ≤ LIM) (hM : M.length ≤ LIM) (hs : ∀ s ∈ M, s.size ≤ maxLen) (hS : ∀ b, S b → b < W0.heap.size) :
    ∃ cs : List Value, wr.heap[O]? = some (.cells cs.toArray 27 (0, 0)) ∧ InW wr (.mk kd false 0 empty empty empty L M) cs := by
  obtain ⟨I, N, xs, hO, hI, hN, hf⟩ := h.rows
  have hv := own_vals (S' := fun b => b < wr.heap.size) hI hf hL (fun b hb => Nat.lt_of_lt_of_le (hS b hb) h.grown.size) fun b hb => (hI.lt b hb).2
  have hn := own_strs (S := fun b => b < wr.heap.size) hN hM hs fun b hb => (hN.lt b hb).2
  obtain ⟨A, cap, rfl, h3, h4⟩ := hv
  have h0 : empty.size ≤ maxLen := by rw [maxLen_eq]; decide
  refine ⟨_, hO, ?_⟩
  unfold InW Val.At
  exact ⟨A, cap, N, rfl, ⟨hk, ⟨by omega, by omega⟩, h0, h0, h0⟩, h3, h4, hn⟩
end
end Go.Proofs.Ytpkgkabcikmopaa
