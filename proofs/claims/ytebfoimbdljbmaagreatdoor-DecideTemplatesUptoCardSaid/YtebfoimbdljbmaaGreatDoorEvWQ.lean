/-
  In, and what is asked of sets, as the program's evaluation has it. The conditions: what is handed in lies in memory as it should.
-/
import Derived.Test.YtebfoimbdljbmaaGreatDoorEvAQ
namespace Go.Proofs.YtebfoimbdljbmaaGreatDoor
open Go.RowKit
theorem ValsAt.wide {S S' : Nat → Prop} {w : World} {l : List Val} {v : Value} (h : ValsAt S w l v) (k : ∀ b, S b → S' b) : ValsAt S' w l v := by
 obtain ⟨A, cap, e, h1, h2⟩ := h
 exact ⟨A, cap, e, h1, fun hn => let ⟨b, o, e, hs, hr⟩ := h2 hn; ⟨b, o, e, k b hs, Val.RowAt.mono k l b o hr⟩⟩
end Go.Proofs.YtebfoimbdljbmaaGreatDoor
