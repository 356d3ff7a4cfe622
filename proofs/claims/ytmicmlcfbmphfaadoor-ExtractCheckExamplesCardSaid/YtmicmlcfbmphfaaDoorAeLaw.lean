/- From a run of the interpreter to what a law's row asks: it returns true, and of old memory nothing has turned.
   The program follows the looks that the translation bears. -/
import Derived.Test.YtmicmlcfbmphfaaDoorAeCalls
set_option linter.unusedSimpArgs false
set_option linter.unusedVariables false
set_option linter.unnecessarySimpa false
namespace Go.Proofs.YtmicmlcfbmphfaaDoor.Ae
open Go Go.RowKit

def g0 : G := ⟨0, fun _ => .other, fun _ => 0, fun _ => 0, fun _ => 0, fun _ => 0⟩

theorem inv0 (W : World) : Inv W.heap.size [] g0 W :=
  ⟨rfl, Nat.le_refl _, fun _ _ => rfl, fun b sz es h => by simp at h, fun b es h => by simp at h, fun t h => by simp at h, fun t u h => by simp at h⟩

def isTrue : Option (AV × St) → Bool
  | some (.bool true, _) => true
  | _ => false

theorem isTrue_some {r : Option (AV × St)} (h : isTrue r = true) : ∃ S', r = some (.bool true, S') := by
  unfold isTrue at h
  split at h
  · exact ⟨_, rfl⟩
  · cases h

theorem law_calls {P : Program} {gl : Gl} {H : Nat → Hint} (hmix : P.follows .mixedOrders = true) {k f : Nat} {args : List AV} (h : isTrue (acall P gl H k f args []) = true) (W : World) (args' : Array Value)
    (hg : GOk W.heap.size g0 W gl) (hl : RelL W.heap.size g0 W args args') : Calls P f args' W fun e w' => e = .returned (.bool true) ∧ Below W.heap.size W w' := by
  obtain ⟨S', h⟩ := isTrue_some h
  refine ((acall_ok hmix H k f args [] _ S' h).2 W.heap.size g0 W args' (inv0 W) hg hl).mono ?_
  rintro e w' ⟨v', g', rfl, h1, _, _, h4⟩
  cases h4
  exact ⟨rfl, h1⟩

end Go.Proofs.YtmicmlcfbmphfaaDoor.Ae
