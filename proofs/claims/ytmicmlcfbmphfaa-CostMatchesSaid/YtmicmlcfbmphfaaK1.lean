/- What small functions come to.
   Each lemma's own conditions. -/
import Derived.Test.YtmicmlcfbmphfaaFacts
import Derived.Test.YtmicmlcfbmphfaaAeGraph
import Derived.Test.YtmicmlcfbmphfaaAeRules
set_option linter.unusedSimpArgs false
set_option linter.unusedVariables false
set_option linter.unnecessarySimpa false
namespace Go.Proofs.Ytmicmlcfbmphfaa
open Go Go.Proofs Go.Proofs.Ytmicmlcfbmphfaa.Ae
abbrev G0 : Gl := fun _ => none
set_option maxRecDepth 10000

@[go_sem] theorem node {op imm : Int} {kids : List AV} {tk : Tk} {S : St} : callL Try.prog G0 HA 7 [.agg [I op, I imm, .vs kids tk]] S = some (I (costN op), S) := by
  by_cases h1 : op = 1
  · subst h1; exact W_eq_of (W_run (k := 9) (r := (I (costN 1), S)) (by kernel_rfl) rfl)
  by_cases h2 : op = 2
  · subst h2; exact W_eq_of (W_run (k := 9) (r := (I (costN 2), S)) (by kernel_rfl) rfl)
  by_cases h3 : op = 3
  · subst h3; exact W_eq_of (W_run (k := 9) (r := (I (costN 3), S)) (by kernel_rfl) rfl)
  by_cases h4 : op = 4
  · subst h4; exact W_eq_of (W_run (k := 9) (r := (I (costN 4), S)) (by kernel_rfl) rfl)
  by_cases h5 : op = 5
  · subst h5; exact W_eq_of (W_run (k := 9) (r := (I (costN 5), S)) (by kernel_rfl) rfl)
  by_cases h6 : op = 6
  · subst h6; exact W_eq_of (W_run (k := 9) (r := (I (costN 6), S)) (by kernel_rfl) rfl)
  by_cases h7 : op = 7
  · subst h7; exact W_eq_of (W_run (k := 9) (r := (I (costN 7), S)) (by kernel_rfl) rfl)
  by_cases h8 : op = 8
  · subst h8; exact W_eq_of (W_run (k := 9) (r := (I (costN 8), S)) (by kernel_rfl) rfl)
  by_cases h9 : op = 9
  · subst h9; exact W_eq_of (W_run (k := 9) (r := (I (costN 9), S)) (by kernel_rfl) rfl)
  by_cases h10 : op = 10
  · subst h10; exact W_eq_of (W_run (k := 9) (r := (I (costN 10), S)) (by kernel_rfl) rfl)
  by_cases h11 : op = 11
  · subst h11; exact W_eq_of (W_run (k := 9) (r := (I (costN 11), S)) (by kernel_rfl) rfl)
  by_cases h12 : op = 12
  · subst h12; exact W_eq_of (W_run (k := 9) (r := (I (costN 12), S)) (by kernel_rfl) rfl)
  by_cases h13 : op = 13
  · subst h13; exact W_eq_of (W_run (k := 9) (r := (I (costN 13), S)) (by kernel_rfl) rfl)
  by_cases h14 : op = 14
  · subst h14; exact W_eq_of (W_run (k := 9) (r := (I (costN 14), S)) (by kernel_rfl) rfl)
  by_cases h15 : op = 15
  · subst h15; exact W_eq_of (W_run (k := 9) (r := (I (costN 15), S)) (by kernel_rfl) rfl)
  by_cases h16 : op = 16
  · subst h16; exact W_eq_of (W_run (k := 9) (r := (I (costN 16), S)) (by kernel_rfl) rfl)
  by_cases h17 : op = 17
  · subst h17; exact W_eq_of (W_run (k := 9) (r := (I (costN 17), S)) (by kernel_rfl) rfl)
  by_cases h18 : op = 18
  · subst h18; exact W_eq_of (W_run (k := 9) (r := (I (costN 18), S)) (by kernel_rfl) rfl)
  by_cases h19 : op = 19
  · subst h19; exact W_eq_of (W_run (k := 9) (r := (I (costN 19), S)) (by kernel_rfl) rfl)
  by_cases h20 : op = 20
  · subst h20; exact W_eq_of (W_run (k := 9) (r := (I (costN 20), S)) (by kernel_rfl) rfl)
  by_cases h21 : op = 21
  · subst h21; exact W_eq_of (W_run (k := 9) (r := (I (costN 21), S)) (by kernel_rfl) rfl)
  by_cases h22 : op = 22
  · subst h22; exact W_eq_of (W_run (k := 9) (r := (I (costN 22), S)) (by kernel_rfl) rfl)
  by_cases h23 : op = 23
  · subst h23; exact W_eq_of (W_run (k := 9) (r := (I (costN 23), S)) (by kernel_rfl) rfl)
  by_cases h24 : op = 24
  · subst h24; exact W_eq_of (W_run (k := 9) (r := (I (costN 24), S)) (by kernel_rfl) rfl)
  by_cases h25 : op = 25
  · subst h25; exact W_eq_of (W_run (k := 9) (r := (I (costN 25), S)) (by kernel_rfl) rfl)
  by_cases h26 : op = 26
  · subst h26; exact W_eq_of (W_run (k := 9) (r := (I (costN 26), S)) (by kernel_rfl) rfl)
  by_cases h27 : op = 27
  · subst h27; exact W_eq_of (W_run (k := 9) (r := (I (costN 27), S)) (by kernel_rfl) rfl)
  by_cases h28 : op = 28
  · subst h28; exact W_eq_of (W_run (k := 9) (r := (I (costN 28), S)) (by kernel_rfl) rfl)
  by_cases h29 : op = 29
  · subst h29; exact W_eq_of (W_run (k := 9) (r := (I (costN 29), S)) (by kernel_rfl) rfl)
  by_cases h30 : op = 30
  · subst h30; exact W_eq_of (W_run (k := 9) (r := (I (costN 30), S)) (by kernel_rfl) rfl)
  by_cases h31 : op = 31
  · subst h31; exact W_eq_of (W_run (k := 9) (r := (I (costN 31), S)) (by kernel_rfl) rfl)
  apply W_eq_of
  refine W_call (ex := []) Try.func7 rfl (by decide +kernel) (by decide +kernel) (by simp [Try.f7]) ?_
  rw [hint_7]
  simp only [Try.f7]
  simp -dsimp only [go_sem, List.replicate_succ, List.replicate_zero, List.set_cons_zero, List.set_cons_succ, Nat.zero_add, Nat.reduceAdd, Nat.reduceEqDiff, ↓reduceIte, Nat.reduceLT, Nat.reduceLeDiff, Int.reduceLT, Int.reduceLE, Int.reduceEq, Int.reduceNeg, Int.reduceToNat, Int.reduceAdd, Int.reduceSub, List.toList_toArray, and_self, and_true, true_and, not_true_eq_false, not_false_eq_true, Bool.not_true, Bool.not_false, Bool.not_not, h1, h2, h3, h4, h5, h6, h7, h8, h9, h10, h11, h12, h13, h14, h15, h16, h17, h18, h19, h20, h21, h22, h23, h24, h25, h26, h27, h28, h29, h30, h31, decide_false, costN, or_self, if_false]
end Go.Proofs.Ytmicmlcfbmphfaa
