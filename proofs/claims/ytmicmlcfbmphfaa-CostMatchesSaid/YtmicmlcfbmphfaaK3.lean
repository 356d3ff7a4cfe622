/- What small functions come to: kinds of operations, remainders.
   Each lemma's own conditions. -/
import Derived.Test.YtmicmlcfbmphfaaK1
import Derived.Test.YtmicmlcfbmphfaaAeNodes
set_option linter.unusedSimpArgs false
set_option linter.unusedVariables false
set_option linter.unnecessarySimpa false
namespace Go.Proofs.Ytmicmlcfbmphfaa
open Go Go.Proofs Go.Proofs.Ytmicmlcfbmphfaa.Ae
set_option maxRecDepth 10000

@[go_sem] theorem nodeCost {op imm : Int} {kids : List AV} {tk : Tk} {S : St} : callL Try.prog G0 HA 11 [.agg [I op, I imm, .vs kids tk]] S = some (I (costN op), S) := by
  by_cases h1 : op = 1
  · subst h1; exact W_eq_of (W_run (k := 9) (r := (I (costN 1), S)) (by kernel_rfl) rfl)
  by_cases h2 : op = 2
  · subst h2; exact W_eq_of (W_run (k := 9) (r := (I (costN 2), S)) (by kernel_rfl) rfl)
  by_cases h3 : op = 3
  · subst h3; exact W_eq_of (W_run (k := 9) (r := (I (costN 3), S)) (by kernel_rfl) rfl)
  by_cases h4 : op = 4
  · subst h4; exact W_eq_of (W_run (k := 9) (r := (I (costN 4), S)) (by kernel_rfl) rfl)
  by_cases h5 : op = 5
  · subst h5; exact W_eq_of (W_run (k := 9) (r := (I (costN 5), S)) (by kernel_rfl) rfl)
  by_cases h6 : op = 6
  · subst h6; exact W_eq_of (W_run (k := 9) (r := (I (costN 6), S)) (by kernel_rfl) rfl)
  by_cases h7 : op = 7
  · subst h7; exact W_eq_of (W_run (k := 9) (r := (I (costN 7), S)) (by kernel_rfl) rfl)
  by_cases h8 : op = 8
  · subst h8; exact W_eq_of (W_run (k := 9) (r := (I (costN 8), S)) (by kernel_rfl) rfl)
  by_cases h9 : op = 9
  · subst h9; exact W_eq_of (W_run (k := 9) (r := (I (costN 9), S)) (by kernel_rfl) rfl)
  by_cases h10 : op = 10
  · subst h10; exact W_eq_of (W_run (k := 9) (r := (I (costN 10), S)) (by kernel_rfl) rfl)
  by_cases h11 : op = 11
  · subst h11; exact W_eq_of (W_run (k := 9) (r := (I (costN 11), S)) (by kernel_rfl) rfl)
  by_cases h12 : op = 12
  · subst h12; exact W_eq_of (W_run (k := 9) (r := (I (costN 12), S)) (by kernel_rfl) rfl)
  by_cases h13 : op = 13
  · subst h13; exact W_eq_of (W_run (k := 9) (r := (I (costN 13), S)) (by kernel_rfl) rfl)
  by_cases h14 : op = 14
  · subst h14; exact W_eq_of (W_run (k := 9) (r := (I (costN 14), S)) (by kernel_rfl) rfl)
  by_cases h15 : op = 15
  · subst h15; exact W_eq_of (W_run (k := 9) (r := (I (costN 15), S)) (by kernel_rfl) rfl)
  by_cases h16 : op = 16
  · subst h16; exact W_eq_of (W_run (k := 9) (r := (I (costN 16), S)) (by kernel_rfl) rfl)
  by_cases h17 : op = 17
  · subst h17; exact W_eq_of (W_run (k := 9) (r := (I (costN 17), S)) (by kernel_rfl) rfl)
  by_cases h18 : op = 18
  · subst h18; exact W_eq_of (W_run (k := 9) (r := (I (costN 18), S)) (by kernel_rfl) rfl)
  by_cases h19 : op = 19
  · subst h19; exact W_eq_of (W_run (k := 9) (r := (I (costN 19), S)) (by kernel_rfl) rfl)
  by_cases h20 : op = 20
  · subst h20; exact W_eq_of (W_run (k := 9) (r := (I (costN 20), S)) (by kernel_rfl) rfl)
  by_cases h21 : op = 21
  · subst h21; exact W_eq_of (W_run (k := 9) (r := (I (costN 21), S)) (by kernel_rfl) rfl)
  by_cases h22 : op = 22
  · subst h22; exact W_eq_of (W_run (k := 9) (r := (I (costN 22), S)) (by kernel_rfl) rfl)
  by_cases h23 : op = 23
  · subst h23; exact W_eq_of (W_run (k := 9) (r := (I (costN 23), S)) (by kernel_rfl) rfl)
  by_cases h24 : op = 24
  · subst h24; exact W_eq_of (W_run (k := 9) (r := (I (costN 24), S)) (by kernel_rfl) rfl)
  by_cases h25 : op = 25
  · subst h25; exact W_eq_of (W_run (k := 9) (r := (I (costN 25), S)) (by kernel_rfl) rfl)
  by_cases h26 : op = 26
  · subst h26; exact W_eq_of (W_run (k := 9) (r := (I (costN 26), S)) (by kernel_rfl) rfl)
  by_cases h27 : op = 27
  · subst h27; exact W_eq_of (W_run (k := 9) (r := (I (costN 27), S)) (by kernel_rfl) rfl)
  by_cases h28 : op = 28
  · subst h28; exact W_eq_of (W_run (k := 9) (r := (I (costN 28), S)) (by kernel_rfl) rfl)
  by_cases h29 : op = 29
  · subst h29; exact W_eq_of (W_run (k := 9) (r := (I (costN 29), S)) (by kernel_rfl) rfl)
  by_cases h30 : op = 30
  · subst h30; exact W_eq_of (W_run (k := 9) (r := (I (costN 30), S)) (by kernel_rfl) rfl)
  by_cases h31 : op = 31
  · subst h31; exact W_eq_of (W_run (k := 9) (r := (I (costN 31), S)) (by kernel_rfl) rfl)
  apply W_eq_of
  refine W_call (ex := []) Try.func11 rfl (by decide +kernel) (by decide +kernel) (by simp [Try.f11]) ?_
  rw [hint_11]
  simp only [Try.f11]
  have hop : op < 1 ∨ 31 < op := by omega
  simp -dsimp only [go_sem, List.replicate_succ, List.replicate_zero, List.set_cons_zero, List.set_cons_succ, Nat.zero_add, Nat.reduceAdd, Nat.reduceEqDiff, ↓reduceIte, Nat.reduceLT, Nat.reduceLeDiff, Int.reduceLT, Int.reduceLE, Int.reduceEq, Int.reduceNeg, Int.reduceToNat, Int.reduceAdd, Int.reduceSub, List.toList_toArray, and_self, and_true, true_and, not_true_eq_false, not_false_eq_true, Bool.not_true, Bool.not_false, Bool.not_not, h1, h2, h3, h4, h5, h6, h7, h8, h9, h10, h11, h12, h13, h14, h15, h16, h17, h18, h19, h20, h21, h22, h23, h24, h25, h26, h27, h28, h29, h30, h31, decide_false, costN, or_self, if_false]
  rw [costN_out hop]
  clear h1 h2 h3 h4 h5 h6 h7 h8 h9 h10 h11 h12 h13 h14 h15 h16 h17 h18 h19 h20 h21 h22 h23 h24 h25 h26 h27 h28 h29 h30 h31
  repeat' ((first | with_reducible refine branch_dec (fun h => ?_) (fun h => ?_) | with_reducible refine branch_ndec (fun h => ?_) (fun h => ?_) | with_reducible refine ifB_dec (fun h => ?_) (fun h => ?_) | with_reducible refine ifB_ndec (fun h => ?_) (fun h => ?_) | (with_reducible refine branch_b (fun h => ?_) (fun h => ?_) <;> try simp -dsimp only [h]) | (with_reducible refine branch_nb (fun h => ?_) (fun h => ?_) <;> try simp -dsimp only [h]) | (with_reducible refine ifB_b (fun h => ?_) (fun h => ?_) <;> try simp -dsimp only [h]) | (with_reducible refine ifB_nb (fun h => ?_) (fun h => ?_) <;> try simp -dsimp only [h])); all_goals (try simp -dsimp (disch := first | omega | (simp only [List.length_drop, List.length_take, List.length_map, List.length_append, List.length_cons, List.length_nil, List.length_replicate, List.length_set, List.length_range]; omega)) only [go_sem, List.replicate_succ, List.replicate_zero, List.set_cons_zero, List.set_cons_succ, Nat.zero_add, Nat.reduceAdd, Nat.reduceEqDiff, ↓reduceIte, Nat.reduceLT, Nat.reduceLeDiff, Int.reduceLT, Int.reduceLE, Int.reduceEq, Int.reduceNeg, Int.reduceToNat, Int.reduceAdd, Int.reduceSub, List.toList_toArray, and_self, and_true, true_and, not_true_eq_false, not_false_eq_true, Bool.not_true, Bool.not_false, Bool.not_not, wrap_id, dec_t, dec_f, W_if_t, W_if_f, get_some]))

@[go_sem] theorem pick {n m : Int} {S : St} (hm : 0 < m) (hm2 : m < 9223372036854775808) : callL Try.prog G0 HA 10 [I n, I m] S = some (I (n % m), S) := by
  apply W_eq_of
  refine W_call (ex := []) Try.func10 rfl (by decide +kernel) (by decide +kernel) (by simp [Try.f10]) ?_
  rw [hint_10]
  simp only [Try.f10]
  simp -dsimp (disch := first | omega | (simp only [List.length_drop, List.length_take, List.length_map, List.length_append, List.length_cons, List.length_nil, List.length_replicate, List.length_set, List.length_range]; omega)) only [go_sem, List.replicate_succ, List.replicate_zero, List.set_cons_zero, List.set_cons_succ, Nat.zero_add, Nat.reduceAdd, Nat.reduceEqDiff, ↓reduceIte, Nat.reduceLT, Nat.reduceLeDiff, Int.reduceLT, Int.reduceLE, Int.reduceEq, Int.reduceNeg, Int.reduceToNat, Int.reduceAdd, Int.reduceSub, List.toList_toArray, and_self, and_true, true_and, not_true_eq_false, not_false_eq_true, Bool.not_true, Bool.not_false, Bool.not_not, wrap_id, dec_t, dec_f, W_if_t, W_if_f, get_some]
  have h1 : n.tmod m = if 0 ≤ n then n % m else if n % m = 0 then 0 else n % m - m := by
    rw [Int.tmod_eq_emod]
    by_cases h : 0 ≤ n
    · simp [h]
    · have := Int.emod_nonneg n (show m ≠ 0 by omega)
      simp only [h, false_or, if_false]
      by_cases hd : m ∣ n
      · have := Int.emod_eq_zero_of_dvd hd; simp [hd, this]
      · have h0 : n % m ≠ 0 := fun e => hd (Int.dvd_of_emod_eq_zero e)
        simp [hd, h0]; omega
  have hlt := Int.emod_lt_of_pos n hm
  have hge := Int.emod_nonneg n (show m ≠ 0 by omega)
  generalize n % m = r at *
  generalize n.tmod m = t at *
  first | with_reducible refine branch_dec (fun h => ?_) (fun h => ?_) | with_reducible refine branch_ndec (fun h => ?_) (fun h => ?_) | with_reducible refine ifB_dec (fun h => ?_) (fun h => ?_) | with_reducible refine ifB_ndec (fun h => ?_) (fun h => ?_) | (with_reducible refine branch_b (fun h => ?_) (fun h => ?_) <;> try simp -dsimp only [h]) | (with_reducible refine branch_nb (fun h => ?_) (fun h => ?_) <;> try simp -dsimp only [h]) | (with_reducible refine ifB_b (fun h => ?_) (fun h => ?_) <;> try simp -dsimp only [h]) | (with_reducible refine ifB_nb (fun h => ?_) (fun h => ?_) <;> try simp -dsimp only [h])
  · simp -dsimp (disch := first | omega | (simp only [List.length_drop, List.length_take, List.length_map, List.length_append, List.length_cons, List.length_nil, List.length_replicate, List.length_set, List.length_range]; omega)) only [go_sem, List.replicate_succ, List.replicate_zero, List.set_cons_zero, List.set_cons_succ, Nat.zero_add, Nat.reduceAdd, Nat.reduceEqDiff, ↓reduceIte, Nat.reduceLT, Nat.reduceLeDiff, Int.reduceLT, Int.reduceLE, Int.reduceEq, Int.reduceNeg, Int.reduceToNat, Int.reduceAdd, Int.reduceSub, List.toList_toArray, and_self, and_true, true_and, not_true_eq_false, not_false_eq_true, Bool.not_true, Bool.not_false, Bool.not_not, wrap_id, dec_t, dec_f, W_if_t, W_if_f, get_some]
    have : t + m = r := by (repeat' split at h1) <;> omega
    rw [this]
  · simp -dsimp (disch := first | omega | (simp only [List.length_drop, List.length_take, List.length_map, List.length_append, List.length_cons, List.length_nil, List.length_replicate, List.length_set, List.length_range]; omega)) only [go_sem, List.replicate_succ, List.replicate_zero, List.set_cons_zero, List.set_cons_succ, Nat.zero_add, Nat.reduceAdd, Nat.reduceEqDiff, ↓reduceIte, Nat.reduceLT, Nat.reduceLeDiff, Int.reduceLT, Int.reduceLE, Int.reduceEq, Int.reduceNeg, Int.reduceToNat, Int.reduceAdd, Int.reduceSub, List.toList_toArray, and_self, and_true, true_and, not_true_eq_false, not_false_eq_true, Bool.not_true, Bool.not_false, Bool.not_not, wrap_id, dec_t, dec_f, W_if_t, W_if_f, get_some]
    have : t = r := by (repeat' split at h1) <;> omega
    rw [this]

theorem wordTab {S : St} : buildSliceP Try.prog false S 47 10 [(0, .int .i64 0), (1, .int .i64 1), (2, .int .i64 (-1)), (3, .int .i64 2), (4, .int .i64 (-9223372036854775808)), (5, .int .i64 9223372036854775807), (6, .int .i64 4294967296), (7, .int .i64 (-2147483648)), (8, .int .i64 63), (9, .int .i64 64)] =
    some (vI words .exact, S) := by kernel_rfl
@[go_sem] theorem word {n raw : Int} {S : St} : callL Try.prog G0 HA 13 [I n, I raw] S = some (I (wordN n raw), S) := by
  apply W_eq_of
  refine W_call (ex := []) Try.func13 rfl (by decide +kernel) (by decide +kernel) (by simp [Try.f13]) ?_
  rw [hint_13]
  simp only [Try.f13]
  simp -dsimp (disch := first | omega | (simp only [List.length_drop, List.length_take, List.length_map, List.length_append, List.length_cons, List.length_nil, List.length_replicate, List.length_set, List.length_range]; omega)) only [wordTab, go_sem, List.replicate_succ, List.replicate_zero, List.set_cons_zero, List.set_cons_succ, Nat.zero_add, Nat.reduceAdd, Nat.reduceEqDiff, ↓reduceIte, Nat.reduceLT, Nat.reduceLeDiff, Int.reduceLT, Int.reduceLE, Int.reduceEq, Int.reduceNeg, Int.reduceToNat, Int.reduceAdd, Int.reduceSub, List.toList_toArray, and_self, and_true, true_and, not_true_eq_false, not_false_eq_true, Bool.not_true, Bool.not_false, Bool.not_not, wrap_id, dec_t, dec_f, W_if_t, W_if_f, get_some]
  first | with_reducible refine branch_dec (fun h => ?_) (fun h => ?_) | with_reducible refine branch_ndec (fun h => ?_) (fun h => ?_) | with_reducible refine ifB_dec (fun h => ?_) (fun h => ?_) | with_reducible refine ifB_ndec (fun h => ?_) (fun h => ?_) | (with_reducible refine branch_b (fun h => ?_) (fun h => ?_) <;> try simp -dsimp only [h]) | (with_reducible refine branch_nb (fun h => ?_) (fun h => ?_) <;> try simp -dsimp only [h]) | (with_reducible refine ifB_b (fun h => ?_) (fun h => ?_) <;> try simp -dsimp only [h]) | (with_reducible refine ifB_nb (fun h => ?_) (fun h => ?_) <;> try simp -dsimp only [h])
  · have hw : words.length = 10 := rfl
    simp -dsimp (disch := first | omega | (simp only [List.length_drop, List.length_take, List.length_map, List.length_append, List.length_cons, List.length_nil, List.length_replicate, List.length_set, List.length_range]; omega)) only [go_sem, List.replicate_succ, List.replicate_zero, List.set_cons_zero, List.set_cons_succ, Nat.zero_add, Nat.reduceAdd, Nat.reduceEqDiff, ↓reduceIte, Nat.reduceLT, Nat.reduceLeDiff, Int.reduceLT, Int.reduceLE, Int.reduceEq, Int.reduceNeg, Int.reduceToNat, Int.reduceAdd, Int.reduceSub, List.toList_toArray, and_self, and_true, true_and, not_true_eq_false, not_false_eq_true, Bool.not_true, Bool.not_false, Bool.not_not, wrap_id, dec_t, dec_f, W_if_t, W_if_f, get_some]
    rw [wordN, if_pos h]; rfl
  · simp -dsimp (disch := first | omega | (simp only [List.length_drop, List.length_take, List.length_map, List.length_append, List.length_cons, List.length_nil, List.length_replicate, List.length_set, List.length_range]; omega)) only [go_sem, List.replicate_succ, List.replicate_zero, List.set_cons_zero, List.set_cons_succ, Nat.zero_add, Nat.reduceAdd, Nat.reduceEqDiff, ↓reduceIte, Nat.reduceLT, Nat.reduceLeDiff, Int.reduceLT, Int.reduceLE, Int.reduceEq, Int.reduceNeg, Int.reduceToNat, Int.reduceAdd, Int.reduceSub, List.toList_toArray, and_self, and_true, true_and, not_true_eq_false, not_false_eq_true, Bool.not_true, Bool.not_false, Bool.not_not, wrap_id, dec_t, dec_f, W_if_t, W_if_f, get_some]
    first | with_reducible refine branch_dec (fun h2 => ?_) (fun h2 => ?_) | with_reducible refine branch_ndec (fun h2 => ?_) (fun h2 => ?_) | with_reducible refine ifB_dec (fun h2 => ?_) (fun h2 => ?_) | with_reducible refine ifB_ndec (fun h2 => ?_) (fun h2 => ?_) | (with_reducible refine branch_b (fun h2 => ?_) (fun h2 => ?_) <;> try simp -dsimp only [h2]) | (with_reducible refine branch_nb (fun h2 => ?_) (fun h2 => ?_) <;> try simp -dsimp only [h2]) | (with_reducible refine ifB_b (fun h2 => ?_) (fun h2 => ?_) <;> try simp -dsimp only [h2]) | (with_reducible refine ifB_nb (fun h2 => ?_) (fun h2 => ?_) <;> try simp -dsimp only [h2])
    · simp -dsimp (disch := first | omega | (simp only [List.length_drop, List.length_take, List.length_map, List.length_append, List.length_cons, List.length_nil, List.length_replicate, List.length_set, List.length_range]; omega)) only [go_sem, List.replicate_succ, List.replicate_zero, List.set_cons_zero, List.set_cons_succ, Nat.zero_add, Nat.reduceAdd, Nat.reduceEqDiff, ↓reduceIte, Nat.reduceLT, Nat.reduceLeDiff, Int.reduceLT, Int.reduceLE, Int.reduceEq, Int.reduceNeg, Int.reduceToNat, Int.reduceAdd, Int.reduceSub, List.toList_toArray, and_self, and_true, true_and, not_true_eq_false, not_false_eq_true, Bool.not_true, Bool.not_false, Bool.not_not, wrap_id, dec_t, dec_f, W_if_t, W_if_f, get_some]
      rw [wordN, if_neg h, if_pos h2]
    · simp -dsimp (disch := first | omega | (simp only [List.length_drop, List.length_take, List.length_map, List.length_append, List.length_cons, List.length_nil, List.length_replicate, List.length_set, List.length_range]; omega)) only [go_sem, List.replicate_succ, List.replicate_zero, List.set_cons_zero, List.set_cons_succ, Nat.zero_add, Nat.reduceAdd, Nat.reduceEqDiff, ↓reduceIte, Nat.reduceLT, Nat.reduceLeDiff, Int.reduceLT, Int.reduceLE, Int.reduceEq, Int.reduceNeg, Int.reduceToNat, Int.reduceAdd, Int.reduceSub, List.toList_toArray, and_self, and_true, true_and, not_true_eq_false, not_false_eq_true, Bool.not_true, Bool.not_false, Bool.not_not, wrap_id, dec_t, dec_f, W_if_t, W_if_f, get_some]
      rw [wordN, if_neg h, if_neg h2]

@[go_sem] theorem sort15 {op : Int} {S : St} : callL Try.prog G0 HA 22 [I op] S = some (I (sort15N op), S) := by
  by_cases h27 : op = 27
  · subst h27; exact W_eq_of (W_run (k := 9) (r := (I (sort15N 27), S)) (by kernel_rfl) rfl)
  by_cases h28 : op = 28
  · subst h28; exact W_eq_of (W_run (k := 9) (r := (I (sort15N 28), S)) (by kernel_rfl) rfl)
  by_cases h29 : op = 29
  · subst h29; exact W_eq_of (W_run (k := 9) (r := (I (sort15N 29), S)) (by kernel_rfl) rfl)
  apply W_eq_of
  refine W_call (ex := []) Try.func22 rfl (by decide +kernel) (by decide +kernel) (by simp [Try.f22]) ?_
  rw [hint_22]
  simp only [Try.f22]
  simp -dsimp only [go_sem, List.replicate_succ, List.replicate_zero, List.set_cons_zero, List.set_cons_succ, Nat.zero_add, Nat.reduceAdd, Nat.reduceEqDiff, ↓reduceIte, Nat.reduceLT, Nat.reduceLeDiff, Int.reduceLT, Int.reduceLE, Int.reduceEq, Int.reduceNeg, Int.reduceToNat, Int.reduceAdd, Int.reduceSub, List.toList_toArray, and_self, and_true, true_and, not_true_eq_false, not_false_eq_true, Bool.not_true, Bool.not_false, Bool.not_not, h27, h28, h29, decide_false, sort15N, or_self, if_false]

@[go_sem] theorem operandSort {op k : Int} {S : St} : callL Try.prog G0 HA 16 [I op, I k] S = some (I (opndSort op k), S) := by
  apply W_eq_of
  refine W_call (ex := []) Try.func16 rfl (by decide +kernel) (by decide +kernel) (by simp [Try.f16]) ?_
  rw [hint_16]
  simp only [Try.f16]
  simp -dsimp (disch := first | omega | (simp only [List.length_drop, List.length_take, List.length_map, List.length_append, List.length_cons, List.length_nil, List.length_replicate, List.length_set, List.length_range]; omega)) only [go_sem, List.replicate_succ, List.replicate_zero, List.set_cons_zero, List.set_cons_succ, Nat.zero_add, Nat.reduceAdd, Nat.reduceEqDiff, ↓reduceIte, Nat.reduceLT, Nat.reduceLeDiff, Int.reduceLT, Int.reduceLE, Int.reduceEq, Int.reduceNeg, Int.reduceToNat, Int.reduceAdd, Int.reduceSub, List.toList_toArray, and_self, and_true, true_and, not_true_eq_false, not_false_eq_true, Bool.not_true, Bool.not_false, Bool.not_not, wrap_id, dec_t, dec_f, W_if_t, W_if_f, get_some]
  repeat' ((first | with_reducible refine branch_dec (fun h => ?_) (fun h => ?_) | with_reducible refine branch_ndec (fun h => ?_) (fun h => ?_) | with_reducible refine ifB_dec (fun h => ?_) (fun h => ?_) | with_reducible refine ifB_ndec (fun h => ?_) (fun h => ?_) | (with_reducible refine branch_b (fun h => ?_) (fun h => ?_) <;> try simp -dsimp only [h]) | (with_reducible refine branch_nb (fun h => ?_) (fun h => ?_) <;> try simp -dsimp only [h]) | (with_reducible refine ifB_b (fun h => ?_) (fun h => ?_) <;> try simp -dsimp only [h]) | (with_reducible refine ifB_nb (fun h => ?_) (fun h => ?_) <;> try simp -dsimp only [h])); all_goals (try simp -dsimp (disch := first | omega | (simp only [List.length_drop, List.length_take, List.length_map, List.length_append, List.length_cons, List.length_nil, List.length_replicate, List.length_set, List.length_range]; omega)) only [go_sem, List.replicate_succ, List.replicate_zero, List.set_cons_zero, List.set_cons_succ, Nat.zero_add, Nat.reduceAdd, Nat.reduceEqDiff, ↓reduceIte, Nat.reduceLT, Nat.reduceLeDiff, Int.reduceLT, Int.reduceLE, Int.reduceEq, Int.reduceNeg, Int.reduceToNat, Int.reduceAdd, Int.reduceSub, List.toList_toArray, and_self, and_true, true_and, not_true_eq_false, not_false_eq_true, Bool.not_true, Bool.not_false, Bool.not_not, wrap_id, dec_t, dec_f, W_if_t, W_if_f, get_some]))
  all_goals simp [opndSort, *]

@[go_sem] theorem isNode {l : List AV} {tk : Tk} {i : Int} {S : St} : callL Try.prog G0 HA 19 [.vs l tk, I i] S = some (.bool (decide (0 ≤ i ∧ i < l.length)), S) := by
  apply W_eq_of
  refine W_call (ex := []) Try.func19 rfl (by decide +kernel) (by decide +kernel) (by simp [Try.f19]) ?_
  rw [hint_19]
  simp only [Try.f19]
  simp -dsimp (disch := first | omega | (simp only [List.length_drop, List.length_take, List.length_map, List.length_append, List.length_cons, List.length_nil, List.length_replicate, List.length_set, List.length_range]; omega)) only [go_sem, List.replicate_succ, List.replicate_zero, List.set_cons_zero, List.set_cons_succ, Nat.zero_add, Nat.reduceAdd, Nat.reduceEqDiff, ↓reduceIte, Nat.reduceLT, Nat.reduceLeDiff, Int.reduceLT, Int.reduceLE, Int.reduceEq, Int.reduceNeg, Int.reduceToNat, Int.reduceAdd, Int.reduceSub, List.toList_toArray, and_self, and_true, true_and, not_true_eq_false, not_false_eq_true, Bool.not_true, Bool.not_false, Bool.not_not, wrap_id, dec_t, dec_f, W_if_t, W_if_f, get_some]
  repeat' ((first | with_reducible refine branch_dec (fun h => ?_) (fun h => ?_) | with_reducible refine branch_ndec (fun h => ?_) (fun h => ?_) | with_reducible refine ifB_dec (fun h => ?_) (fun h => ?_) | with_reducible refine ifB_ndec (fun h => ?_) (fun h => ?_) | (with_reducible refine branch_b (fun h => ?_) (fun h => ?_) <;> try simp -dsimp only [h]) | (with_reducible refine branch_nb (fun h => ?_) (fun h => ?_) <;> try simp -dsimp only [h]) | (with_reducible refine ifB_b (fun h => ?_) (fun h => ?_) <;> try simp -dsimp only [h]) | (with_reducible refine ifB_nb (fun h => ?_) (fun h => ?_) <;> try simp -dsimp only [h])); all_goals (try simp -dsimp (disch := first | omega | (simp only [List.length_drop, List.length_take, List.length_map, List.length_append, List.length_cons, List.length_nil, List.length_replicate, List.length_set, List.length_range]; omega)) only [go_sem, List.replicate_succ, List.replicate_zero, List.set_cons_zero, List.set_cons_succ, Nat.zero_add, Nat.reduceAdd, Nat.reduceEqDiff, ↓reduceIte, Nat.reduceLT, Nat.reduceLeDiff, Int.reduceLT, Int.reduceLE, Int.reduceEq, Int.reduceNeg, Int.reduceToNat, Int.reduceAdd, Int.reduceSub, List.toList_toArray, and_self, and_true, true_and, not_true_eq_false, not_false_eq_true, Bool.not_true, Bool.not_false, Bool.not_not, wrap_id, dec_t, dec_f, W_if_t, W_if_f, get_some]))
  all_goals simp [*]

@[go_sem] theorem arity {op : Int} {S : St} : callL Try.prog G0 HA 14 [I op] S = some (.tuple [I (arityN op).1, .bool (arityN op).2], S) := by
  by_cases h1 : op = 1
  · subst h1; exact W_eq_of (W_run (k := 9) (r := (.tuple [I (arityN 1).1, .bool (arityN 1).2], S)) (by kernel_rfl) rfl)
  by_cases h2 : op = 2
  · subst h2; exact W_eq_of (W_run (k := 9) (r := (.tuple [I (arityN 2).1, .bool (arityN 2).2], S)) (by kernel_rfl) rfl)
  by_cases h3 : op = 3
  · subst h3; exact W_eq_of (W_run (k := 9) (r := (.tuple [I (arityN 3).1, .bool (arityN 3).2], S)) (by kernel_rfl) rfl)
  by_cases h4 : op = 4
  · subst h4; exact W_eq_of (W_run (k := 9) (r := (.tuple [I (arityN 4).1, .bool (arityN 4).2], S)) (by kernel_rfl) rfl)
  by_cases h5 : op = 5
  · subst h5; exact W_eq_of (W_run (k := 9) (r := (.tuple [I (arityN 5).1, .bool (arityN 5).2], S)) (by kernel_rfl) rfl)
  by_cases h6 : op = 6
  · subst h6; exact W_eq_of (W_run (k := 9) (r := (.tuple [I (arityN 6).1, .bool (arityN 6).2], S)) (by kernel_rfl) rfl)
  by_cases h7 : op = 7
  · subst h7; exact W_eq_of (W_run (k := 9) (r := (.tuple [I (arityN 7).1, .bool (arityN 7).2], S)) (by kernel_rfl) rfl)
  by_cases h8 : op = 8
  · subst h8; exact W_eq_of (W_run (k := 9) (r := (.tuple [I (arityN 8).1, .bool (arityN 8).2], S)) (by kernel_rfl) rfl)
  by_cases h9 : op = 9
  · subst h9; exact W_eq_of (W_run (k := 9) (r := (.tuple [I (arityN 9).1, .bool (arityN 9).2], S)) (by kernel_rfl) rfl)
  by_cases h10 : op = 10
  · subst h10; exact W_eq_of (W_run (k := 9) (r := (.tuple [I (arityN 10).1, .bool (arityN 10).2], S)) (by kernel_rfl) rfl)
  by_cases h11 : op = 11
  · subst h11; exact W_eq_of (W_run (k := 9) (r := (.tuple [I (arityN 11).1, .bool (arityN 11).2], S)) (by kernel_rfl) rfl)
  by_cases h12 : op = 12
  · subst h12; exact W_eq_of (W_run (k := 9) (r := (.tuple [I (arityN 12).1, .bool (arityN 12).2], S)) (by kernel_rfl) rfl)
  by_cases h13 : op = 13
  · subst h13; exact W_eq_of (W_run (k := 9) (r := (.tuple [I (arityN 13).1, .bool (arityN 13).2], S)) (by kernel_rfl) rfl)
  by_cases h14 : op = 14
  · subst h14; exact W_eq_of (W_run (k := 9) (r := (.tuple [I (arityN 14).1, .bool (arityN 14).2], S)) (by kernel_rfl) rfl)
  by_cases h15 : op = 15
  · subst h15; exact W_eq_of (W_run (k := 9) (r := (.tuple [I (arityN 15).1, .bool (arityN 15).2], S)) (by kernel_rfl) rfl)
  by_cases h16 : op = 16
  · subst h16; exact W_eq_of (W_run (k := 9) (r := (.tuple [I (arityN 16).1, .bool (arityN 16).2], S)) (by kernel_rfl) rfl)
  by_cases h17 : op = 17
  · subst h17; exact W_eq_of (W_run (k := 9) (r := (.tuple [I (arityN 17).1, .bool (arityN 17).2], S)) (by kernel_rfl) rfl)
  by_cases h18 : op = 18
  · subst h18; exact W_eq_of (W_run (k := 9) (r := (.tuple [I (arityN 18).1, .bool (arityN 18).2], S)) (by kernel_rfl) rfl)
  by_cases h19 : op = 19
  · subst h19; exact W_eq_of (W_run (k := 9) (r := (.tuple [I (arityN 19).1, .bool (arityN 19).2], S)) (by kernel_rfl) rfl)
  by_cases h20 : op = 20
  · subst h20; exact W_eq_of (W_run (k := 9) (r := (.tuple [I (arityN 20).1, .bool (arityN 20).2], S)) (by kernel_rfl) rfl)
  by_cases h21 : op = 21
  · subst h21; exact W_eq_of (W_run (k := 9) (r := (.tuple [I (arityN 21).1, .bool (arityN 21).2], S)) (by kernel_rfl) rfl)
  by_cases h22 : op = 22
  · subst h22; exact W_eq_of (W_run (k := 9) (r := (.tuple [I (arityN 22).1, .bool (arityN 22).2], S)) (by kernel_rfl) rfl)
  by_cases h23 : op = 23
  · subst h23; exact W_eq_of (W_run (k := 9) (r := (.tuple [I (arityN 23).1, .bool (arityN 23).2], S)) (by kernel_rfl) rfl)
  by_cases h24 : op = 24
  · subst h24; exact W_eq_of (W_run (k := 9) (r := (.tuple [I (arityN 24).1, .bool (arityN 24).2], S)) (by kernel_rfl) rfl)
  by_cases h25 : op = 25
  · subst h25; exact W_eq_of (W_run (k := 9) (r := (.tuple [I (arityN 25).1, .bool (arityN 25).2], S)) (by kernel_rfl) rfl)
  by_cases h26 : op = 26
  · subst h26; exact W_eq_of (W_run (k := 9) (r := (.tuple [I (arityN 26).1, .bool (arityN 26).2], S)) (by kernel_rfl) rfl)
  by_cases h27 : op = 27
  · subst h27; exact W_eq_of (W_run (k := 9) (r := (.tuple [I (arityN 27).1, .bool (arityN 27).2], S)) (by kernel_rfl) rfl)
  by_cases h28 : op = 28
  · subst h28; exact W_eq_of (W_run (k := 9) (r := (.tuple [I (arityN 28).1, .bool (arityN 28).2], S)) (by kernel_rfl) rfl)
  by_cases h29 : op = 29
  · subst h29; exact W_eq_of (W_run (k := 9) (r := (.tuple [I (arityN 29).1, .bool (arityN 29).2], S)) (by kernel_rfl) rfl)
  by_cases h30 : op = 30
  · subst h30; exact W_eq_of (W_run (k := 9) (r := (.tuple [I (arityN 30).1, .bool (arityN 30).2], S)) (by kernel_rfl) rfl)
  by_cases h31 : op = 31
  · subst h31; exact W_eq_of (W_run (k := 9) (r := (.tuple [I (arityN 31).1, .bool (arityN 31).2], S)) (by kernel_rfl) rfl)
  apply W_eq_of
  refine W_call (ex := []) Try.func14 rfl (by decide +kernel) (by decide +kernel) (by simp [Try.f14]) ?_
  rw [hint_14]
  simp only [Try.f14]
  have hop : op < 1 ∨ 31 < op := by omega
  simp -dsimp only [go_sem, List.replicate_succ, List.replicate_zero, List.set_cons_zero, List.set_cons_succ, Nat.zero_add, Nat.reduceAdd, Nat.reduceEqDiff, ↓reduceIte, Nat.reduceLT, Nat.reduceLeDiff, Int.reduceLT, Int.reduceLE, Int.reduceEq, Int.reduceNeg, Int.reduceToNat, Int.reduceAdd, Int.reduceSub, List.toList_toArray, and_self, and_true, true_and, not_true_eq_false, not_false_eq_true, Bool.not_true, Bool.not_false, Bool.not_not, h1, h2, h3, h4, h5, h6, h7, h8, h9, h10, h11, h12, h13, h14, h15, h16, h17, h18, h19, h20, h21, h22, h23, h24, h25, h26, h27, h28, h29, h30, h31, decide_false, or_self, if_false]
  rw [arityN_out hop]
  clear h1 h2 h3 h4 h5 h6 h7 h8 h9 h10 h11 h12 h13 h14 h15 h16 h17 h18 h19 h20 h21 h22 h23 h24 h25 h26 h27 h28 h29 h30 h31
  repeat' ((first | with_reducible refine branch_dec (fun h => ?_) (fun h => ?_) | with_reducible refine branch_ndec (fun h => ?_) (fun h => ?_) | with_reducible refine ifB_dec (fun h => ?_) (fun h => ?_) | with_reducible refine ifB_ndec (fun h => ?_) (fun h => ?_) | (with_reducible refine branch_b (fun h => ?_) (fun h => ?_) <;> try simp -dsimp only [h]) | (with_reducible refine branch_nb (fun h => ?_) (fun h => ?_) <;> try simp -dsimp only [h]) | (with_reducible refine ifB_b (fun h => ?_) (fun h => ?_) <;> try simp -dsimp only [h]) | (with_reducible refine ifB_nb (fun h => ?_) (fun h => ?_) <;> try simp -dsimp only [h])); all_goals (try simp -dsimp (disch := first | omega | (simp only [List.length_drop, List.length_take, List.length_map, List.length_append, List.length_cons, List.length_nil, List.length_replicate, List.length_set, List.length_range]; omega)) only [go_sem, List.replicate_succ, List.replicate_zero, List.set_cons_zero, List.set_cons_succ, Nat.zero_add, Nat.reduceAdd, Nat.reduceEqDiff, ↓reduceIte, Nat.reduceLT, Nat.reduceLeDiff, Int.reduceLT, Int.reduceLE, Int.reduceEq, Int.reduceNeg, Int.reduceToNat, Int.reduceAdd, Int.reduceSub, List.toList_toArray, and_self, and_true, true_and, not_true_eq_false, not_false_eq_true, Bool.not_true, Bool.not_false, Bool.not_not, wrap_id, dec_t, dec_f, W_if_t, W_if_f, get_some]))

@[go_sem] theorem maxImm {op : Int} {S : St} : callL Try.prog G0 HA 28 [I op] S = some (I (maxImmN op), S) := by
  by_cases h1 : op = 1
  · subst h1; exact W_eq_of (W_run (k := 9) (r := (I (maxImmN 1), S)) (by kernel_rfl) rfl)
  by_cases h2 : op = 2
  · subst h2; exact W_eq_of (W_run (k := 9) (r := (I (maxImmN 2), S)) (by kernel_rfl) rfl)
  by_cases h3 : op = 3
  · subst h3; exact W_eq_of (W_run (k := 9) (r := (I (maxImmN 3), S)) (by kernel_rfl) rfl)
  by_cases h4 : op = 4
  · subst h4; exact W_eq_of (W_run (k := 9) (r := (I (maxImmN 4), S)) (by kernel_rfl) rfl)
  by_cases h5 : op = 5
  · subst h5; exact W_eq_of (W_run (k := 9) (r := (I (maxImmN 5), S)) (by kernel_rfl) rfl)
  by_cases h6 : op = 6
  · subst h6; exact W_eq_of (W_run (k := 9) (r := (I (maxImmN 6), S)) (by kernel_rfl) rfl)
  by_cases h7 : op = 7
  · subst h7; exact W_eq_of (W_run (k := 9) (r := (I (maxImmN 7), S)) (by kernel_rfl) rfl)
  by_cases h8 : op = 8
  · subst h8; exact W_eq_of (W_run (k := 9) (r := (I (maxImmN 8), S)) (by kernel_rfl) rfl)
  by_cases h9 : op = 9
  · subst h9; exact W_eq_of (W_run (k := 9) (r := (I (maxImmN 9), S)) (by kernel_rfl) rfl)
  by_cases h10 : op = 10
  · subst h10; exact W_eq_of (W_run (k := 9) (r := (I (maxImmN 10), S)) (by kernel_rfl) rfl)
  by_cases h11 : op = 11
  · subst h11; exact W_eq_of (W_run (k := 9) (r := (I (maxImmN 11), S)) (by kernel_rfl) rfl)
  by_cases h12 : op = 12
  · subst h12; exact W_eq_of (W_run (k := 9) (r := (I (maxImmN 12), S)) (by kernel_rfl) rfl)
  by_cases h13 : op = 13
  · subst h13; exact W_eq_of (W_run (k := 9) (r := (I (maxImmN 13), S)) (by kernel_rfl) rfl)
  by_cases h14 : op = 14
  · subst h14; exact W_eq_of (W_run (k := 9) (r := (I (maxImmN 14), S)) (by kernel_rfl) rfl)
  by_cases h15 : op = 15
  · subst h15; exact W_eq_of (W_run (k := 9) (r := (I (maxImmN 15), S)) (by kernel_rfl) rfl)
  by_cases h16 : op = 16
  · subst h16; exact W_eq_of (W_run (k := 9) (r := (I (maxImmN 16), S)) (by kernel_rfl) rfl)
  by_cases h17 : op = 17
  · subst h17; exact W_eq_of (W_run (k := 9) (r := (I (maxImmN 17), S)) (by kernel_rfl) rfl)
  by_cases h18 : op = 18
  · subst h18; exact W_eq_of (W_run (k := 9) (r := (I (maxImmN 18), S)) (by kernel_rfl) rfl)
  by_cases h19 : op = 19
  · subst h19; exact W_eq_of (W_run (k := 9) (r := (I (maxImmN 19), S)) (by kernel_rfl) rfl)
  by_cases h20 : op = 20
  · subst h20; exact W_eq_of (W_run (k := 9) (r := (I (maxImmN 20), S)) (by kernel_rfl) rfl)
  by_cases h21 : op = 21
  · subst h21; exact W_eq_of (W_run (k := 9) (r := (I (maxImmN 21), S)) (by kernel_rfl) rfl)
  by_cases h22 : op = 22
  · subst h22; exact W_eq_of (W_run (k := 9) (r := (I (maxImmN 22), S)) (by kernel_rfl) rfl)
  by_cases h23 : op = 23
  · subst h23; exact W_eq_of (W_run (k := 9) (r := (I (maxImmN 23), S)) (by kernel_rfl) rfl)
  by_cases h24 : op = 24
  · subst h24; exact W_eq_of (W_run (k := 9) (r := (I (maxImmN 24), S)) (by kernel_rfl) rfl)
  by_cases h25 : op = 25
  · subst h25; exact W_eq_of (W_run (k := 9) (r := (I (maxImmN 25), S)) (by kernel_rfl) rfl)
  by_cases h26 : op = 26
  · subst h26; exact W_eq_of (W_run (k := 9) (r := (I (maxImmN 26), S)) (by kernel_rfl) rfl)
  by_cases h27 : op = 27
  · subst h27; exact W_eq_of (W_run (k := 9) (r := (I (maxImmN 27), S)) (by kernel_rfl) rfl)
  by_cases h28 : op = 28
  · subst h28; exact W_eq_of (W_run (k := 9) (r := (I (maxImmN 28), S)) (by kernel_rfl) rfl)
  by_cases h29 : op = 29
  · subst h29; exact W_eq_of (W_run (k := 9) (r := (I (maxImmN 29), S)) (by kernel_rfl) rfl)
  by_cases h30 : op = 30
  · subst h30; exact W_eq_of (W_run (k := 9) (r := (I (maxImmN 30), S)) (by kernel_rfl) rfl)
  by_cases h31 : op = 31
  · subst h31; exact W_eq_of (W_run (k := 9) (r := (I (maxImmN 31), S)) (by kernel_rfl) rfl)
  apply W_eq_of
  refine W_call (ex := []) Try.func28 rfl (by decide +kernel) (by decide +kernel) (by simp [Try.f28]) ?_
  rw [hint_28]
  simp only [Try.f28]
  simp -dsimp only [go_sem, List.replicate_succ, List.replicate_zero, List.set_cons_zero, List.set_cons_succ, Nat.zero_add, Nat.reduceAdd, Nat.reduceEqDiff, ↓reduceIte, Nat.reduceLT, Nat.reduceLeDiff, Int.reduceLT, Int.reduceLE, Int.reduceEq, Int.reduceNeg, Int.reduceToNat, Int.reduceAdd, Int.reduceSub, List.toList_toArray, and_self, and_true, true_and, not_true_eq_false, not_false_eq_true, Bool.not_true, Bool.not_false, Bool.not_not, h1, h2, h3, h4, h5, h6, h7, h8, h9, h10, h11, h12, h13, h14, h15, h16, h17, h18, h19, h20, h21, h22, h23, h24, h25, h26, h27, h28, h29, h30, h31, decide_false, maxImmN, or_self, if_false]

@[go_sem] theorem validImm {op n : Int} {S : St} : callL Try.prog G0 HA 25 [I op, I n] S = some (.bool (validImmN op n), S) := by
  apply W_eq_of
  refine W_call (ex := []) Try.func25 rfl (by decide +kernel) (by decide +kernel) (by simp [Try.f25]) ?_
  rw [hint_25]
  simp only [Try.f25]
  simp -dsimp (disch := first | omega | (simp only [List.length_drop, List.length_take, List.length_map, List.length_append, List.length_cons, List.length_nil, List.length_replicate, List.length_set, List.length_range]; omega)) only [go_sem, List.replicate_succ, List.replicate_zero, List.set_cons_zero, List.set_cons_succ, Nat.zero_add, Nat.reduceAdd, Nat.reduceEqDiff, ↓reduceIte, Nat.reduceLT, Nat.reduceLeDiff, Int.reduceLT, Int.reduceLE, Int.reduceEq, Int.reduceNeg, Int.reduceToNat, Int.reduceAdd, Int.reduceSub, List.toList_toArray, and_self, and_true, true_and, not_true_eq_false, not_false_eq_true, Bool.not_true, Bool.not_false, Bool.not_not, wrap_id, dec_t, dec_f, W_if_t, W_if_f, get_some]
  repeat' ((first | with_reducible refine branch_dec (fun h => ?_) (fun h => ?_) | with_reducible refine branch_ndec (fun h => ?_) (fun h => ?_) | with_reducible refine ifB_dec (fun h => ?_) (fun h => ?_) | with_reducible refine ifB_ndec (fun h => ?_) (fun h => ?_) | (with_reducible refine branch_b (fun h => ?_) (fun h => ?_) <;> try simp -dsimp only [h]) | (with_reducible refine branch_nb (fun h => ?_) (fun h => ?_) <;> try simp -dsimp only [h]) | (with_reducible refine ifB_b (fun h => ?_) (fun h => ?_) <;> try simp -dsimp only [h]) | (with_reducible refine ifB_nb (fun h => ?_) (fun h => ?_) <;> try simp -dsimp only [h])); all_goals (try simp -dsimp (disch := first | omega | (simp only [List.length_drop, List.length_take, List.length_map, List.length_append, List.length_cons, List.length_nil, List.length_replicate, List.length_set, List.length_range]; omega)) only [go_sem, List.replicate_succ, List.replicate_zero, List.set_cons_zero, List.set_cons_succ, Nat.zero_add, Nat.reduceAdd, Nat.reduceEqDiff, ↓reduceIte, Nat.reduceLT, Nat.reduceLeDiff, Int.reduceLT, Int.reduceLE, Int.reduceEq, Int.reduceNeg, Int.reduceToNat, Int.reduceAdd, Int.reduceSub, List.toList_toArray, and_self, and_true, true_and, not_true_eq_false, not_false_eq_true, Bool.not_true, Bool.not_false, Bool.not_not, wrap_id, dec_t, dec_f, W_if_t, W_if_f, get_some]))
  all_goals first | (simp [validImmN, *]; done) | (subst_vars; simp only [maxImmN_27] at *; simp [validImmN, maxImmN_27, *]; try omega)

@[go_sem] theorem sortIf {b : Bool} {n : Int} {S : St} : callL Try.prog G0 HA 26 [.bool b, I n] S = some (I (Ae.sortIf b n), S) := by
  apply W_eq_of
  refine W_call (ex := []) Try.func26 rfl (by decide +kernel) (by decide +kernel) (by simp [Try.f26]) ?_
  rw [hint_26]
  simp only [Try.f26]
  simp -dsimp (disch := first | omega | (simp only [List.length_drop, List.length_take, List.length_map, List.length_append, List.length_cons, List.length_nil, List.length_replicate, List.length_set, List.length_range]; omega)) only [go_sem, List.replicate_succ, List.replicate_zero, List.set_cons_zero, List.set_cons_succ, Nat.zero_add, Nat.reduceAdd, Nat.reduceEqDiff, ↓reduceIte, Nat.reduceLT, Nat.reduceLeDiff, Int.reduceLT, Int.reduceLE, Int.reduceEq, Int.reduceNeg, Int.reduceToNat, Int.reduceAdd, Int.reduceSub, List.toList_toArray, and_self, and_true, true_and, not_true_eq_false, not_false_eq_true, Bool.not_true, Bool.not_false, Bool.not_not, wrap_id, dec_t, dec_f, W_if_t, W_if_f, get_some]
  repeat' ((first | with_reducible refine branch_dec (fun h => ?_) (fun h => ?_) | with_reducible refine branch_ndec (fun h => ?_) (fun h => ?_) | with_reducible refine ifB_dec (fun h => ?_) (fun h => ?_) | with_reducible refine ifB_ndec (fun h => ?_) (fun h => ?_) | (with_reducible refine branch_b (fun h => ?_) (fun h => ?_) <;> try simp -dsimp only [h]) | (with_reducible refine branch_nb (fun h => ?_) (fun h => ?_) <;> try simp -dsimp only [h]) | (with_reducible refine ifB_b (fun h => ?_) (fun h => ?_) <;> try simp -dsimp only [h]) | (with_reducible refine ifB_nb (fun h => ?_) (fun h => ?_) <;> try simp -dsimp only [h])); all_goals (try simp -dsimp (disch := first | omega | (simp only [List.length_drop, List.length_take, List.length_map, List.length_append, List.length_cons, List.length_nil, List.length_replicate, List.length_set, List.length_range]; omega)) only [go_sem, List.replicate_succ, List.replicate_zero, List.set_cons_zero, List.set_cons_succ, Nat.zero_add, Nat.reduceAdd, Nat.reduceEqDiff, ↓reduceIte, Nat.reduceLT, Nat.reduceLeDiff, Int.reduceLT, Int.reduceLE, Int.reduceEq, Int.reduceNeg, Int.reduceToNat, Int.reduceAdd, Int.reduceSub, List.toList_toArray, and_self, and_true, true_and, not_true_eq_false, not_false_eq_true, Bool.not_true, Bool.not_false, Bool.not_not, wrap_id, dec_t, dec_f, W_if_t, W_if_f, get_some]))
  all_goals simp [Ae.sortIf, *]

@[go_sem] theorem allValues {k : List Int} {tk : Tk} {S : St} (hk : k.length < 9223372036854775807) : callL Try.prog G0 HA 27 [vI k tk] S = some (.bool (allVal k), S) := by
  apply W_eq_of
  refine W_call (ex := []) Try.func27 rfl (by decide +kernel) (by decide +kernel) (by simp [Try.f27]) ?_
  rw [hint_27]
  simp only [Try.f27]
  simp -dsimp (disch := first | omega | (simp only [List.length_drop, List.length_take, List.length_map, List.length_append, List.length_cons, List.length_nil, List.length_replicate, List.length_set, List.length_range]; omega)) only [go_sem, List.replicate_succ, List.replicate_zero, List.set_cons_zero, List.set_cons_succ, Nat.zero_add, Nat.reduceAdd, Nat.reduceEqDiff, ↓reduceIte, Nat.reduceLT, Nat.reduceLeDiff, Int.reduceLT, Int.reduceLE, Int.reduceEq, Int.reduceNeg, Int.reduceToNat, Int.reduceAdd, Int.reduceSub, List.toList_toArray, and_self, and_true, true_and, not_true_eq_false, not_false_eq_true, Bool.not_true, Bool.not_false, Bool.not_not, wrap_id, dec_t, dec_f, W_if_t, W_if_f, get_some]
  refine U_inv (fun m e S' => ∃ i : Nat, e = [(0, vI k tk), (3, I i)] ∧ S' = S ∧ m = k.length - i ∧ i ≤ k.length ∧ allVal (k.take i) = true) ?_ ?_
  · rintro m e S' ⟨i, rfl, rfl, hm, hi, ha⟩
    simp -dsimp (disch := first | omega | (simp only [List.length_drop, List.length_take, List.length_map, List.length_append, List.length_cons, List.length_nil, List.length_replicate, List.length_set, List.length_range]; omega)) only [go_sem, List.replicate_succ, List.replicate_zero, List.set_cons_zero, List.set_cons_succ, Nat.zero_add, Nat.reduceAdd, Nat.reduceEqDiff, ↓reduceIte, Nat.reduceLT, Nat.reduceLeDiff, Int.reduceLT, Int.reduceLE, Int.reduceEq, Int.reduceNeg, Int.reduceToNat, Int.reduceAdd, Int.reduceSub, List.toList_toArray, and_self, and_true, true_and, not_true_eq_false, not_false_eq_true, Bool.not_true, Bool.not_false, Bool.not_not, wrap_id, dec_t, dec_f, W_if_t, W_if_f, get_some]
    first | with_reducible refine branch_dec (fun h => ?_) (fun h => ?_) | with_reducible refine branch_ndec (fun h => ?_) (fun h => ?_) | with_reducible refine ifB_dec (fun h => ?_) (fun h => ?_) | with_reducible refine ifB_ndec (fun h => ?_) (fun h => ?_) | (with_reducible refine branch_b (fun h => ?_) (fun h => ?_) <;> try simp -dsimp only [h]) | (with_reducible refine branch_nb (fun h => ?_) (fun h => ?_) <;> try simp -dsimp only [h]) | (with_reducible refine ifB_b (fun h => ?_) (fun h => ?_) <;> try simp -dsimp only [h]) | (with_reducible refine ifB_nb (fun h => ?_) (fun h => ?_) <;> try simp -dsimp only [h])
    · simp -dsimp (disch := first | omega | (simp only [List.length_drop, List.length_take, List.length_map, List.length_append, List.length_cons, List.length_nil, List.length_replicate, List.length_set, List.length_range]; omega)) only [go_sem, List.replicate_succ, List.replicate_zero, List.set_cons_zero, List.set_cons_succ, Nat.zero_add, Nat.reduceAdd, Nat.reduceEqDiff, ↓reduceIte, Nat.reduceLT, Nat.reduceLeDiff, Int.reduceLT, Int.reduceLE, Int.reduceEq, Int.reduceNeg, Int.reduceToNat, Int.reduceAdd, Int.reduceSub, List.toList_toArray, and_self, and_true, true_and, not_true_eq_false, not_false_eq_true, Bool.not_true, Bool.not_false, Bool.not_not, wrap_id, dec_t, dec_f, W_if_t, W_if_f, get_some]
      have hti : k.take (i + 1) = k.take i ++ [k.getD i default] := by rw [List.take_add_one, get_some (by omega)]; rfl
      first | with_reducible refine branch_dec (fun h1 => ?_) (fun h1 => ?_) | with_reducible refine branch_ndec (fun h1 => ?_) (fun h1 => ?_) | with_reducible refine ifB_dec (fun h1 => ?_) (fun h1 => ?_) | with_reducible refine ifB_ndec (fun h1 => ?_) (fun h1 => ?_) | (with_reducible refine branch_b (fun h1 => ?_) (fun h1 => ?_) <;> try simp -dsimp only [h1]) | (with_reducible refine branch_nb (fun h1 => ?_) (fun h1 => ?_) <;> try simp -dsimp only [h1]) | (with_reducible refine ifB_b (fun h1 => ?_) (fun h1 => ?_) <;> try simp -dsimp only [h1]) | (with_reducible refine ifB_nb (fun h1 => ?_) (fun h1 => ?_) <;> try simp -dsimp only [h1])
      · simp -dsimp (disch := first | omega | (simp only [List.length_drop, List.length_take, List.length_map, List.length_append, List.length_cons, List.length_nil, List.length_replicate, List.length_set, List.length_range]; omega)) only [go_sem, List.replicate_succ, List.replicate_zero, List.set_cons_zero, List.set_cons_succ, Nat.zero_add, Nat.reduceAdd, Nat.reduceEqDiff, ↓reduceIte, Nat.reduceLT, Nat.reduceLeDiff, Int.reduceLT, Int.reduceLE, Int.reduceEq, Int.reduceNeg, Int.reduceToNat, Int.reduceAdd, Int.reduceSub, List.toList_toArray, and_self, and_true, true_and, not_true_eq_false, not_false_eq_true, Bool.not_true, Bool.not_false, Bool.not_not, wrap_id, dec_t, dec_f, W_if_t, W_if_f, get_some]
        have : allVal k = false := by
          simp only [allVal, List.all_eq_false]
          refine ⟨k.getD i default, ?_, by simpa using h1⟩
          rw [List.getD_eq_getElem?_getD, List.getElem?_eq_getElem (by omega)]; exact List.getElem_mem _
        rw [this]
      · simp -dsimp (disch := first | omega | (simp only [List.length_drop, List.length_take, List.length_map, List.length_append, List.length_cons, List.length_nil, List.length_replicate, List.length_set, List.length_range]; omega)) only [go_sem, List.replicate_succ, List.replicate_zero, List.set_cons_zero, List.set_cons_succ, Nat.zero_add, Nat.reduceAdd, Nat.reduceEqDiff, ↓reduceIte, Nat.reduceLT, Nat.reduceLeDiff, Int.reduceLT, Int.reduceLE, Int.reduceEq, Int.reduceNeg, Int.reduceToNat, Int.reduceAdd, Int.reduceSub, List.toList_toArray, and_self, and_true, true_and, not_true_eq_false, not_false_eq_true, Bool.not_true, Bool.not_false, Bool.not_not, wrap_id, dec_t, dec_f, W_if_t, W_if_f, get_some]
        refine ⟨_, ?_, i + 1, rfl, rfl, rfl, by omega, ?_⟩
        · omega
        · rw [hti]; simp only [allVal, List.all_append] at ha ⊢; rw [ha, h1]; rfl
    · simp -dsimp (disch := first | omega | (simp only [List.length_drop, List.length_take, List.length_map, List.length_append, List.length_cons, List.length_nil, List.length_replicate, List.length_set, List.length_range]; omega)) only [go_sem, List.replicate_succ, List.replicate_zero, List.set_cons_zero, List.set_cons_succ, Nat.zero_add, Nat.reduceAdd, Nat.reduceEqDiff, ↓reduceIte, Nat.reduceLT, Nat.reduceLeDiff, Int.reduceLT, Int.reduceLE, Int.reduceEq, Int.reduceNeg, Int.reduceToNat, Int.reduceAdd, Int.reduceSub, List.toList_toArray, and_self, and_true, true_and, not_true_eq_false, not_false_eq_true, Bool.not_true, Bool.not_false, Bool.not_not, wrap_id, dec_t, dec_f, W_if_t, W_if_f, get_some]
      rw [List.take_of_length_le (by omega)] at ha
      rw [ha]
  · simp -dsimp (disch := first | omega | (simp only [List.length_drop, List.length_take, List.length_map, List.length_append, List.length_cons, List.length_nil, List.length_replicate, List.length_set, List.length_range]; omega)) only [go_sem, List.replicate_succ, List.replicate_zero, List.set_cons_zero, List.set_cons_succ, Nat.zero_add, Nat.reduceAdd, Nat.reduceEqDiff, ↓reduceIte, Nat.reduceLT, Nat.reduceLeDiff, Int.reduceLT, Int.reduceLE, Int.reduceEq, Int.reduceNeg, Int.reduceToNat, Int.reduceAdd, Int.reduceSub, List.toList_toArray, and_self, and_true, true_and, not_true_eq_false, not_false_eq_true, Bool.not_true, Bool.not_false, Bool.not_not, wrap_id, dec_t, dec_f, W_if_t, W_if_f, get_some]
    exact ⟨_, 0, rfl, rfl, rfl, by omega, rfl⟩
end Go.Proofs.Ytmicmlcfbmphfaa
