/- cost.Total: the cost of what the roots depend on.
   Each lemma's own conditions. -/
import Derived.Test.YtmicmlcfbmphfaaK1
import Derived.Test.YtmicmlcfbmphfaaAeGraph
set_option linter.unusedSimpArgs false
set_option linter.unusedVariables false
set_option linter.unnecessarySimpa false
namespace Go.Proofs.Ytmicmlcfbmphfaa
open Go Go.Proofs Go.Proofs.Ytmicmlcfbmphfaa.Ae
set_option maxRecDepth 10000

def TotInv (l : List GNode) (roots : List Int) (tk : Tk) (S : St) (m : Nat) (e : Env) (S' : St) : Prop :=
  ∃ (ins : List Bool) (b off : Nat) (es : List Int) (n : Nat), e = [(0, vN l tk), (5, .rs S.length 0 l.length 1), (6, .rs b off n 1), (7, I (sumOn (costAt l) (fun i => ins.getD i false) l.length))] ∧
    m = n + weight (fun i => 1 + (nodeAt l i).kids.length) (fun i => ins.getD i false) l.length ∧
    S'[S.length]? = some (rB ins) ∧ ins.length = l.length ∧ S'[b]? = some (rI es) ∧ off + n ≤ es.length ∧ Grew S S' ∧ S.length < b ∧ m ≤ 2^44 + 2^42 ∧
      (∀ i, ins.getD i false = true → NReach l roots i) ∧ (∀ i : Nat, (i : Int) ∈ (es.drop off).take n → i < l.length → NReach l roots i) ∧
      (∀ i : Nat, (i : Int) ∈ roots → i < l.length → ins.getD i false = true ∨ (i : Int) ∈ (es.drop off).take n) ∧
      (∀ i k : Nat, ins.getD i false = true → (k : Int) ∈ (nodeAt l i).kids → k < l.length → ins.getD k false = true ∨ (k : Int) ∈ (es.drop off).take n)

theorem total (l : List GNode) (roots : List Int) (tk tk' : Tk) (S : St) (Q) (hl : l.length ≤ 1000) (hk : ∀ i, (nodeAt l i).kids.length ≤ 1000000) (hr : roots.length ≤ 2^44) (hq : ∀ S', Grew S S' → Q (I (totalC l roots), S')) : W (callL Try.prog G0 HA 6 [vN l tk, vI roots tk'] S) Q := by
  refine W_call (ex := []) Try.func6 rfl (by decide +kernel) (by decide +kernel) (by simp [Try.f6]) ?_
  rw [hint_6]
  simp only [Try.f6]
  simp -dsimp (disch := first | omega | (simp only [List.length_drop, List.length_take, List.length_map, List.length_append, List.length_cons, List.length_nil, List.length_replicate, List.length_set, List.length_range]; omega)) only [go_sem, List.replicate_succ, List.replicate_zero, List.set_cons_zero, List.set_cons_succ, Nat.zero_add, Nat.reduceAdd, Nat.reduceEqDiff, ↓reduceIte, Nat.reduceLT, Nat.reduceLeDiff, Int.reduceLT, Int.reduceLE, Int.reduceEq, Int.reduceNeg, Int.reduceToNat, Int.reduceAdd, Int.reduceSub, List.toList_toArray, and_self, and_true, true_and, not_true_eq_false, not_false_eq_true, Bool.not_true, Bool.not_false, Bool.not_not, wrap_id, dec_t, dec_f, W_if_t, W_if_f, get_some]
  refine append_rsF (S0 := S) sl_22 sl_22 (nl := roots) (l := []) rfl allSize_vI (by simp) (by simp) (by simp; omega) ⟨_, by rw [List.append_assoc]⟩ (by simp) ?_
  intro b off S1 es h1 h2 h3 h4 h5 h6
  simp -dsimp (disch := first | omega | (simp only [List.length_drop, List.length_take, List.length_map, List.length_append, List.length_cons, List.length_nil, List.length_replicate, List.length_set, List.length_range]; omega)) only [go_sem, List.replicate_succ, List.replicate_zero, List.set_cons_zero, List.set_cons_succ, Nat.zero_add, Nat.reduceAdd, Nat.reduceEqDiff, ↓reduceIte, Nat.reduceLT, Nat.reduceLeDiff, Int.reduceLT, Int.reduceLE, Int.reduceEq, Int.reduceNeg, Int.reduceToNat, Int.reduceAdd, Int.reduceSub, List.toList_toArray, and_self, and_true, true_and, not_true_eq_false, not_false_eq_true, Bool.not_true, Bool.not_false, Bool.not_not, wrap_id, dec_t, dec_f, W_if_t, W_if_f, get_some]
  refine U_inv (TotInv l roots tk S) ?_ ?_
  · rintro m e S' ⟨ins, b, off, es, n, rfl, hm, i1, i2, i3, i4, i5, i6, i7, i8, i9, i10, i11⟩
    clear h1 h2 h3 h4 h5 h6
    simp -dsimp (disch := first | omega | (simp only [List.length_drop, List.length_take, List.length_map, List.length_append, List.length_cons, List.length_nil, List.length_replicate, List.length_set, List.length_range]; omega)) only [go_sem, List.replicate_succ, List.replicate_zero, List.set_cons_zero, List.set_cons_succ, Nat.zero_add, Nat.reduceAdd, Nat.reduceEqDiff, ↓reduceIte, Nat.reduceLT, Nat.reduceLeDiff, Int.reduceLT, Int.reduceLE, Int.reduceEq, Int.reduceNeg, Int.reduceToNat, Int.reduceAdd, Int.reduceSub, List.toList_toArray, and_self, and_true, true_and, not_true_eq_false, not_false_eq_true, Bool.not_true, Bool.not_false, Bool.not_not, wrap_id, dec_t, dec_f, W_if_t, W_if_f, get_some]
    first | with_reducible refine branch_dec (fun hn => ?_) (fun hn => ?_) | with_reducible refine branch_ndec (fun hn => ?_) (fun hn => ?_) | with_reducible refine ifB_dec (fun hn => ?_) (fun hn => ?_) | with_reducible refine ifB_ndec (fun hn => ?_) (fun hn => ?_) | (with_reducible refine branch_b (fun hn => ?_) (fun hn => ?_) <;> try simp -dsimp only [hn]) | (with_reducible refine branch_nb (fun hn => ?_) (fun hn => ?_) <;> try simp -dsimp only [hn]) | (with_reducible refine ifB_b (fun hn => ?_) (fun hn => ?_) <;> try simp -dsimp only [hn]) | (with_reducible refine ifB_nb (fun hn => ?_) (fun hn => ?_) <;> try simp -dsimp only [hn])
    · have e1 : ((n : Int) - 1).toNat = n - 1 := by omega
      simp -dsimp (disch := first | omega | (simp only [List.length_drop, List.length_take, List.length_map, List.length_append, List.length_cons, List.length_nil, List.length_replicate, List.length_set, List.length_range]; omega)) only [go_sem, List.replicate_succ, List.replicate_zero, List.set_cons_zero, List.set_cons_succ, Nat.zero_add, Nat.reduceAdd, Nat.reduceEqDiff, ↓reduceIte, Nat.reduceLT, Nat.reduceLeDiff, Int.reduceLT, Int.reduceLE, Int.reduceEq, Int.reduceNeg, Int.reduceToNat, Int.reduceAdd, Int.reduceSub, List.toList_toArray, and_self, and_true, true_and, not_true_eq_false, not_false_eq_true, Bool.not_true, Bool.not_false, Bool.not_not, wrap_id, dec_t, dec_f, W_if_t, W_if_f, get_some, i3, e1]
      have hpop : (es.drop off).take n = (es.drop off).take (n - 1) ++ [es.getD (off + (n - 1)) default] := by
        conv => lhs; rw [show n = (n - 1) + 1 by omega]
        rw [List.take_add_one, List.getElem?_drop, get_some (show off + (n - 1) < es.length by omega)]; rfl
      generalize es.getD (off + (n - 1)) default = x at *
      have cont : (x < 0 ∨ (l.length : Int) ≤ x ∨ ins.getD x.toNat false = true) → Goes (TotInv l roots tk S) m [(0, vN l tk), (5, .rs S.length 0 l.length 1), (6, .rs b off (n - 1) 1), (7, I (sumOn (costAt l) (fun i => ins.getD i false) l.length))] S' := by
        intro hx
        refine ⟨m - 1, by omega, ins, b, off, es, n - 1, rfl, by omega, i1, i2, i3, by omega, i5, i6, by omega, i8, fun i hi => i9 i (by rw [hpop]; simp [hi]), fun i hi hlt => ?_, fun i k hi hk' hlt => ?_⟩
        · rcases i10 i hi hlt with h | h
          · exact .inl h
          · rw [hpop, List.mem_append] at h
            rcases h with h | h
            · exact .inr h
            · simp at h; rcases hx with hx | hx | hx
              · omega
              · omega
              · rw [← h] at hx; exact .inl (by simpa using hx)
        · rcases i11 i k hi hk' hlt with h | h
          · exact .inl h
          · rw [hpop, List.mem_append] at h
            rcases h with h | h
            · exact .inr h
            · simp at h; rcases hx with hx | hx | hx
              · omega
              · omega
              · rw [← h] at hx; exact .inl (by simpa using hx)
      first | with_reducible refine branch_dec (fun ha => ?_) (fun ha => ?_) | with_reducible refine branch_ndec (fun ha => ?_) (fun ha => ?_) | with_reducible refine ifB_dec (fun ha => ?_) (fun ha => ?_) | with_reducible refine ifB_ndec (fun ha => ?_) (fun ha => ?_) | (with_reducible refine branch_b (fun ha => ?_) (fun ha => ?_) <;> try simp -dsimp only [ha]) | (with_reducible refine branch_nb (fun ha => ?_) (fun ha => ?_) <;> try simp -dsimp only [ha]) | (with_reducible refine ifB_b (fun ha => ?_) (fun ha => ?_) <;> try simp -dsimp only [ha]) | (with_reducible refine ifB_nb (fun ha => ?_) (fun ha => ?_) <;> try simp -dsimp only [ha])
      · simp -dsimp (disch := first | omega | (simp only [List.length_drop, List.length_take, List.length_map, List.length_append, List.length_cons, List.length_nil, List.length_replicate, List.length_set, List.length_range]; omega)) only [go_sem, List.replicate_succ, List.replicate_zero, List.set_cons_zero, List.set_cons_succ, Nat.zero_add, Nat.reduceAdd, Nat.reduceEqDiff, ↓reduceIte, Nat.reduceLT, Nat.reduceLeDiff, Int.reduceLT, Int.reduceLE, Int.reduceEq, Int.reduceNeg, Int.reduceToNat, Int.reduceAdd, Int.reduceSub, List.toList_toArray, and_self, and_true, true_and, not_true_eq_false, not_false_eq_true, Bool.not_true, Bool.not_false, Bool.not_not, wrap_id, dec_t, dec_f, W_if_t, W_if_f, get_some]
        first | with_reducible refine branch_dec (fun hb => ?_) (fun hb => ?_) | with_reducible refine branch_ndec (fun hb => ?_) (fun hb => ?_) | with_reducible refine ifB_dec (fun hb => ?_) (fun hb => ?_) | with_reducible refine ifB_ndec (fun hb => ?_) (fun hb => ?_) | (with_reducible refine branch_b (fun hb => ?_) (fun hb => ?_) <;> try simp -dsimp only [hb]) | (with_reducible refine branch_nb (fun hb => ?_) (fun hb => ?_) <;> try simp -dsimp only [hb]) | (with_reducible refine ifB_b (fun hb => ?_) (fun hb => ?_) <;> try simp -dsimp only [hb]) | (with_reducible refine ifB_nb (fun hb => ?_) (fun hb => ?_) <;> try simp -dsimp only [hb])
        · simp -dsimp (disch := first | omega | (simp only [List.length_drop, List.length_take, List.length_map, List.length_append, List.length_cons, List.length_nil, List.length_replicate, List.length_set, List.length_range]; omega)) only [go_sem, List.replicate_succ, List.replicate_zero, List.set_cons_zero, List.set_cons_succ, Nat.zero_add, Nat.reduceAdd, Nat.reduceEqDiff, ↓reduceIte, Nat.reduceLT, Nat.reduceLeDiff, Int.reduceLT, Int.reduceLE, Int.reduceEq, Int.reduceNeg, Int.reduceToNat, Int.reduceAdd, Int.reduceSub, List.toList_toArray, and_self, and_true, true_and, not_true_eq_false, not_false_eq_true, Bool.not_true, Bool.not_false, Bool.not_not, wrap_id, dec_t, dec_f, W_if_t, W_if_f, get_some, i1]
          first | with_reducible refine branch_dec (fun hc => ?_) (fun hc => ?_) | with_reducible refine branch_ndec (fun hc => ?_) (fun hc => ?_) | with_reducible refine ifB_dec (fun hc => ?_) (fun hc => ?_) | with_reducible refine ifB_ndec (fun hc => ?_) (fun hc => ?_) | (with_reducible refine branch_b (fun hc => ?_) (fun hc => ?_) <;> try simp -dsimp only [hc]) | (with_reducible refine branch_nb (fun hc => ?_) (fun hc => ?_) <;> try simp -dsimp only [hc]) | (with_reducible refine ifB_b (fun hc => ?_) (fun hc => ?_) <;> try simp -dsimp only [hc]) | (with_reducible refine ifB_nb (fun hc => ?_) (fun hc => ?_) <;> try simp -dsimp only [hc])
          · simp -dsimp (disch := first | omega | (simp only [List.length_drop, List.length_take, List.length_map, List.length_append, List.length_cons, List.length_nil, List.length_replicate, List.length_set, List.length_range]; omega)) only [go_sem, List.replicate_succ, List.replicate_zero, List.set_cons_zero, List.set_cons_succ, Nat.zero_add, Nat.reduceAdd, Nat.reduceEqDiff, ↓reduceIte, Nat.reduceLT, Nat.reduceLeDiff, Int.reduceLT, Int.reduceLE, Int.reduceEq, Int.reduceNeg, Int.reduceToNat, Int.reduceAdd, Int.reduceSub, List.toList_toArray, and_self, and_true, true_and, not_true_eq_false, not_false_eq_true, Bool.not_true, Bool.not_false, Bool.not_not, wrap_id, dec_t, dec_f, W_if_t, W_if_f, get_some]
            exact cont (.inr (.inr hc))
          · have hcost := costN_bound (l.getD x.toNat default).op
            have hsum := sumOn_bound (c := costAt l) (f := fun i => ins.getD i false) (b := 20) (n := l.length) (fun i _ => costN_bound _) (by omega)
            simp -dsimp (disch := first | omega | (simp only [List.length_drop, List.length_take, List.length_map, List.length_append, List.length_cons, List.length_nil, List.length_replicate, List.length_set, List.length_range]; omega)) only [go_sem, List.replicate_succ, List.replicate_zero, List.set_cons_zero, List.set_cons_succ, Nat.zero_add, Nat.reduceAdd, Nat.reduceEqDiff, ↓reduceIte, Nat.reduceLT, Nat.reduceLeDiff, Int.reduceLT, Int.reduceLE, Int.reduceEq, Int.reduceNeg, Int.reduceToNat, Int.reduceAdd, Int.reduceSub, List.toList_toArray, and_self, and_true, true_and, not_true_eq_false, not_false_eq_true, Bool.not_true, Bool.not_false, Bool.not_not, wrap_id, dec_t, dec_f, W_if_t, W_if_f, get_some, i1, store_B size_4 i1]
            refine append_rsF (S0 := S) sl_22 sl_22 (nl := (nodeAt l x.toNat).kids) (l := es) rfl allSize_vI (by rw [get_set_ne (by omega)]; exact i3) (by omega) ?_ (i5.set (Nat.le_refl _) _) (by omega) ?_
            · have := hk x.toNat
              omega
            intro b1 off1 S1 es1 k1 k2 k3 k4 k5 k6
            simp -dsimp (disch := first | omega | (simp only [List.length_drop, List.length_take, List.length_map, List.length_append, List.length_cons, List.length_nil, List.length_replicate, List.length_set, List.length_range]; omega)) only [go_sem, List.replicate_succ, List.replicate_zero, List.set_cons_zero, List.set_cons_succ, Nat.zero_add, Nat.reduceAdd, Nat.reduceEqDiff, ↓reduceIte, Nat.reduceLT, Nat.reduceLeDiff, Int.reduceLT, Int.reduceLE, Int.reduceEq, Int.reduceNeg, Int.reduceToNat, Int.reduceAdd, Int.reduceSub, List.toList_toArray, and_self, and_true, true_and, not_true_eq_false, not_false_eq_true, Bool.not_true, Bool.not_false, Bool.not_not, wrap_id, dec_t, dec_f, W_if_t, W_if_f, get_some]
            have hx : x.toNat < l.length := by omega
            have hset : ∀ i, (ins.set x.toNat true).getD i false = if i = x.toNat then true else ins.getD i false := by
              intro i
              rw [List.getD_eq_getElem?_getD, List.getD_eq_getElem?_getD, List.getElem?_set]
              by_cases h : x.toNat = i
              · subst h; simp [show x.toNat < ins.length by omega]
              · rw [if_neg h, if_neg (fun e => h e.symm)]
            have hw := weight_set (w := fun i => 1 + (nodeAt l i).kids.length) (f := fun i => ins.getD i false) (g := fun i => (ins.set x.toNat true).getD i false) (k := x.toNat) (n := l.length) hc (by rw [hset]; simp) hx (fun i _ hne => by simp only [hset]; rw [if_neg hne])
            have hs := sumOn_set (c := costAt l) (f := fun i => ins.getD i false) (g := fun i => (ins.set x.toNat true).getD i false) (k := x.toNat) (n := l.length) hc (by rw [hset]; simp) hx (fun i _ hne => by simp only [hset]; rw [if_neg hne])
            have hlen : (nodeAt l x.toNat).kids.length = (l.getD x.toNat default).kids.length := rfl
            have hxr : NReach l roots x.toNat := i9 x.toNat (by rw [hpop]; simp; omega) hx
            obtain ⟨k61, k62⟩ := k6 S.length _ (get_set_eq i1) (by omega)
            have hold : ∀ i : Nat, (i : Int) ∈ (es.drop off).take n → i ≠ x.toNat → (i : Int) ∈ (es1.drop off1).take (n - 1 + (nodeAt l x.toNat).kids.length) := by
              intro i hi hne
              rw [hpop, List.mem_append] at hi
              rw [k3, List.mem_append]
              rcases hi with hi | hi
              · exact .inl hi
              · simp at hi; omega
            refine ⟨_, ?_, ins.set x.toNat true, b1, off1, es1, n - 1 + (nodeAt l x.toNat).kids.length, ?_, rfl, k61, by simpa using i2, k1, k2, k4, by omega, ?_, ?_, ?_, ?_, ?_⟩
            · omega
            · rw [hs]
            · omega
            · intro i hi
              rw [hset] at hi
              by_cases h : i = x.toNat
              · rw [h]; exact hxr
              · rw [if_neg h] at hi; exact i8 i hi
            · intro i hi hlt
              rw [k3, List.mem_append] at hi
              rcases hi with hi | hi
              · exact i9 i (by rw [hpop]; simp [hi]) hlt
              · exact .kid hxr hi hlt
            · intro i hi hlt
              rw [hset]
              by_cases h : i = x.toNat
              · simp [h]
              · rw [if_neg h]
                rcases i10 i hi hlt with h1 | h1
                · exact .inl h1
                · exact .inr (hold i h1 h)
            · intro i k hi hk' hlt
              rw [hset] at hi ⊢
              by_cases h : k = x.toNat
              · simp [h]
              · rw [if_neg h]
                by_cases h2 : i = x.toNat
                · subst h2; exact .inr (by rw [k3, List.mem_append]; exact .inr hk')
                · rw [if_neg h2] at hi
                  rcases i11 i k hi hk' hlt with h1 | h1
                  · exact .inl h1
                  · exact .inr (hold k h1 h)
        · simp -dsimp (disch := first | omega | (simp only [List.length_drop, List.length_take, List.length_map, List.length_append, List.length_cons, List.length_nil, List.length_replicate, List.length_set, List.length_range]; omega)) only [go_sem, List.replicate_succ, List.replicate_zero, List.set_cons_zero, List.set_cons_succ, Nat.zero_add, Nat.reduceAdd, Nat.reduceEqDiff, ↓reduceIte, Nat.reduceLT, Nat.reduceLeDiff, Int.reduceLT, Int.reduceLE, Int.reduceEq, Int.reduceNeg, Int.reduceToNat, Int.reduceAdd, Int.reduceSub, List.toList_toArray, and_self, and_true, true_and, not_true_eq_false, not_false_eq_true, Bool.not_true, Bool.not_false, Bool.not_not, wrap_id, dec_t, dec_f, W_if_t, W_if_f, get_some]
          exact cont (.inr (.inl hb))
      · simp -dsimp (disch := first | omega | (simp only [List.length_drop, List.length_take, List.length_map, List.length_append, List.length_cons, List.length_nil, List.length_replicate, List.length_set, List.length_range]; omega)) only [go_sem, List.replicate_succ, List.replicate_zero, List.set_cons_zero, List.set_cons_succ, Nat.zero_add, Nat.reduceAdd, Nat.reduceEqDiff, ↓reduceIte, Nat.reduceLT, Nat.reduceLeDiff, Int.reduceLT, Int.reduceLE, Int.reduceEq, Int.reduceNeg, Int.reduceToNat, Int.reduceAdd, Int.reduceSub, List.toList_toArray, and_self, and_true, true_and, not_true_eq_false, not_false_eq_true, Bool.not_true, Bool.not_false, Bool.not_not, wrap_id, dec_t, dec_f, W_if_t, W_if_f, get_some]
        exact cont (.inl ha)
    · simp -dsimp (disch := first | omega | (simp only [List.length_drop, List.length_take, List.length_map, List.length_append, List.length_cons, List.length_nil, List.length_replicate, List.length_set, List.length_range]; omega)) only [go_sem, List.replicate_succ, List.replicate_zero, List.set_cons_zero, List.set_cons_succ, Nat.zero_add, Nat.reduceAdd, Nat.reduceEqDiff, ↓reduceIte, Nat.reduceLT, Nat.reduceLeDiff, Int.reduceLT, Int.reduceLE, Int.reduceEq, Int.reduceNeg, Int.reduceToNat, Int.reduceAdd, Int.reduceSub, List.toList_toArray, and_self, and_true, true_and, not_true_eq_false, not_false_eq_true, Bool.not_true, Bool.not_false, Bool.not_not, wrap_id, dec_t, dec_f, W_if_t, W_if_f, get_some]
      have h0 : n = 0 := by omega
      subst h0
      have hc := reach_marks (l := l) (roots := roots) (f := fun i => ins.getD i false) i8 (fun i h1 h2 => by simpa using i10 i h1 h2) (fun i k h1 h2 h3 => by simpa using i11 i k h1 h2 h3)
      have := hq S' i5
      rw [totalC, ← sumOn_congr (fun i _ => hc i)] at this
      exact this
  · simp -dsimp (disch := first | omega | (simp only [List.length_drop, List.length_take, List.length_map, List.length_append, List.length_cons, List.length_nil, List.length_replicate, List.length_set, List.length_range]; omega)) only [go_sem, List.replicate_succ, List.replicate_zero, List.set_cons_zero, List.set_cons_succ, Nat.zero_add, Nat.reduceAdd, Nat.reduceEqDiff, ↓reduceIte, Nat.reduceLT, Nat.reduceLeDiff, Int.reduceLT, Int.reduceLE, Int.reduceEq, Int.reduceNeg, Int.reduceToNat, Int.reduceAdd, Int.reduceSub, List.toList_toArray, and_self, and_true, true_and, not_true_eq_false, not_false_eq_true, Bool.not_true, Bool.not_false, Bool.not_not, wrap_id, dec_t, dec_f, W_if_t, W_if_f, get_some]
    have hf : ∀ i, (List.replicate l.length false).getD i false = false := by
      intro i; rw [List.getD_eq_getElem?_getD, List.getElem?_replicate]; split <;> rfl
    have hw : ∀ n, weight (fun i => 1 + (nodeAt l i).kids.length) (fun i => false) n ≤ 1000001 * n := by
      intro n
      induction n with
      | zero => simp [weight]
      | succ n ih => have := hk n; simp only [weight, Bool.false_eq_true, if_false]; omega
    have hw := hw l.length
    have hz : ∀ n, sumOn (costAt l) (fun i => false) n = 0 := by
      intro n
      induction n with
      | zero => rfl
      | succ n ih => simp [sumOn, ih]
    obtain ⟨k61, k62⟩ := h6 S.length _ (get_app get_push) (by simp)
    simp at h3
    refine ⟨roots.length + weight (fun i => 1 + (nodeAt l i).kids.length) (fun i => false) l.length, List.replicate l.length false, b, off, es, roots.length, ?_, ?_, ?_, by simp, h1, by omega, h4, by omega, by omega, ?_, ?_, ?_, ?_⟩
    · simp only [hf, hz]
    · simp only [hf]
    · rw [k61]; simp
    · intro i hi; rw [hf] at hi; cases hi
    · intro i hi hlt; rw [h3] at hi; exact .root hi hlt
    · intro i hi hlt; rw [h3]; exact .inr hi
    · intro i k hi; rw [hf] at hi; cases hi
end Go.Proofs.Ytmicmlcfbmphfaa
