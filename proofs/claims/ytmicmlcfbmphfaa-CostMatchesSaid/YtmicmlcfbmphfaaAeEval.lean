/- What is reached, worked out for given nodes.
   No conditions beyond those of each lemma. -/
import Derived.Test.YtmicmlcfbmphfaaAeGraph
set_option linter.unusedSimpArgs false
set_option linter.unusedVariables false
set_option linter.unnecessarySimpa false
namespace Go.Proofs.Ytmicmlcfbmphfaa.Ae

def initM (l : List GNode) (roots : List Int) : List Bool := (List.range l.length).map fun (k : Nat) => roots.any fun r => decide (r = (k : Int))
def stepM (l : List GNode) (m : List Bool) : List Bool :=
  (List.range l.length).map fun (k : Nat) => m.getD k default || (List.range l.length).any fun i => m.getD i default && (nodeAt l i).kids.any fun q => decide (q = (k : Int))
def iterM (l : List GNode) : Nat → List Bool → List Bool
  | 0, m => m
  | n + 1, m => iterM l n (stepM l m)

theorem rangeB_get {n k : Nat} {f : Nat → Bool} : ((List.range n).map f).getD k default = (decide (k < n) && f k) := by
  rw [List.getD_eq_getElem?_getD, List.getElem?_map]
  by_cases h : k < n
  · rw [List.getElem?_eq_getElem (by simpa using h)]; simp [h]
  · rw [List.getElem?_eq_none (by simp; omega)]; simp [h]

theorem iter_reach {l : List GNode} {roots : List Int} : ∀ (n : Nat) (m : List Bool), (∀ i, mkd m i = true → NReach l roots i) → ∀ i, mkd (iterM l n m) i = true → NReach l roots i
  | 0, m, h, i, hi => h i hi
  | n + 1, m, h, i, hi => by
    refine iter_reach n (stepM l m) (fun k hk => ?_) i hi
    simp only [mkd, stepM] at hk
    rw [rangeB_get] at hk
    simp only [Bool.and_eq_true, Bool.or_eq_true, decide_eq_true_eq, List.any_eq_true, List.mem_range] at hk
    obtain ⟨h1, h2 | ⟨j, hj, h2, q, hq, rfl⟩⟩ := hk
    · exact h k h2
    · exact .kid (h j h2) hq h1

theorem totalC_eval {l : List GNode} {roots : List Int} {n : Nat} (h : stepM l (iterM l n (initM l roots)) = iterM l n (initM l roots)) (hs : ∀ k, mkd (initM l roots) k = true → mkd (iterM l n (initM l roots)) k = true) :
    totalC l roots = sumOn (costAt l) (mkd (iterM l n (initM l roots))) l.length := by
  unfold totalC
  refine sumOn_congr (fun i _ => (reach_marks (l := l) (roots := roots) (f := mkd (iterM l n (initM l roots))) ?_ ?_ ?_ i).symm)
  · refine iter_reach n _ (fun i hi => ?_)
    simp only [mkd, initM] at hi
    rw [rangeB_get] at hi
    simp only [Bool.and_eq_true, decide_eq_true_eq, List.any_eq_true] at hi
    obtain ⟨h1, r, hr, rfl⟩ := hi
    exact .root hr h1
  · intro i h1 h2
    refine hs i ?_
    simp only [mkd, initM]
    rw [rangeB_get]
    simp only [Bool.and_eq_true, decide_eq_true_eq, List.any_eq_true]
    exact ⟨h2, _, h1, rfl⟩
  · intro i k h1 h2 h3
    have hi : mkd (stepM l (iterM l n (initM l roots))) k = true := by
      simp only [mkd, stepM]
      rw [rangeB_get]
      simp only [Bool.and_eq_true, Bool.or_eq_true, decide_eq_true_eq, List.any_eq_true, List.mem_range]
      refine ⟨h3, .inr ⟨i, ?_, h1, _, h2, rfl⟩⟩
      have hlt := mkd_lt h1
      rw [← h] at hlt
      simpa [stepM] using hlt
    rw [h] at hi; exact hi
theorem mono_M {l : List GNode} {m m' : List Bool} (h : (List.range l.length).all (fun k => !mkd m k || mkd m' k) = true) (hl : m.length = l.length) : ∀ k, mkd m k = true → mkd m' k = true := by
  intro k hk
  have hlt := mkd_lt hk
  rw [List.all_eq_true] at h
  have := h k (by simp; omega)
  rw [hk] at this; simpa using this

theorem totalC_mono {l : List GNode} {x y : List Int} (h : ∀ r ∈ x, r ∈ y) : totalC l x ≤ totalC l y := by
  refine sumOn_mono (fun i _ => (costN_bound _).1) (fun i _ hi => ?_)
  rw [inReach_iff] at hi ⊢
  induction hi with
  | root h1 h2 => exact .root (h _ h1) h2
  | kid _ h2 h3 ih => exact .kid (ih (NReach.lt (by assumption))) h2 h3
theorem totalC_le {l : List GNode} {x y z : List Int} (h : ∀ r ∈ z, r ∈ x ∨ r ∈ y) : totalC l z ≤ totalC l x + totalC l y := by
  refine sumOn_or (fun i _ => (costN_bound _).1) (fun i _ hi => ?_)
  rw [inReach_iff] at hi ⊢
  rw [inReach_iff]
  induction hi with
  | root h1 h2 =>
    rcases h _ h1 with h3 | h3
    · exact .inl (.root h3 h2)
    · exact .inr (.root h3 h2)
  | kid hr h2 h3 ih =>
    rcases ih (NReach.lt hr) with h4 | h4
    · exact .inl (.kid h4 h2 h3)
    · exact .inr (.kid h4 h2 h3)
theorem totalC_bound {l : List GNode} {x : List Int} : 0 ≤ totalC l x ∧ totalC l x ≤ 20 * l.length := sumOn_bound (fun i _ => costN_bound _) (by omega)
/-- The example's nodes. -/
def exN : List GNode := [⟨2, 0, []⟩, ⟨4, 0, [0, 0]⟩, ⟨6, 0, [1, 1]⟩, ⟨7, 0, [0, 1]⟩]
theorem ex1 : totalC exN [1] = 3 := by rw [totalC_eval (n := 4) (by decide) (mono_M (l := exN) (by decide) (by decide))]; decide
theorem ex2 : totalC exN [2] = 7 := by rw [totalC_eval (n := 4) (by decide) (mono_M (l := exN) (by decide) (by decide))]; decide
theorem ex23 : totalC exN [2, 3] = 27 := by rw [totalC_eval (n := 4) (by decide) (mono_M (l := exN) (by decide) (by decide))]; decide
theorem ex0 : totalC exN [] = 0 := by rw [totalC_eval (n := 4) (by decide) (mono_M (l := exN) (by decide) (by decide))]; decide
end Go.Proofs.Ytmicmlcfbmphfaa.Ae
