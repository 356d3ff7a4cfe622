/- The cost model in plain Lean: what depends on what, and what it costs together.
   No conditions beyond those of each lemma. -/
import Derived.Test.YtmicmlcfbmphfaaAeAuto
set_option linter.unusedSimpArgs false
set_option linter.unusedVariables false
set_option linter.unnecessarySimpa false
namespace Go.Proofs.Ytmicmlcfbmphfaa.Ae

/-- The cost of an operation. -/
def costN (op : Int) : Int :=
  if op = 1 ∨ op = 2 ∨ op = 24 then 1
  else if op = 23 ∨ op = 6 ∨ op = 28 then 4
  else if op = 30 then 12
  else if op = 31 then 6
  else if op = 7 ∨ op = 8 then 20
  else if op = 22 ∨ op = 27 then 3
  else if op = 4 ∨ op = 5 ∨ op = 9 ∨ op = 10 ∨ op = 11 ∨ op = 12 ∨ op = 13 ∨ op = 14 ∨ op = 15 ∨ op = 16 ∨ op = 17 ∨ op = 18 ∨ op = 19 ∨ op = 20 ∨ op = 21 ∨ op = 29 then 2
  else 0

theorem costN_bound (op : Int) : 0 ≤ costN op ∧ costN op ≤ 20 := by
  unfold costN; repeat' split
  all_goals decide

abbrev nodeAt (l : List GNode) (i : Nat) : GNode := l.getD i default

inductive NReach (l : List GNode) (roots : List Int) : Nat → Prop where
  | root {i : Nat} : (i : Int) ∈ roots → i < l.length → NReach l roots i
  | kid {i k : Nat} : NReach l roots i → (k : Int) ∈ (nodeAt l i).kids → k < l.length → NReach l roots k

theorem NReach.lt {l : List GNode} {roots : List Int} {i : Nat} (h : NReach l roots i) : i < l.length := by cases h <;> assumption

/-- The sum of a cost over the places that f marks. -/
def sumOn (c : Nat → Int) (f : Nat → Bool) : Nat → Int
  | 0 => 0
  | n + 1 => sumOn c f n + if f n = true then c n else 0

theorem sumOn_congr {c : Nat → Int} {f g : Nat → Bool} : ∀ {n : Nat}, (∀ i, i < n → f i = g i) → sumOn c f n = sumOn c g n
  | 0, _ => rfl
  | n + 1, h => by simp only [sumOn]; rw [sumOn_congr (fun i hi => h i (by omega)), h n (by omega)]

theorem sumOn_set {c : Nat → Int} {f g : Nat → Bool} {k : Nat} (hf : f k = false) (hg : g k = true) : ∀ {n : Nat}, k < n → (∀ i, i < n → i ≠ k → g i = f i) → sumOn c g n = sumOn c f n + c k
  | 0, hk, _ => by omega
  | n + 1, hk, h => by
    simp only [sumOn]
    by_cases hn : n = k
    · subst hn
      rw [sumOn_congr (f := g) (g := f) (fun i hi => h i (by omega) (by omega)), hf, hg]; simp
    · rw [sumOn_set hf hg (by omega) (fun i hi hne => h i (by omega) hne), h n (by omega) hn]; omega

theorem sumOn_bound {c : Nat → Int} {f : Nat → Bool} {b : Int} : ∀ {n : Nat}, (∀ i, i < n → 0 ≤ c i ∧ c i ≤ b) → 0 ≤ b → 0 ≤ sumOn c f n ∧ sumOn c f n ≤ b * n
  | 0, _, _ => by simp [sumOn]
  | n + 1, h, hb => by
    have ih := sumOn_bound (c := c) (f := f) (n := n) (fun i hi => h i (by omega)) hb
    have hn := h n (by omega)
    simp only [sumOn]
    have : b * ((n + 1 : Nat) : Int) = b * n + b := by rw [Int.natCast_add, Int.mul_add]; simp
    split <;> omega

theorem sumOn_mono {c : Nat → Int} {f g : Nat → Bool} : ∀ {n : Nat}, (∀ i, i < n → 0 ≤ c i) → (∀ i, i < n → f i = true → g i = true) → sumOn c f n ≤ sumOn c g n
  | 0, _, _ => by simp [sumOn]
  | n + 1, h, k => by
    have ih := sumOn_mono (c := c) (f := f) (g := g) (n := n) (fun i hi => h i (by omega)) (fun i hi => k i (by omega))
    have hn := h n (by omega)
    have kn := k n (by omega)
    simp only [sumOn]
    by_cases hf : f n = true
    · rw [if_pos hf, if_pos (kn hf)]; omega
    · rw [if_neg hf]; split <;> omega

theorem sumOn_or {c : Nat → Int} {f g u : Nat → Bool} : ∀ {n : Nat}, (∀ i, i < n → 0 ≤ c i) → (∀ i, i < n → u i = true → f i = true ∨ g i = true) → sumOn c u n ≤ sumOn c f n + sumOn c g n
  | 0, _, _ => by simp [sumOn]
  | n + 1, h, k => by
    have ih := sumOn_or (c := c) (f := f) (g := g) (u := u) (n := n) (fun i hi => h i (by omega)) (fun i hi => k i (by omega))
    have hn := h n (by omega)
    have kn := k n (by omega)
    simp only [sumOn]
    by_cases hu : u n = true
    · rw [if_pos hu]
      rcases kn hu with h1 | h1
      · rw [if_pos h1]; split <;> omega
      · rw [if_pos h1]; split <;> omega
    · rw [if_neg hu]; split <;> split <;> omega

noncomputable def inReach (l : List GNode) (roots : List Int) (i : Nat) : Bool := @decide (NReach l roots i) (Classical.propDecidable _)
theorem inReach_iff {l : List GNode} {roots : List Int} {i : Nat} : inReach l roots i = true ↔ NReach l roots i := by
  unfold inReach; simp

abbrev costAt (l : List GNode) (i : Nat) : Int := costN (nodeAt l i).op

/-- The cost of all nodes that the roots depend on. -/
noncomputable def totalC (l : List GNode) (roots : List Int) : Int := sumOn (costAt l) (inReach l roots) l.length

/-- Marks that hold the roots, stay within what is reached, and are closed, are what is reached. -/
theorem reach_marks {l : List GNode} {roots : List Int} {f : Nat → Bool} (h1 : ∀ i, f i = true → NReach l roots i) (h2 : ∀ i : Nat, (i : Int) ∈ roots → i < l.length → f i = true)
    (h3 : ∀ i k : Nat, f i = true → (k : Int) ∈ (nodeAt l i).kids → k < l.length → f k = true) (i : Nat) : f i = inReach l roots i := by
  have h4 : ∀ i, NReach l roots i → f i = true := by
    intro i h
    induction h with
    | root h hl => exact h2 _ h hl
    | kid _ hk hl ih => exact h3 _ _ ih hk hl
  cases hf : f i with
  | true => exact (inReach_iff.2 (h1 i hf)).symm
  | false =>
    cases hr : inReach l roots i with
    | false => rfl
    | true => rw [h4 i (inReach_iff.1 hr)] at hf; cases hf

/-- What the unmarked places weigh. -/
def weight (w : Nat → Nat) (f : Nat → Bool) : Nat → Nat
  | 0 => 0
  | n + 1 => weight w f n + if f n = true then 0 else w n

theorem weight_congr {w : Nat → Nat} {f g : Nat → Bool} : ∀ {n : Nat}, (∀ i, i < n → f i = g i) → weight w f n = weight w g n
  | 0, _ => rfl
  | n + 1, h => by simp only [weight]; rw [weight_congr (fun i hi => h i (by omega)), h n (by omega)]

theorem weight_set {w : Nat → Nat} {f g : Nat → Bool} {k : Nat} (hf : f k = false) (hg : g k = true) : ∀ {n : Nat}, k < n → (∀ i, i < n → i ≠ k → g i = f i) → weight w g n + w k = weight w f n
  | 0, hk, _ => by omega
  | n + 1, hk, h => by
    simp only [weight]
    by_cases hn : n = k
    · subst hn
      rw [weight_congr (f := g) (g := f) (fun i hi => h i (by omega) (by omega)), hf, hg]; simp
    · rw [← weight_set hf hg (by omega) (fun i hi hne => h i (by omega) hne), h n (by omega) hn]; omega

theorem weight_le {w : Nat → Nat} {f g : Nat → Bool} : ∀ {n : Nat}, (∀ i, i < n → f i = true → g i = true) → weight w g n ≤ weight w f n
  | 0, _ => Nat.le_refl _
  | n + 1, h => by
    have := weight_le (w := w) (f := f) (g := g) (n := n) (fun i hi => h i (by omega))
    have hn := h n (by omega)
    simp only [weight]
    by_cases hf : f n = true
    · rw [if_pos hf, if_pos (hn hf)]; omega
    · rw [if_neg hf]; split <;> omega

abbrev mkd (ins : List Bool) (i : Nat) : Bool := ins.getD i default
theorem mkd_set {ins : List Bool} {q i : Nat} (h : q < ins.length) : mkd (ins.set q true) i = if i = q then true else mkd ins i := by
  simp only [mkd]
  rw [List.getD_eq_getElem?_getD, List.getD_eq_getElem?_getD, List.getElem?_set]
  by_cases h2 : q = i
  · subst h2; simp [h]
  · rw [if_neg h2, if_neg (fun e => h2 e.symm)]
theorem mkd_lt {ins : List Bool} {i : Nat} (h : mkd ins i = true) : i < ins.length := by
  rcases Nat.lt_or_ge i ins.length with h' | h'
  · exact h'
  · simp only [mkd] at h; rw [List.getD_eq_getElem?_getD, List.getElem?_eq_none h'] at h; cases h
theorem mkd_rep {n i : Nat} : mkd (List.replicate n false) i = false := by
  simp only [mkd]; rw [List.getD_eq_getElem?_getD, List.getElem?_replicate]; split <;> rfl

/-- Is closed under operands. -/
def ClosedP (l : List GNode) (p : Nat → Prop) : Prop := ∀ i k : Nat, p i → (k : Int) ∈ (nodeAt l i).kids → k < l.length → p k
/-- More marks, none but those that must be. -/
structure MarkR (l : List GNode) (ins0 ins : List Bool) : Prop where
  len : ins.length = l.length
  sub : ∀ i, mkd ins0 i = true → mkd ins i = true
  least : ∀ p : Nat → Prop, (∀ i, mkd ins0 i = true → p i) → ClosedP l p → ∀ i, mkd ins i = true → p i
theorem MarkR.refl {l : List GNode} {ins : List Bool} (h : ins.length = l.length) : MarkR l ins ins := ⟨h, fun _ h => h, fun _ h _ => h⟩
theorem MarkR.set {l : List GNode} {ins0 ins : List Bool} (h : MarkR l ins0 ins) {i q : Nat} (hi : mkd ins i = true) (hq : (q : Int) ∈ (nodeAt l i).kids) (hl : q < l.length) : MarkR l ins0 (ins.set q true) := by
  have hq' : q < ins.length := by rw [h.len]; exact hl
  refine ⟨by simpa using h.len, fun j hj => ?_, fun p h1 h2 j hj => ?_⟩
  · rw [mkd_set hq']; split
    · rfl
    · exact h.sub j hj
  · rw [mkd_set hq'] at hj
    by_cases e : j = q
    · subst e; exact h2 i j (h.least p h1 h2 i hi) hq hl
    · rw [if_neg e] at hj; exact h.least p h1 h2 j hj
def unm (l : List GNode) (ins : List Bool) : Nat := weight (fun _ => 1) (mkd ins) l.length
theorem unm_set {l : List GNode} {ins : List Bool} {q : Nat} (h : ins.length = l.length) (hq : q < l.length) (hf : mkd ins q = false) : unm l (ins.set q true) + 1 = unm l ins := by
  have hq' : q < ins.length := by omega
  exact weight_set (w := fun _ => 1) (f := mkd ins) (g := mkd (ins.set q true)) hf (by rw [mkd_set hq']; simp) hq (fun i _ hne => by rw [mkd_set hq', if_neg hne])
def ClosedAt (l : List GNode) (ins : List Bool) (i : Nat) : Prop := mkd ins i = true → ∀ k : Nat, (k : Int) ∈ (nodeAt l i).kids → k < l.length → mkd ins k = true
end Go.Proofs.Ytmicmlcfbmphfaa.Ae
