/- What the generator of nodes makes, in plain Lean.
   No conditions beyond those of each lemma. -/
import Derived.Test.YtmicmlcfbmphfaaAeNodes
set_option linter.unusedSimpArgs false
set_option linter.unusedVariables false
set_option linter.unnecessarySimpa false
namespace Go.Proofs.Ytmicmlcfbmphfaa.Ae

/-- The operations that are generated behind the first three nodes. -/
def genOp (op : Int) : Prop := op = 1 ∨ (4 ≤ op ∧ op ≤ 24) ∨ op = 27 ∨ op = 28 ∨ op = 29

/-- A node that may be put behind out. -/
structure NodeGen (out : List GNode) (n : GNode) : Prop where
  op : genOp n.op
  len : (n.kids.length : Int) = (arityN n.op).1
  kid : ∀ j, j < n.kids.length → 0 ≤ n.kids.getD j default ∧ n.kids.getD j default < out.length ∧ (sortsN out).getD (n.kids.getD j default).toNat default = opndSort n.op j
  imm : validImmN n.op n.imm = true
  r64 : R64 n.imm

theorem wordN_r64 {n raw : Int} (h : R64 raw) : R64 (wordN n raw) := by
  unfold wordN
  split
  · have key : ∀ x ∈ words, R64 x := by unfold words R64; decide
    rename_i h10
    have hlt : (n % 24).toNat < words.length := by have : words.length = 10 := rfl; omega
    have := key (words.getD (n % 24).toNat 0) (by rw [List.getD_eq_getElem?_getD, List.getElem?_eq_getElem hlt]; exact List.getElem_mem _)
    exact this
  · split
    · unfold R64; omega
    · exact h

/-- What 64 bits hold, part by part. -/
structure NR (n : GNode) : Prop where
  op : R64 n.op
  imm : R64 n.imm
  kids : ∀ q ∈ n.kids, R64 q

inductive GN : List GNode → Prop where
  | base : GN [⟨2, 0, []⟩, ⟨2, 1, []⟩, ⟨26, 0, []⟩]
  | step {out : List GNode} {n : GNode} : GN out → NodeGen out n → n ∉ out → GN (out ++ [n])

theorem nodeSortN_other {l l' : List GNode} {n : GNode} {k : List Int} (h : n.op ≠ 25) : nodeSortN l n k = nodeSortN l' n k := by
  unfold nodeSortN; simp only [h, if_false]

theorem sortStep_other {l l' : List GNode} {out : List Int} {n : GNode} (h : n.op ≠ 25) : sortStep l out n = sortStep l' out n := by
  unfold sortStep; rw [nodeSortN_other h]

theorem foldl_other {l l' : List GNode} : ∀ {xs : List GNode} {acc : List Int}, (∀ n ∈ xs, n.op ≠ 25) → xs.foldl (sortStep l) acc = xs.foldl (sortStep l') acc
  | [], _, _ => rfl
  | x :: xs, acc, h => by
    simp only [List.foldl_cons]
    rw [sortStep_other (h x (by simp)), foldl_other (fun n hn => h n (by simp [hn]))]

theorem GN.noLoop {l : List GNode} (h : GN l) : ∀ n ∈ l, n.op ≠ 25 := by
  induction h with
  | base => intro n hn; simp at hn; rcases hn with rfl | rfl | rfl <;> decide
  | step _ hn _ ih =>
    intro n hm
    rw [List.mem_append] at hm
    rcases hm with hm | hm
    · exact ih n hm
    · simp only [List.mem_singleton] at hm; subst hm
      have := hn.op; unfold genOp at this
      omega

theorem sortsN_push {out : List GNode} {n : GNode} (h : ∀ m ∈ out ++ [n], m.op ≠ 25) : sortsN (out ++ [n]) = sortStep out (sortsN out) n := by
  unfold sortsN
  rw [List.foldl_append, foldl_other (l := out ++ [n]) (l' := out) (xs := out) (fun m hm => h m (by simp [hm]))]
  simp only [List.foldl_cons, List.foldl_nil]
  exact sortStep_other (h n (by simp))

theorem sortsN_len {l : List GNode} : (sortsN l).length = l.length := by rw [sortsN, sortsN_length]; simp

theorem sortsN_push_get {out : List GNode} {n : GNode} (h : ∀ m ∈ out ++ [n], m.op ≠ 25) {i : Nat} (hi : i < out.length) : (sortsN (out ++ [n])).getD i default = (sortsN out).getD i default := by
  rw [sortsN_push h, sortStep, List.getD_eq_getElem?_getD, List.getElem?_append_left (by rw [sortsN_len]; exact hi), ← List.getD_eq_getElem?_getD]

theorem GN.three {l : List GNode} (h : GN l) : 3 ≤ l.length := by
  induction h with
  | base => simp
  | step _ _ _ ih => simp; omega

/-- There are values and states among the generated nodes. -/
theorem GN.some {l : List GNode} (h : GN l) : (sortsN l).getD 0 default = 1 ∧ (sortsN l).getD 2 default = 2 := by
  induction h with
  | base => decide
  | step h hn hd ih =>
    have hno := (GN.step h hn hd).noLoop
    have := h.three
    rw [sortsN_push_get hno (by omega), sortsN_push_get hno (by omega)]; exact ih

theorem GN.has {l : List GNode} (h : GN l) {op k : Int} : ∃ i, i < l.length ∧ (sortsN l).getD i default = opndSort op k := by
  have h3 := h.three
  obtain ⟨h1, h2⟩ := h.some
  unfold opndSort
  split
  · exact ⟨2, by omega, h2⟩
  · exact ⟨0, by omega, h1⟩

theorem GN.kids {l : List GNode} (h : GN l) : ∀ n ∈ l, n.kids.length ≤ 3 := by
  induction h with
  | base => intro n hn; simp at hn; rcases hn with rfl | rfl | rfl <;> simp
  | step _ hn _ ih =>
    intro n hm
    rw [List.mem_append] at hm
    rcases hm with hm | hm
    · exact ih n hm
    · simp only [List.mem_singleton] at hm; subst hm
      have := hn.len
      have h3 : (arityN n.op).1 ≤ 3 := by unfold arityN; (repeat' split) <;> decide
      omega

theorem GN.nr {l : List GNode} (h : GN l) (hl : l.length ≤ 1000000) : ∀ n ∈ l, NR n := by
  induction h with
  | base => intro n hn; simp at hn; rcases hn with rfl | rfl | rfl <;> exact ⟨by unfold R64; decide, by unfold R64; decide, by simp⟩
  | step _ hn _ ih =>
    intro n hm
    rw [List.mem_append] at hm
    simp only [List.length_append, List.length_cons, List.length_nil] at hl
    rcases hm with hm | hm
    · exact ih (by omega) n hm
    · simp only [List.mem_singleton] at hm; subst hm
      have := hn.op
      refine ⟨by unfold genOp at this; unfold R64; omega, hn.r64, fun q hq => ?_⟩
      obtain ⟨j, hj⟩ := List.getElem?_of_mem hq
      have hlt : j < n.kids.length := (List.getElem?_eq_some_iff.1 hj).1
      have := hn.kid j hlt
      rw [List.getD_eq_getElem?_getD, hj] at this
      simp only [Option.getD_some] at this
      unfold R64; omega

theorem kids_of_all {l : List GNode} {b : Nat} (h : ∀ n ∈ l, n.kids.length ≤ b) (i : Nat) : (nodeAt l i).kids.length ≤ b := by
  rcases Nat.lt_or_ge i l.length with hi | hi
  · exact h _ (getD_mem' hi)
  · simp only [nodeAt]; rw [List.getD_eq_getElem?_getD, List.getElem?_eq_none hi]; exact Nat.zero_le _
end Go.Proofs.Ytmicmlcfbmphfaa.Ae
