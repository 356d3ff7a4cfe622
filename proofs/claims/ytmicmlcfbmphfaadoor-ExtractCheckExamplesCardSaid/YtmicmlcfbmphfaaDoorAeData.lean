/- The program's data as the interpreter holds it: lists of integers, nodes, steps, graphs.
   No conditions beyond those of each lemma. -/
import Derived.Test.YtmicmlcfbmphfaaDoorAeSym2
set_option linter.unusedSimpArgs false
set_option linter.unusedVariables false
set_option linter.unnecessarySimpa false
namespace Go.Proofs.YtmicmlcfbmphfaaDoor.Ae
open Go

abbrev I (n : Int) : AV := .int .i64 n
/-- A slice of integers. -/
abbrev vI (l : List Int) (tk : Tk) : AV := .vs (l.map (AV.int .i64)) tk
abbrev vB (l : List Bool) (tk : Tk) : AV := .vs (l.map AV.bool) tk

/-- An integer that 64 bits hold. -/
def R64 (n : Int) : Prop := -9223372036854775808 ≤ n ∧ n < 9223372036854775808

structure GNode where
  op : Int
  imm : Int
  kids : List Int
  deriving DecidableEq, Inhabited

def nodeV (n : GNode) : AV := .agg [I n.op, I n.imm, vI n.kids .dead]
abbrev vN (l : List GNode) (tk : Tk) : AV := .vs (l.map nodeV) tk

@[go_sem] theorem cells_node {n : GNode} : (nodeV n).cells = [I n.op, I n.imm, vI n.kids .dead] := rfl
@[go_sem] theorem weak_node {n : GNode} : (nodeV n).weak = nodeV n := rfl
@[go_sem] theorem noTup_node {n : GNode} : (nodeV n).noTup = true := rfl

theorem get_of_lt {α : Type} {l : List α} {i : Nat} (h : i < l.length) : ∃ x, l[i]? = some x := ⟨_, List.getElem?_eq_getElem h⟩

/-- The interpreter's state goes on: what stood stands. -/
def Grew (S S' : St) : Prop := ∃ X, S' = S ++ X
theorem Grew.refl {S : St} : Grew S S := ⟨[], by simp⟩
theorem Grew.trans {S S1 S2 : St} (h : Grew S S1) (k : Grew S1 S2) : Grew S S2 := by
  obtain ⟨X, rfl⟩ := h; obtain ⟨Y, rfl⟩ := k; exact ⟨X ++ Y, by simp⟩
theorem Grew.get {S S' : St} (h : Grew S S') {b : Nat} {o : AObj} (hb : S[b]? = some o) : S'[b]? = some o := by
  obtain ⟨X, rfl⟩ := h
  rw [List.getElem?_append_left (lt_of_get hb)]; exact hb
theorem Grew.le {S S' : St} (h : Grew S S') : S.length ≤ S'.length := by obtain ⟨X, rfl⟩ := h; simp
theorem Grew.push {S S' : St} (h : Grew S S') (X : St) : Grew S (S' ++ X) := h.trans ⟨X, rfl⟩
theorem Grew.set {S S' : St} (h : Grew S S') {b : Nat} (hb : S.length ≤ b) (o : AObj) : Grew S (S'.set b o) := by
  obtain ⟨X, rfl⟩ := h
  exact ⟨X.set (b - S.length) o, by rw [List.set_append_right _ _ hb]⟩

/-- A slice that was begun behind S0, to which one may append. -/
def Grow (S0 S : St) : Tk → Prop
  | .nil => True
  | .exact => True
  | .dead => False
  | .live b => S0.length ≤ b ∧ S[b]? = some .tok

theorem Grow.later {S0 S S' : St} {tk : Tk} (h : Grow S0 S tk) (g : Grew S S') : Grow S0 S' tk := by
  cases tk with
  | live b => exact ⟨h.1, g.get h.2⟩
  | _ => exact h

section
variable {P : Program}
/-- append to such a slice. -/
theorem append_grow {S0 S : St} {t u e : TypeId} {sz bytes : Nat} {z : AV} {es ws new : List AV} {tk : Tk} {x : AV} (h1 : P.underlying t = some (.slice e)) (h1' : P.underlying u = some (.slice e)) (h2 : sizeT P e = some sz) (h3 : bytesT P e = some bytes)
    (h4 : zeroT P e = some z) (h5 : z.cells.length = sz) (h6 : sz ≠ 0 ∧ bytes ≠ 0) (hx : elemsOf S x = some new) (hn : allSize sz new = true) (he : allSize sz es = true) (hroom : roomOk (es.length + new.length) bytes = true)
    (hw : new.map AV.weak = ws) (hg : Grow S0 S tk) (hS : Grew S0 S) :
    W (appendT P false S t u (.vs es tk) x) (fun p => ∃ tk', p.1 = .vs (es ++ ws) tk' ∧ Grow S0 p.2 tk' ∧ Grew S0 p.2 ∧ (∀ b o, S[b]? = some o → (match tk with | .live b' => b ≠ b' | _ => True) → p.2[b]? = some o)) := by
  subst hw
  simp only [appendT, h1']
  simp only [appendP, h1, h2, h3, h4, hx, Option.bind_some]
  rw [if_neg (by simp [hn, h5, h6.1, h6.2])]
  simp only [hroom, Bool.true_eq_false, if_false]
  cases new with
  | nil =>
    simp only [W_some]
    exact ⟨tk, by simp, hg, hS, fun b o hb _ => hb⟩
  | cons n r =>
    simp only [he, Bool.true_eq_false, if_false]
    cases tk with
    | dead => exact absurd hg (by simp [Grow])
    | live b =>
      obtain ⟨g1, g2⟩ := hg
      simp only [g2, growV, W_some]
      refine ⟨_, rfl, ⟨?_, ?_⟩, (hS.set g1 .dead).push _, fun c o hc hne => ?_⟩
      · rw [List.length_set]; exact hS.le
      · rw [List.getElem?_append_right (by simp)]; simp
      · rw [List.getElem?_append_left (by rw [List.length_set]; exact lt_of_get hc), List.getElem?_set, if_neg (fun h => hne h.symm)]; exact hc
    | nil =>
      simp only [growV, W_some, Bool.false_eq_true, if_false]
      refine ⟨_, rfl, ⟨hS.le, ?_⟩, hS.push _, fun c o hc _ => (Grew.push Grew.refl _).get hc⟩
      rw [List.getElem?_append_right (by simp)]; simp
    | exact =>
      simp only [growV, W_some, Bool.false_eq_true, if_false]
      refine ⟨_, rfl, ⟨hS.le, ?_⟩, hS.push _, fun c o hc _ => (Grew.push Grew.refl _).get hc⟩
      rw [List.getElem?_append_right (by simp)]; simp
end

/-- A run of the interpreter, as it stands. -/
theorem W_run {P : Program} {gl : Gl} {H : Nat → Hint} {k f : Nat} {as : List AV} {S : St} {r : AV × St} {Q : AV × St → Prop} (h : acall P gl H k f as S = some r) (hq : Q r) : W (callL P gl H f as S) Q := ⟨r, callL_iff.2 ⟨k, h⟩, hq⟩

def allP (p : Nat → Prop) : List Nat → Prop
  | [] => True
  | n :: r => p n ∧ allP p r
theorem allP_get {p : Nat → Prop} : ∀ {l : List Nat}, allP p l → ∀ n ∈ l, p n
  | _ :: _, h, n, hn => by
    rcases List.mem_cons.1 hn with rfl | hn
    · exact h.1
    · exact allP_get h.2 n hn

theorem allSize_map {α : Type} {f : α → AV} {sz : Nat} (h : ∀ a, (f a).cells.length = sz) : ∀ l : List α, allSize sz (l.map f) = true
  | [] => rfl
  | a :: r => by
    simp only [List.map_cons, allSize, h a]
    have : Nat.beq sz sz = true := by simp
    rw [this]; exact allSize_map h r
end Go.Proofs.YtmicmlcfbmphfaaDoor.Ae
