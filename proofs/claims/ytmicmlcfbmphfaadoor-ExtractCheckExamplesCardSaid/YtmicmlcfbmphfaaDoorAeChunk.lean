/- A long run in parts: calls that are known are looked up.
   No conditions beyond those of each lemma. -/
import Derived.Test.YtmicmlcfbmphfaaDoorAeLim
import Derived.Test.YtmicmlcfbmphfaaDoorAeLaw
set_option linter.unusedSimpArgs false
set_option linter.unusedVariables false
set_option linter.unnecessarySimpa false
namespace Go.Proofs.YtmicmlcfbmphfaaDoor.Ae
open Go Go.RowKit

def sameE : List (AV × AV) → List (AV × AV) → Bool
  | [], [] => true
  | (a, b) :: r, (c, d) :: s => a.same c && b.same d && sameE r s
  | _, _ => false
def AObj.same : AObj → AObj → Bool
  | .cells n es, .cells m es' => Nat.beq n m && sameL es es'
  | .map es, .map es' => sameE es es'
  | .tok, .tok => true
  | .dead, .dead => true
  | _, _ => false
def sameS : St → St → Bool
  | [], [] => true
  | a :: r, b :: s => a.same b && sameS r s
  | _, _ => false
theorem sameE_eq : ∀ (a b : List (AV × AV)), sameE a b = true → a = b
  | [], [], _ => rfl
  | [], _ :: _, h => by simp [sameE] at h
  | _ :: _, [], h => by simp [sameE] at h
  | (a, b) :: r, (c, d) :: s, h => by
    simp only [sameE, Bool.and_eq_true] at h
    rw [same_eq a c h.1.1, same_eq b d h.1.2, sameE_eq r s h.2]
theorem AObj.same_eq : ∀ (a b : AObj), a.same b = true → a = b
  | .cells n es, b, h => by
    cases b <;> simp only [AObj.same, Bool.and_eq_true, Bool.false_eq_true] at h
    rw [Nat.eq_of_beq_eq_true h.1, sameL_eq es _ h.2]
  | .map es, b, h => by
    cases b <;> simp only [AObj.same, Bool.false_eq_true] at h
    rw [sameE_eq es _ h]
  | .tok, b, h => by cases b <;> simp_all [AObj.same]
  | .dead, b, h => by cases b <;> simp_all [AObj.same]
theorem sameS_eq : ∀ (a b : St), sameS a b = true → a = b
  | [], [], _ => rfl
  | [], _ :: _, h => by simp [sameS] at h
  | _ :: _, [], h => by simp [sameS] at h
  | a :: r, b :: s, h => by
    simp only [sameS, Bool.and_eq_true] at h
    rw [AObj.same_eq a b h.1, sameS_eq r s h.2]

/-- A call that is known. -/
structure Chunk where
  f : Nat
  args : List AV
  S : St
  r : AV × St
def Chunk.here (c : Chunk) (f : Nat) (args : List AV) (S : St) : Bool := match Nat.beq c.f f with
  | true => (match sameL c.args args with | true => sameS c.S S | false => false)
  | false => false
/-- The known calls. -/
def known : List Chunk → CallF
  | [], _, _, _ => none
  | c :: l, f, args, S => match c.here f args S with
    | true => some c.r
    | false => known l f args S
/-- A call, the known ones looked up. -/
def ocall (P : Program) (gl : Gl) (H : Nat → Hint) (l : List Chunk) : Nat → CallF
  | 0, _, _, _ => none
  | k + 1, f, args, S => match known l f args S with
    | some r => some r
    | none => (fbody P f).bind fun (fn, c) =>
      if fn.ntmps < args.length then none else
      (code P gl (ocall P gl H l k) (H f) k 0 c (params 0 args) S).bind fun
        | (.exit _, _, _) => none
        | (_, e, S) => (resOfs P e S fn.results.toList).map fun vs => (match vs with | [v] => v | vs => .tuple vs, S)
/-- A call itself, its inner ones looked up. -/
def ocall1 (P : Program) (gl : Gl) (H : Nat → Hint) (l : List Chunk) (k : Nat) : CallF := fun f args S => (fbody P f).bind fun (fn, c) =>
      if fn.ntmps < args.length then none else
      (code P gl (ocall P gl H l k) (H f) k 0 c (params 0 args) S).bind fun
        | (.exit _, _, _) => none
        | (_, e, S) => (resOfs P e S fn.results.toList).map fun vs => (match vs with | [v] => v | vs => .tuple vs, S)

section
variable {P : Program} {gl : Gl} {H : Nat → Hint} {M : Nat}
/-- The list's calls are what the program comes to. -/
def Good (P : Program) (gl : Gl) (H : Nat → Hint) (M : Nat) (l : List Chunk) : Prop := ∀ c ∈ l, acall P gl H M c.f c.args c.S = some c.r
theorem Good.nil : Good P gl H M [] := fun c h => by cases h
theorem Good.cons {c : Chunk} {l : List Chunk} (hc : acall P gl H M c.f c.args c.S = some c.r) (h : Good P gl H M l) : Good P gl H M (c :: l) := fun d hd => by
  rcases List.mem_cons.1 hd with rfl | hd
  · exact hc
  · exact h d hd
theorem Good.le {N : Nat} (hm : M ≤ N) {l : List Chunk} (h : Good P gl H M l) : Good P gl H N l := fun c hc => acall_le hm _ _ _ _ (h c hc)

theorem known_le : ∀ {l : List Chunk}, Good P gl H M l → Le (known l) (acall P gl H M)
  | [], _, _, _, _, _, h => by simp [known] at h
  | c :: l, hg, f, as, S, r, h => by
    unfold known at h
    split at h
    · rename_i hc
      cases h
      unfold Chunk.here at hc
      split at hc
      · rename_i h1
        split at hc
        · rename_i h2
          rw [← Nat.eq_of_beq_eq_true h1, ← sameL_eq _ _ h2, ← sameS_eq _ _ hc]
          exact hg c (List.mem_cons_self ..)
        · cases hc
      · cases hc
    · exact known_le (fun d hd => hg d (List.mem_cons_of_mem _ hd)) f as S r h

theorem ocall_le {l : List Chunk} (hg : Good P gl H M l) : ∀ k : Nat, Le (ocall P gl H l k) (acall P gl H (M + k))
  | 0, _, _, _, _, h => by simp [ocall] at h
  | k + 1, f, as, S, r, h => by
    unfold ocall at h
    split at h
    · rename_i hk
      cases h
      exact acall_le (by omega) _ _ _ _ (known_le hg f as S r hk)
    · rw [show M + (k + 1) = (M + k) + 1 from rfl, acall]
      simp only [Option.bind_eq_some_iff] at h ⊢
      obtain ⟨⟨fn, c⟩, hf, h⟩ := h
      refine ⟨_, hf, ?_⟩
      split at h
      · simp at h
      · rename_i hlen
        rw [if_neg hlen]
        simp only [Option.bind_eq_some_iff] at h ⊢
        obtain ⟨x, hx, h⟩ := h
        exact ⟨x, code_mono (ocall_le hg k) (by omega) c hx, h⟩
theorem ocall1_le {l : List Chunk} (hg : Good P gl H M l) (k : Nat) : Le (ocall1 P gl H l k) (acall P gl H (M + (k + 1))) := by
  intro f as S r h
  unfold ocall1 at h
  rw [show M + (k + 1) = (M + k) + 1 from rfl, acall]
  simp only [Option.bind_eq_some_iff] at h ⊢
  obtain ⟨⟨fn, c⟩, hf, h⟩ := h
  refine ⟨_, hf, ?_⟩
  split at h
  · simp at h
  · rename_i hlen
    rw [if_neg hlen]
    simp only [Option.bind_eq_some_iff] at h ⊢
    obtain ⟨x, hx, h⟩ := h
    exact ⟨x, code_mono (ocall_le hg k) (by omega) c hx, h⟩
/-- Does it come to the chunk's answer? -/
def goes (c : Chunk) : Option (AV × St) → Bool
  | some (v, S) => (match v.same c.r.1 with | true => sameS S c.r.2 | false => false)
  | none => false
theorem goes_eq {c : Chunk} {r : Option (AV × St)} (h : goes c r = true) : r = some c.r := by
  unfold goes at h
  split at h
  · split at h
    · rename_i h1
      rw [same_eq _ _ h1, sameS_eq _ _ h]
    · cases h
  · cases h
theorem chunk {l : List Chunk} {c : Chunk} (k : Nat) (hg : Good P gl H M l) (h : goes c (ocall1 P gl H l k c.f c.args c.S) = true) : acall P gl H (M + (k + 1)) c.f c.args c.S = some c.r := ocall1_le hg k _ _ _ _ (goes_eq h)
theorem isTrue_chunks {l : List Chunk} {f : Nat} (k : Nat) (hg : Good P gl H M l) (h : isTrue (ocall1 P gl H l k f [] []) = true) : isTrue (acall P gl H (M + (k + 1)) f [] []) = true := by
  obtain ⟨S', e⟩ := isTrue_some h
  rw [ocall1_le hg k _ _ _ _ e]; rfl
end
end Go.Proofs.YtmicmlcfbmphfaaDoor.Ae
