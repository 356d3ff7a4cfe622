/- The law CostMonotone holds: in every world, under every choice the runtime may make, its call returns true and keeps what it must.
   Conditions: none beyond the given row. -/
import Derived.Test.YtmicmlcfbmphfaaK10
import Derived.Test.YtmicmlcfbmphfaaAeArgs
import Derived.Test.YtmicmlcfbmphfaaRows
import Derived.WalkKit
import Derived.ProofKit
import Derived.OpenShut
import Derived.ShutString
import Derived.ChangeOld
import Derived.Below
import Derived.SizedLaws
import Derived.KernelRfl
set_option linter.unusedSimpArgs false
set_option linter.unusedVariables false
set_option linter.unnecessarySimpa false
namespace Go.Proofs.Ytmicmlcfbmphfaa
open Go.ChangeShapes Go.WideShapes Go.ChangeAt Go.RowKit Go.Proofs.Ytmicmlcfbmphfaa.Ae
theorem mixed : Try.prog.follows .mixedOrders = true := by kernel_rfl
theorem laidOut : laidOutB Try.prog = true := by kernel_rfl
theorem cellsInt : Try.prog.cellsOf 3 = 1 := by kernel_rfl
theorem bytesInt : Try.prog.bytesOf 3 = 8 := by kernel_rfl
theorem own : ownKnob Try.prog.godebug = none := by kernel_rfl
set_option maxRecDepth 100000 in
theorem lifted (os : Os) (started : os.Started) (H : Type) (enc : TypeId × Value → H) :
    ReturnsInHanded {} Try.checked os 5 .any (Rows.costMonotoneSpec.pre6 enc Try.prog Try.f5 Rows.costMonotoneRow.domain false) (Rows.costMonotoneSpec.post enc Try.prog Try.f5 false true false false) := by
  refine returnsInHanded_of_change_sized (C := Try.checked) own started (by kernel_rfl) Try.func5
    (ChangeSpec.witness6 (enc := enc) (C := Try.checked) false ⟨#[], #[.slice none 0 0, .slice none 0 0, .slice none 0 0], []⟩ 8 (by kernel_rfl) (by kernel_rfl) (by kernel_rfl) (by kernel_rfl)) ?_
  intro W base args ds gs before hval0 hW hcnd hsz0 _
  have hsz : (DataW.weightsEach Try.prog (Try.f5.params.toList ++ Rows.costMonotoneSpec.plain.varTypes Try.prog) (ds ++ gs)).all (· ≤ reachBytes) = true := hsz0
  have hval : ∀ (j : Nat) t v, Try.f5.params[j]? = some t → args[j]? = some v → Value.okWide Try.prog W .any base t v := hval0
  have hW' := hW
  obtain ⟨p, q, hA0, hV, rfl, hfz, hnd⟩ := hW
  have hA : DataW.TrodAll enc Try.prog W 0 (fun _ => true) true Try.f5.params.toList args.toList ds p := hA0
  rw [Try.params5] at hA hval hsz
  obtain ⟨v0, v1, v2, d0, d1, d2, p0, p1, p2, rfl, rfl, rfl, h0, h1, h2⟩ := trodAll_three hA
  obtain ⟨rfl, rfl⟩ := trodVars_none hV
  obtain ⟨a0, len0, cap0, rfl⟩ := okWide_slice Try.underlying22 (hval 0 22 v0 rfl rfl)
  obtain ⟨a1, len1, cap1, rfl⟩ := okWide_slice Try.underlying22 (hval 1 22 v1 rfl rfl)
  obtain ⟨a2, len2, cap2, rfl⟩ := okWide_slice Try.underlying22 (hval 2 22 v2 rfl rfl)
  clear hA0 hval0 hsz0
  simp only [List.append_nil] at hW'
  have hlt : ∀ x ∈ p0 ++ p1 ++ p2, x.block < W.heap.size := fun x hx => by simpa using hW'.lt x hx
  have hl0 : ∀ x ∈ p0, x.block < W.heap.size := fun x hx => hlt x (by simp [hx])
  have hl1 : ∀ x ∈ p1, x.block < W.heap.size := fun x hx => hlt x (by simp [hx])
  have hl2 : ∀ x ∈ p2, x.block < W.heap.size := fun x hx => hlt x (by simp [hx])
  obtain ⟨zs0, r0, q0, m0, s0⟩ := arg_ints Try.underlying22 Try.underlying3 cellsInt h0 hl0
  obtain ⟨zs1, r1, q1, m1, s1⟩ := arg_ints Try.underlying22 Try.underlying3 cellsInt h1 hl1
  obtain ⟨zs2, r2, q2, m2, s2⟩ := arg_ints Try.underlying22 Try.underlying3 cellsInt h2 hl2
  have bound : ∀ (j : Nat) (d : DataW H) (zs : List Int), ([22, 22, 22] ++ Rows.costMonotoneSpec.plain.varTypes Try.prog)[j]? = some 22 → ([d0, d1, d2] ++ [])[j]? = some d → (zs = [] ∨ ∃ elems spare, d = .slice elems spare ∧ elems.length = zs.length) → zs.length ≤ 2^44 := by
    intro j d zs ht hd hs
    rcases hs with rfl | ⟨elems, spare, rfl, he⟩
    · simp
    · have := sized_slice hsz ht hd Try.underlying22
      rw [bytesInt] at this
      have h47 := reachBytes_lt
      omega
  have w := costMonotone (tl := .dead) (tka := .dead) (tkb := .dead) (S := []) (bound 0 d0 zs0 rfl rfl s0) (bound 1 d1 zs1 rfl rfl s1) (bound 2 d2 zs2 rfl rfl s2) q0
  have hargs : ∀ (W' : World), Below W.heap.size W W' → DataW.TrodAll enc Try.prog W' 0 (fun b => decide (b < W.heap.size)) true [22, 22, 22] [.slice a0 len0 cap0, .slice a1 len1 cap1, .slice a2 len2 cap2] [d0, d1, d2] (p0 ++ (p1 ++ p2)) :=
    fun W' hn => trodAll_mk3 (Below.trod laidOut (by kernel_rfl) (of_decide_eq_true (by kernel_rfl)) h0 hn hl0) (Below.trod laidOut (by kernel_rfl) (of_decide_eq_true (by kernel_rfl)) h1 hn hl1) (Below.trod laidOut (by kernel_rfl) (of_decide_eq_true (by kernel_rfl)) h2 hn hl2)
  refine (law_walk mixed w W #[.slice a0 len0 cap0, .slice a1 len1 cap1, .slice a2 len2 cap2] (relL_cons r0 (relL_cons r1 (relL1 r2)))).mono fun e W' ⟨he, bel⟩ => ?_
  subst he
  exact ⟨_, rfl, _, _, _, [], _, [], hW', trodAll_mk1 (shut_bool Try.underlying4 _), hargs W' bel, rfl, bel.frame _, fun h => by cases h⟩
theorem over : Rows.costMonotoneRow.holds Try.pinned (OpenSpec.ofChange Rows.costMonotoneSpec) :=
  OpenClaim.holds_of_wide 5 Try.f5 rfl rfl rfl rfl rfl rfl rfl ⟨rfl, rfl, rfl, rfl, rfl⟩ rfl rfl rfl rfl rfl (by kernel_rfl) Try.func5 (by kernel_rfl)
    (of_decide_eq_true (by kernel_rfl)) (by unfold Func.isWrapper; first | (rw [if_pos (by decide +kernel)]; kernel_rfl) | (rw [if_neg (by decide +kernel)]; exact ⟨rfl, rfl⟩))
    (fun os started H enc _ => lifted os started H enc)
theorem costMonotone_holds : Rows.CostMonotoneSaid := over
#print axioms costMonotone_holds
end Go.Proofs.Ytmicmlcfbmphfaa
