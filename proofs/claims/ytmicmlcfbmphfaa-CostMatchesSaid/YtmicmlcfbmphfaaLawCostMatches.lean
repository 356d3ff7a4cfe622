/- The law CostMatches holds: in every world, under every choice the runtime may make, its call returns true and keeps what it must.
   Conditions: none beyond the given row. -/
import Derived.Test.YtmicmlcfbmphfaaK11
import Derived.Test.YtmicmlcfbmphfaaAeArgs
import Derived.Test.YtmicmlcfbmphfaaRows
import Derived.WalkKit
import Derived.ProofKit
import Derived.OpenShut
import Derived.ShutString
import Derived.ChangeOld
import Derived.Below
import Derived.SizedLaws
import Derived.KernelRfl
set_option linter.unusedSimpArgs false
set_option linter.unusedVariables false
set_option linter.unnecessarySimpa false
namespace Go.Proofs.Ytmicmlcfbmphfaa
open Go.ChangeShapes Go.WideShapes Go.ChangeAt Go.RowKit Go.Proofs.Ytmicmlcfbmphfaa.Ae
theorem mixed : Try.prog.follows .mixedOrders = true := by kernel_rfl
theorem laidOut : laidOutB Try.prog = true := by kernel_rfl
theorem cellsInt : Try.prog.cellsOf 3 = 1 := by kernel_rfl
theorem bytesInt : Try.prog.bytesOf 3 = 8 := by kernel_rfl
theorem own : ownKnob Try.prog.godebug = none := by kernel_rfl
set_option maxRecDepth 100000 in
theorem lifted (os : Os) (started : os.Started) (H : Type) (enc : TypeId × Value → H) :
    ReturnsInHanded {} Try.checked os 4 .any (Rows.costMatchesSpec.pre6 enc Try.prog Try.f4 Rows.costMatchesRow.domain false) (Rows.costMatchesSpec.post enc Try.prog Try.f4 false true false false) := by
  refine returnsInHanded_of_change_sized (C := Try.checked) own started (by kernel_rfl) Try.func4
    (ChangeSpec.witness6 (enc := enc) (C := Try.checked) false ⟨#[], #[.slice none 0 0, .int .i64 0, .int .i64 0, .int .i64 0, .slice none 0 0], []⟩ 8 (by kernel_rfl) (by kernel_rfl) (by kernel_rfl) (by kernel_rfl)) ?_
  intro W base args ds gs before hval0 hW hcnd hsz0 _
  have hsz : (DataW.weightsEach Try.prog (Try.f4.params.toList ++ Rows.costMatchesSpec.plain.varTypes Try.prog) (ds ++ gs)).all (· ≤ reachBytes) = true := hsz0
  have hval : ∀ (j : Nat) t v, Try.f4.params[j]? = some t → args[j]? = some v → Value.okWide Try.prog W .any base t v := hval0
  have hW1 := hW
  obtain ⟨p, q, hA0, hV, rfl, hfz, hnd⟩ := hW
  have hA : DataW.TrodAll enc Try.prog W 0 (fun _ => true) true Try.f4.params.toList args.toList ds p := hA0
  rw [Try.params4] at hA hval hsz
  obtain ⟨v0, vs0, d0, ds0, p0, pq0, hv0, rfl, rfl, h0, hA1⟩ := trodAll_cons hA
  obtain ⟨v1, vs1, d1, ds1, p1, pq1, hv1, rfl, rfl, h1, hA2⟩ := trodAll_cons hA1
  subst hv1
  obtain ⟨v2, vs2, d2, ds2, p2, pq2, hv2, rfl, rfl, h2, hA3⟩ := trodAll_cons hA2
  subst hv2
  obtain ⟨v3, vs3, d3, ds3, p3, pq3, hv3, rfl, rfl, h3, hA4⟩ := trodAll_cons hA3
  subst hv3
  obtain ⟨v4, vs4, d4, ds4, p4, pq4, hv4, rfl, rfl, h4, hA5⟩ := trodAll_cons hA4
  subst hv4
  obtain ⟨rfl, rfl, rfl⟩ := trodAll_nil hA5
  obtain ⟨rfl, rfl⟩ := trodVars_none hV
  have hargs0 : args = #[v0, v1, v2, v3, v4] := by cases args; simp_all
  subst hargs0
  clear hv0
  obtain ⟨a0, len0, cap0, rfl⟩ := okWide_slice Try.underlying22 (hval 0 22 v0 rfl rfl)
  obtain ⟨n1, rfl, rfl, rfl, w1⟩ := open_int Try.underlying3 (hval 1 3 v1 rfl rfl) h1
  obtain ⟨n2, rfl, rfl, rfl, w2⟩ := open_int Try.underlying3 (hval 2 3 v2 rfl rfl) h2
  obtain ⟨n3, rfl, rfl, rfl, w3⟩ := open_int Try.underlying3 (hval 3 3 v3 rfl rfl) h3
  obtain ⟨a4, len4, cap4, rfl⟩ := okWide_slice Try.underlying22 (hval 4 22 v4 rfl rfl)
  clear hA0 hval0 hsz0
  simp only [List.append_nil] at hW1
  have hlt : ∀ x ∈ (p0 ++ ([] ++ ([] ++ ([] ++ (p4 ++ []))))), x.block < W.heap.size := fun x hx => by simpa using hW1.lt x (by simpa using hx)
  have hl0 : ∀ x ∈ p0, x.block < W.heap.size := fun x hx => hlt x (by simp [hx])
  obtain ⟨zs0, r0, q0, m0, s0⟩ := arg_ints Try.underlying22 Try.underlying3 cellsInt h0 hl0
  obtain ⟨r1, q1⟩ := arg_int (W := W) w1
  obtain ⟨r2, q2⟩ := arg_int (W := W) w2
  obtain ⟨r3, q3⟩ := arg_int (W := W) w3
  have hl4 : ∀ x ∈ p4, x.block < W.heap.size := fun x hx => hlt x (by simp [hx])
  obtain ⟨zs4, r4, q4, m4, s4⟩ := arg_ints Try.underlying22 Try.underlying3 cellsInt h4 hl4
  have bound : ∀ (j : Nat) (d : DataW H) (zs : List Int), ([22, 3, 3, 3, 22] ++ Rows.costMatchesSpec.plain.varTypes Try.prog)[j]? = some 22 → ([d0, .lit (.int .i64 n1), .lit (.int .i64 n2), .lit (.int .i64 n3), d4] ++ [])[j]? = some d → (zs = [] ∨ ∃ elems spare, d = .slice elems spare ∧ elems.length = zs.length) → zs.length ≤ 2^44 := by
    intro j d zs ht hd hs
    rcases hs with rfl | ⟨elems, spare, rfl, he⟩
    · simp
    · have := sized_slice hsz ht hd Try.underlying22
      rw [bytesInt] at this
      have h47 := reachBytes_lt
      omega
  have w : Ae.W (callL Try.prog (fun _ => none) HA 4 [vI zs0 .dead, I n1, I n2, I n3, vI zs4 .dead] []) (fun r => r.1 = .bool true) := costMatches (bound 0 d0 zs0 rfl rfl s0) (bound 4 d4 zs4 rfl rfl s4) q0
  have hargs : ∀ (W1 : World), Below W.heap.size W W1 → DataW.TrodAll enc Try.prog W1 0 (fun b => decide (b < W.heap.size)) true [22, 3, 3, 3, 22] [.slice a0 len0 cap0, .int .i64 n1, .int .i64 n2, .int .i64 n3, .slice a4 len4 cap4] [d0, .lit (.int .i64 n1), .lit (.int .i64 n2), .lit (.int .i64 n3), d4] (p0 ++ ([] ++ ([] ++ ([] ++ (p4 ++ []))))) :=
    fun W1 hn => (trodAll_cons_mk (Below.trod laidOut (by kernel_rfl) (of_decide_eq_true (by kernel_rfl)) h0 hn hl0) (trodAll_cons_mk (shut_int Try.underlying3 w1) (trodAll_cons_mk (shut_int Try.underlying3 w2) (trodAll_cons_mk (shut_int Try.underlying3 w3) (trodAll_cons_mk (Below.trod laidOut (by kernel_rfl) (of_decide_eq_true (by kernel_rfl)) h4 hn hl4) trodAll_mk0)))))
  refine (law_walk mixed w W #[.slice a0 len0 cap0, .int .i64 n1, .int .i64 n2, .int .i64 n3, .slice a4 len4 cap4] (relL_cons r0 (relL_cons r1 (relL_cons r2 (relL_cons r3 (relL1 r4)))))).mono fun e W1 ⟨he, bel⟩ => ?_
  subst he
  exact ⟨_, rfl, _, _, _, [], _, [], hW1, trodAll_mk1 (shut_bool Try.underlying4 _), hargs W1 bel, rfl, bel.frame _, fun h => by cases h⟩
theorem over : Rows.costMatchesRow.holds Try.pinned (OpenSpec.ofChange Rows.costMatchesSpec) :=
  OpenClaim.holds_of_wide 4 Try.f4 rfl rfl rfl rfl rfl rfl rfl ⟨rfl, rfl, rfl, rfl, rfl⟩ rfl rfl rfl rfl rfl (by kernel_rfl) Try.func4 (by kernel_rfl)
    (of_decide_eq_true (by kernel_rfl)) (by unfold Func.isWrapper; first | (rw [if_pos (by decide +kernel)]; kernel_rfl) | (rw [if_neg (by decide +kernel)]; exact ⟨rfl, rfl⟩))
    (fun os started H enc _ => lifted os started H enc)
theorem costMatches_holds : Rows.CostMatchesSaid := over
#print axioms costMatches_holds
end Go.Proofs.Ytmicmlcfbmphfaa
