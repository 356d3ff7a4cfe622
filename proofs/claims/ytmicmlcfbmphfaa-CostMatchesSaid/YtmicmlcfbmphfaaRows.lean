/-
  No cell of these rows narrows 'for every input' (looked for: loops, veiled, ifaces, maps, wideKeys, modest, calm, conditions, laid).
  DERIVED. THE GIVEN ROWS OF THIS SEAT. 3 by the template 'for every input the law returns true; each argument reads behind the call as it read before'; 0 by the template 'total and deterministic' (their statements: YtmicmlcfbmphfaaTotals.lean).
  GIVEN WITH THE SEED: the statements are not yours to turn. If you find one false, say at which input.
  Laid BY PROGRAM, IN A SANDBOX (cutbox-rows.mjs): the forced cells as the released guide's own fill.sh prints them over the translation 3543c6d1ae1b0f8c… (all of the seat's roots in one cut). By AI agents, Wed Nov 11 2026. No macro, syntax, notation, axiom, sorry.
-/
import Derived.Test.YtmicmlcfbmphfaaChecked
import GoSem.Claim
import GoSem.ClaimJoined
import GoSem.ClaimMapViews
import Derived.JoinedTies
import Derived.KernelRfl
namespace Go.Proofs.Ytmicmlcfbmphfaa
/- THE CELL 'sum', in the pinned program and in every row, IS THE sha256 OF THE DUMP (.gsa) THAT YtmicmlcfbmphfaaProg.lean LOADS. Nothing in Lean hashes anything: it is a label: what it is worth is what the hold of that sum in a sandbox is worth. -/
noncomputable def Try.pinned : Pinned := { name := "ytmicmlcfbmphfaa", sum := "3543c6d1ae1b0f8c988946ecce52a67e6486311bbbbf9f1fee5f4988997ff456", checked := Try.checked }
namespace Rows
def none {H : Type} : Left H := { results := [], args := [] }

/-- 'fullinglaw24.CostExamples': WHATEVER THE INPUT: true; the input reads as it did. -/
def costExamplesSpec : ChangeSpec := { name := "costExamples", fn := fun _ => fun
  | [] => { results := [.lit (.bool true)], args := [] }
  | _ => none }
def costExamplesRow : OpenClaim := { program := "ytmicmlcfbmphfaa", sum := "3543c6d1ae1b0f8c988946ecce52a67e6486311bbbbf9f1fee5f4988997ff456", func := "fulling/fullinglaw24.CostExamples", spec := "costExamples", apart := false }
def CostExamplesSaid : Prop := costExamplesRow.holds Try.pinned (OpenSpec.ofChange costExamplesSpec)

/-- ITS FALSE NEIGHBOUR: 'it returns false'. Refute it at one input. -/
def costExamplesWrong : ChangeSpec := { name := "costExamples", fn := fun _ => fun
  | [] => { results := [.lit (.bool false)], args := [] }
  | _ => none }
def CostExamplesWrongFalsely : Prop := costExamplesRow.holds Try.pinned (OpenSpec.ofChange costExamplesWrong)

/-- 'fullinglaw24.CostMatches': WHATEVER THE INPUT: true; the input reads as it did. -/
def costMatchesSpec : ChangeSpec := { name := "costMatches", fn := fun _ => fun
  | [d1, d2, d3, d4, d5] => { results := [.lit (.bool true)], args := [d1, d2, d3, d4, d5] }
  | _ => none }
def costMatchesRow : OpenClaim := { program := "ytmicmlcfbmphfaa", sum := "3543c6d1ae1b0f8c988946ecce52a67e6486311bbbbf9f1fee5f4988997ff456", func := "fulling/fullinglaw24.CostMatches", spec := "costMatches", apart := false }
def CostMatchesSaid : Prop := costMatchesRow.holds Try.pinned (OpenSpec.ofChange costMatchesSpec)

/-- ITS FALSE NEIGHBOUR: 'it returns false'. Refute it at one input. -/
def costMatchesWrong : ChangeSpec := { name := "costMatches", fn := fun _ => fun
  | [d1, d2, d3, d4, d5] => { results := [.lit (.bool false)], args := [d1, d2, d3, d4, d5] }
  | _ => none }
def CostMatchesWrongFalsely : Prop := costMatchesRow.holds Try.pinned (OpenSpec.ofChange costMatchesWrong)

/-- 'fullinglaw24.CostMonotone': WHATEVER THE INPUT: true; the input reads as it did. -/
def costMonotoneSpec : ChangeSpec := { name := "costMonotone", fn := fun _ => fun
  | [d1, d2, d3] => { results := [.lit (.bool true)], args := [d1, d2, d3] }
  | _ => none }
def costMonotoneRow : OpenClaim := { program := "ytmicmlcfbmphfaa", sum := "3543c6d1ae1b0f8c988946ecce52a67e6486311bbbbf9f1fee5f4988997ff456", func := "fulling/fullinglaw24.CostMonotone", spec := "costMonotone", apart := false }
def CostMonotoneSaid : Prop := costMonotoneRow.holds Try.pinned (OpenSpec.ofChange costMonotoneSpec)

/-- ITS FALSE NEIGHBOUR: 'it returns false'. Refute it at one input. -/
def costMonotoneWrong : ChangeSpec := { name := "costMonotone", fn := fun _ => fun
  | [d1, d2, d3] => { results := [.lit (.bool false)], args := [d1, d2, d3] }
  | _ => none }
def CostMonotoneWrongFalsely : Prop := costMonotoneRow.holds Try.pinned (OpenSpec.ofChange costMonotoneWrong)

/- THE SECOND FORM. 'bulk': how many values and letters a reading holds, each counted each time it is reached (what is shared counts as often as it is met; a slice's spare places count too). A statement '..UptoSaid' is the law's where the arguments, and the package variables that the reading takes, are together of bulk at most 1048576: NARROWER than '..Said'. Prove '..Said' where nothing that the law and all that it calls make is longer than what came in: it says more and counts as full. Else prove '..UptoSaid'. A law counts once. -/
mutual
def uptoBulk {H : Type} : DataW H → Nat
  | .lit (.string bytes) => bytes.length + 1
  | .lit _ => 1
  | .nil => 1
  | .ptr d => uptoBulk d + 1
  | .slice elems spare => uptoBulkAll elems + uptoBulkAll spare + 1
  | .agg parts => uptoBulkAll parts + 1
  | .iface _ d => uptoBulk d + 1
  | .map entries => uptoBulkEntries entries + 1
  | .held _ => 1
def uptoBulkAll {H : Type} : List (DataW H) → Nat
  | [] => 0
  | d :: r => uptoBulk d + uptoBulkAll r
def uptoBulkEntries {H : Type} : List (Lit × DataW H) → Nat
  | [] => 0
  | x :: r => uptoBulkEntry x + uptoBulkEntries r
def uptoBulkEntry {H : Type} : Lit × DataW H → Nat
  | (.string bytes, d) => bytes.length + uptoBulk d + 1
  | (_, d) => uptoBulk d + 1
 end
def uptoSmall : (H : Type) → List (DataW H) → Bool := fun _ ds => decide (uptoBulkAll ds ≤ 1048576)
def OpenSpec.upto (s : _root_.Go.ChangeSpec) : _root_.Go.OpenSpec := { _root_.Go.OpenSpec.ofChange s with cond := some uptoSmall }

/-- 'fullinglaw24.CostExamples', WHERE WHAT IT READS IS OF BULK AT MOST 1048576: true; the input reads as it did. -/
def costExamplesUptoRow : OpenClaim := { program := "ytmicmlcfbmphfaa", sum := "3543c6d1ae1b0f8c988946ecce52a67e6486311bbbbf9f1fee5f4988997ff456", func := "fulling/fullinglaw24.CostExamples", spec := "costExamples", apart := false, narrowed := true }
def CostExamplesUptoSaid : Prop := costExamplesUptoRow.holds Try.pinned (OpenSpec.upto costExamplesSpec)

/-- 'fullinglaw24.CostMatches', WHERE WHAT IT READS IS OF BULK AT MOST 1048576: true; the input reads as it did. -/
def costMatchesUptoRow : OpenClaim := { program := "ytmicmlcfbmphfaa", sum := "3543c6d1ae1b0f8c988946ecce52a67e6486311bbbbf9f1fee5f4988997ff456", func := "fulling/fullinglaw24.CostMatches", spec := "costMatches", apart := false, narrowed := true }
def CostMatchesUptoSaid : Prop := costMatchesUptoRow.holds Try.pinned (OpenSpec.upto costMatchesSpec)

/-- 'fullinglaw24.CostMonotone', WHERE WHAT IT READS IS OF BULK AT MOST 1048576: true; the input reads as it did. -/
def costMonotoneUptoRow : OpenClaim := { program := "ytmicmlcfbmphfaa", sum := "3543c6d1ae1b0f8c988946ecce52a67e6486311bbbbf9f1fee5f4988997ff456", func := "fulling/fullinglaw24.CostMonotone", spec := "costMonotone", apart := false, narrowed := true }
def CostMonotoneUptoSaid : Prop := costMonotoneUptoRow.holds Try.pinned (OpenSpec.upto costMonotoneSpec)

end Rows
end Go.Proofs.Ytmicmlcfbmphfaa
