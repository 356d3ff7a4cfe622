/-
  DERIVED. GIVEN WITH THE SEED: THE CARDS: each row of YtmicmlcfbmphfaaDoorRows.lean that lists a variable, with what it lists TIED to the program's text (the seventh form; the later family's looks); each row that meets fmt, with fmt's text TOLD by the authors' own Lean function (tested against real Go, not proved from fmt's source: count such statements apart). THE CARD IS WHAT COUNTS. Prove the row's statement (the work); the ties are given (YtmicmlcfbmphfaaDoorTie.lean); close each card by the builder's one call (the guide's Derived/Test/ToyasCard.lean, 'card_holds'). Laid BY PROGRAM, IN A SANDBOX (cutbox-door.mjs). By AI agents, Wed Nov 11 2026. No macro, syntax, notation, axiom, sorry.
-/
import Derived.Test.YtmicmlcfbmphfaaDoorRows
import GoSem.ClaimSeven
namespace Go.Proofs.YtmicmlcfbmphfaaDoor
namespace Rows

/-- THE TIED CARD OF 'fullinglaw26.BoundExamples'. -/
def boundExamplesCard : Claim7 := { stood := { row := boundExamplesRow, standIns := [], harness := (true, "66d6572ab0f039a58664325d63fe8304b2bbebe297f003bb5fde852b7d8f7f5e"), looks := false }, kinds := [], alts := [], laidByText := true, laidKinds := [.data, .data, .data], laidTests := true, laidLooks := .later }
def BoundExamplesCardSaid : Prop := Claim7.holds Tryd.pinned (.plain (OpenSpec.ofChange boundExamplesSpec)) boundExamplesCard

/-- THE TIED CARD OF 'fullinglaw26.BoundMatches'. -/
def boundMatchesCard : Claim7 := { stood := { row := boundMatchesRow, standIns := [], harness := (true, "66d6572ab0f039a58664325d63fe8304b2bbebe297f003bb5fde852b7d8f7f5e"), looks := false }, kinds := [], alts := [], laidByText := true, laidKinds := [.data, .data, .data], laidTests := true, laidLooks := .later }
def BoundMatchesCardSaid : Prop := Claim7.holds Tryd.pinned (.plain (OpenSpec.ofChange boundMatchesSpec)) boundMatchesCard

/-- THE TIED CARD OF 'fullinglaw26.BoundAdmissible'. -/
def boundAdmissibleCard : Claim7 := { stood := { row := boundAdmissibleRow, standIns := [], harness := (true, "66d6572ab0f039a58664325d63fe8304b2bbebe297f003bb5fde852b7d8f7f5e"), looks := false }, kinds := [], alts := [], laidByText := true, laidKinds := [.data, .data, .data], laidTests := true, laidLooks := .later }
def BoundAdmissibleCardSaid : Prop := Claim7.holds Tryd.pinned (.plain (OpenSpec.ofChange boundAdmissibleSpec)) boundAdmissibleCard

/-- THE TIED CARD OF 'fullinglaw26.BoundMonotone'. -/
def boundMonotoneCard : Claim7 := { stood := { row := boundMonotoneRow, standIns := [], harness := (true, "66d6572ab0f039a58664325d63fe8304b2bbebe297f003bb5fde852b7d8f7f5e"), looks := false }, kinds := [], alts := [], laidByText := true, laidKinds := [.data, .data, .data], laidTests := true, laidLooks := .later }
def BoundMonotoneCardSaid : Prop := Claim7.holds Tryd.pinned (.plain (OpenSpec.ofChange boundMonotoneSpec)) boundMonotoneCard

/-- THE TIED CARD OF 'fullinglaw25.SelectionExamples'. -/
def selectionExamplesCard : Claim7 := { stood := { row := selectionExamplesRow, standIns := [], harness := (true, "66d6572ab0f039a58664325d63fe8304b2bbebe297f003bb5fde852b7d8f7f5e"), looks := false }, kinds := [], alts := [], laidByText := true, laidKinds := [.data, .data, .data], laidTests := true, laidLooks := .later }
def SelectionExamplesCardSaid : Prop := Claim7.holds Tryd.pinned (.plain (OpenSpec.ofChange selectionExamplesSpec)) selectionExamplesCard

/-- THE TIED CARD OF 'fullinglaw25.SelectionClasses'. -/
def selectionClassesCard : Claim7 := { stood := { row := selectionClassesRow, standIns := [], harness := (true, "66d6572ab0f039a58664325d63fe8304b2bbebe297f003bb5fde852b7d8f7f5e"), looks := false }, kinds := [], alts := [], laidByText := true, laidKinds := [.data, .data, .data], laidTests := true, laidLooks := .later }
def SelectionClassesCardSaid : Prop := Claim7.holds Tryd.pinned (.plain (OpenSpec.ofChange selectionClassesSpec)) selectionClassesCard

/-- THE TIED CARD OF 'fullinglaw25.SelectionLeast'. -/
def selectionLeastCard : Claim7 := { stood := { row := selectionLeastRow, standIns := [], harness := (true, "66d6572ab0f039a58664325d63fe8304b2bbebe297f003bb5fde852b7d8f7f5e"), looks := false }, kinds := [], alts := [], laidByText := true, laidKinds := [.data, .data, .data], laidTests := true, laidLooks := .later }
def SelectionLeastCardSaid : Prop := Claim7.holds Tryd.pinned (.plain (OpenSpec.ofChange selectionLeastSpec)) selectionLeastCard

/-- THE TIED CARD OF 'fullinglaw27.ExtractExamples'. -/
def extractExamplesCard : Claim7 := { stood := { row := extractExamplesRow, standIns := [], harness := (true, "66d6572ab0f039a58664325d63fe8304b2bbebe297f003bb5fde852b7d8f7f5e"), looks := false }, kinds := [], alts := [], laidByText := true, laidKinds := [.data, .data, .data], laidTests := true, laidLooks := .later }
def ExtractExamplesCardSaid : Prop := Claim7.holds Tryd.pinned (.plain (OpenSpec.ofChange extractExamplesSpec)) extractExamplesCard

/-- THE TIED CARD OF 'fullinglaw27.ExtractOptimal'. -/
def extractOptimalCard : Claim7 := { stood := { row := extractOptimalRow, standIns := [], harness := (true, "66d6572ab0f039a58664325d63fe8304b2bbebe297f003bb5fde852b7d8f7f5e"), looks := false }, kinds := [], alts := [], laidByText := true, laidKinds := [.data, .data, .data], laidTests := true, laidLooks := .later }
def ExtractOptimalCardSaid : Prop := Claim7.holds Tryd.pinned (.plain (OpenSpec.ofChange extractOptimalSpec)) extractOptimalCard

/-- THE TIED CARD OF 'fullinglaw27.ExtractExhaustive'. -/
def extractExhaustiveCard : Claim7 := { stood := { row := extractExhaustiveRow, standIns := [], harness := (true, "66d6572ab0f039a58664325d63fe8304b2bbebe297f003bb5fde852b7d8f7f5e"), looks := false }, kinds := [], alts := [], laidByText := true, laidKinds := [.data, .data, .data], laidTests := true, laidLooks := .later }
def ExtractExhaustiveCardSaid : Prop := Claim7.holds Tryd.pinned (.plain (OpenSpec.ofChange extractExhaustiveSpec)) extractExhaustiveCard

/-- THE TIED CARD OF 'fullinglaw28.ExtractCheckExamples'. -/
def extractCheckExamplesCard : Claim7 := { stood := { row := extractCheckExamplesRow, standIns := [], harness := (true, "66d6572ab0f039a58664325d63fe8304b2bbebe297f003bb5fde852b7d8f7f5e"), looks := false }, kinds := [], alts := [], laidByText := true, laidKinds := [.data, .data, .data], laidTests := true, laidLooks := .later }
def ExtractCheckExamplesCardSaid : Prop := Claim7.holds Tryd.pinned (.plain (OpenSpec.ofChange extractCheckExamplesSpec)) extractCheckExamplesCard

/-- THE SECOND FORM's CARD OF 'fullinglaw26.BoundExamples'. -/
def boundExamplesUptoCard : Claim7 := { stood := { row := boundExamplesUptoRow, standIns := [], harness := (true, "66d6572ab0f039a58664325d63fe8304b2bbebe297f003bb5fde852b7d8f7f5e"), looks := false }, kinds := [], alts := [], laidByText := true, laidKinds := [.data, .data, .data], laidTests := true, laidLooks := .later }
def BoundExamplesUptoCardSaid : Prop := Claim7.holds Tryd.pinned (.plain (OpenSpec.upto boundExamplesSpec)) boundExamplesUptoCard

/-- THE SECOND FORM's CARD OF 'fullinglaw26.BoundMatches'. -/
def boundMatchesUptoCard : Claim7 := { stood := { row := boundMatchesUptoRow, standIns := [], harness := (true, "66d6572ab0f039a58664325d63fe8304b2bbebe297f003bb5fde852b7d8f7f5e"), looks := false }, kinds := [], alts := [], laidByText := true, laidKinds := [.data, .data, .data], laidTests := true, laidLooks := .later }
def BoundMatchesUptoCardSaid : Prop := Claim7.holds Tryd.pinned (.plain (OpenSpec.upto boundMatchesSpec)) boundMatchesUptoCard

/-- THE SECOND FORM's CARD OF 'fullinglaw26.BoundAdmissible'. -/
def boundAdmissibleUptoCard : Claim7 := { stood := { row := boundAdmissibleUptoRow, standIns := [], harness := (true, "66d6572ab0f039a58664325d63fe8304b2bbebe297f003bb5fde852b7d8f7f5e"), looks := false }, kinds := [], alts := [], laidByText := true, laidKinds := [.data, .data, .data], laidTests := true, laidLooks := .later }
def BoundAdmissibleUptoCardSaid : Prop := Claim7.holds Tryd.pinned (.plain (OpenSpec.upto boundAdmissibleSpec)) boundAdmissibleUptoCard

/-- THE SECOND FORM's CARD OF 'fullinglaw26.BoundMonotone'. -/
def boundMonotoneUptoCard : Claim7 := { stood := { row := boundMonotoneUptoRow, standIns := [], harness := (true, "66d6572ab0f039a58664325d63fe8304b2bbebe297f003bb5fde852b7d8f7f5e"), looks := false }, kinds := [], alts := [], laidByText := true, laidKinds := [.data, .data, .data], laidTests := true, laidLooks := .later }
def BoundMonotoneUptoCardSaid : Prop := Claim7.holds Tryd.pinned (.plain (OpenSpec.upto boundMonotoneSpec)) boundMonotoneUptoCard

/-- THE SECOND FORM's CARD OF 'fullinglaw25.SelectionExamples'. -/
def selectionExamplesUptoCard : Claim7 := { stood := { row := selectionExamplesUptoRow, standIns := [], harness := (true, "66d6572ab0f039a58664325d63fe8304b2bbebe297f003bb5fde852b7d8f7f5e"), looks := false }, kinds := [], alts := [], laidByText := true, laidKinds := [.data, .data, .data], laidTests := true, laidLooks := .later }
def SelectionExamplesUptoCardSaid : Prop := Claim7.holds Tryd.pinned (.plain (OpenSpec.upto selectionExamplesSpec)) selectionExamplesUptoCard

/-- THE SECOND FORM's CARD OF 'fullinglaw25.SelectionClasses'. -/
def selectionClassesUptoCard : Claim7 := { stood := { row := selectionClassesUptoRow, standIns := [], harness := (true, "66d6572ab0f039a58664325d63fe8304b2bbebe297f003bb5fde852b7d8f7f5e"), looks := false }, kinds := [], alts := [], laidByText := true, laidKinds := [.data, .data, .data], laidTests := true, laidLooks := .later }
def SelectionClassesUptoCardSaid : Prop := Claim7.holds Tryd.pinned (.plain (OpenSpec.upto selectionClassesSpec)) selectionClassesUptoCard

/-- THE SECOND FORM's CARD OF 'fullinglaw25.SelectionLeast'. -/
def selectionLeastUptoCard : Claim7 := { stood := { row := selectionLeastUptoRow, standIns := [], harness := (true, "66d6572ab0f039a58664325d63fe8304b2bbebe297f003bb5fde852b7d8f7f5e"), looks := false }, kinds := [], alts := [], laidByText := true, laidKinds := [.data, .data, .data], laidTests := true, laidLooks := .later }
def SelectionLeastUptoCardSaid : Prop := Claim7.holds Tryd.pinned (.plain (OpenSpec.upto selectionLeastSpec)) selectionLeastUptoCard

/-- THE SECOND FORM's CARD OF 'fullinglaw27.ExtractExamples'. -/
def extractExamplesUptoCard : Claim7 := { stood := { row := extractExamplesUptoRow, standIns := [], harness := (true, "66d6572ab0f039a58664325d63fe8304b2bbebe297f003bb5fde852b7d8f7f5e"), looks := false }, kinds := [], alts := [], laidByText := true, laidKinds := [.data, .data, .data], laidTests := true, laidLooks := .later }
def ExtractExamplesUptoCardSaid : Prop := Claim7.holds Tryd.pinned (.plain (OpenSpec.upto extractExamplesSpec)) extractExamplesUptoCard

/-- THE SECOND FORM's CARD OF 'fullinglaw27.ExtractOptimal'. -/
def extractOptimalUptoCard : Claim7 := { stood := { row := extractOptimalUptoRow, standIns := [], harness := (true, "66d6572ab0f039a58664325d63fe8304b2bbebe297f003bb5fde852b7d8f7f5e"), looks := false }, kinds := [], alts := [], laidByText := true, laidKinds := [.data, .data, .data], laidTests := true, laidLooks := .later }
def ExtractOptimalUptoCardSaid : Prop := Claim7.holds Tryd.pinned (.plain (OpenSpec.upto extractOptimalSpec)) extractOptimalUptoCard

/-- THE SECOND FORM's CARD OF 'fullinglaw27.ExtractExhaustive'. -/
def extractExhaustiveUptoCard : Claim7 := { stood := { row := extractExhaustiveUptoRow, standIns := [], harness := (true, "66d6572ab0f039a58664325d63fe8304b2bbebe297f003bb5fde852b7d8f7f5e"), looks := false }, kinds := [], alts := [], laidByText := true, laidKinds := [.data, .data, .data], laidTests := true, laidLooks := .later }
def ExtractExhaustiveUptoCardSaid : Prop := Claim7.holds Tryd.pinned (.plain (OpenSpec.upto extractExhaustiveSpec)) extractExhaustiveUptoCard

/-- THE SECOND FORM's CARD OF 'fullinglaw28.ExtractCheckExamples'. -/
def extractCheckExamplesUptoCard : Claim7 := { stood := { row := extractCheckExamplesUptoRow, standIns := [], harness := (true, "66d6572ab0f039a58664325d63fe8304b2bbebe297f003bb5fde852b7d8f7f5e"), looks := false }, kinds := [], alts := [], laidByText := true, laidKinds := [.data, .data, .data], laidTests := true, laidLooks := .later }
def ExtractCheckExamplesUptoCardSaid : Prop := Claim7.holds Tryd.pinned (.plain (OpenSpec.upto extractCheckExamplesSpec)) extractCheckExamplesUptoCard
end Rows
end Go.Proofs.YtmicmlcfbmphfaaDoor
