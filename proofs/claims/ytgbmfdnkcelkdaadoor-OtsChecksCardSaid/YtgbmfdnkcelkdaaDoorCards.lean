/-
  DERIVED. GIVEN WITH THE SEED: THE CARDS: each row of YtgbmfdnkcelkdaaDoorRows.lean that lists a variable, with what it lists TIED to the program's text (the seventh form; the later family's looks); each row that meets fmt, with fmt's text TOLD by the authors' own Lean function (tested against real Go, not proved from fmt's source: count such statements apart). THE CARD IS WHAT COUNTS. Prove the row's statement (the work); the ties are given (YtgbmfdnkcelkdaaDoorTie.lean); close each card by the builder's one call (the guide's Derived/Test/ToyasCard.lean, 'card_holds'). Laid BY PROGRAM, IN A SANDBOX (cutbox-door.mjs). By AI agents, Wed Nov 11 2026. No macro, syntax, notation, axiom, sorry.
-/
import Derived.Test.YtgbmfdnkcelkdaaDoorRows
import GoSem.ClaimSeven
namespace Go.Proofs.YtgbmfdnkcelkdaaDoor
namespace Rows

/-- THE TIED CARD OF 'curtilagelaw05.OtsDigits'. -/
def otsDigitsCard : Claim7 := { stood := { row := otsDigitsRow, standIns := [], harness := (true, "6bf0bdef99566f92c6db7396fb224b0483e7b51e8182b5f1883cc91225dac13e"), looks := false }, kinds := [], alts := [], laidByText := true, laidKinds := [.data, .data, .data], laidTests := true, laidLooks := .later }
def OtsDigitsCardSaid : Prop := Claim7.holds Tryd.pinned (.plain (OpenSpec.ofChange otsDigitsSpec)) otsDigitsCard

/-- THE TIED CARD OF 'curtilagelaw05.OtsChecks'. -/
def otsChecksCard : Claim7 := { stood := { row := otsChecksRow, standIns := [], harness := (true, "6bf0bdef99566f92c6db7396fb224b0483e7b51e8182b5f1883cc91225dac13e"), looks := false }, kinds := [], alts := [], laidByText := true, laidKinds := [.data, .data, .data], laidTests := true, laidLooks := .later }
def OtsChecksCardSaid : Prop := Claim7.holds Tryd.pinned (.plain (OpenSpec.ofChange otsChecksSpec)) otsChecksCard

/-- THE TIED CARD OF 'curtilagelaw05.OtsChains'. -/
def otsChainsCard : Claim7 := { stood := { row := otsChainsRow, standIns := [], harness := (true, "6bf0bdef99566f92c6db7396fb224b0483e7b51e8182b5f1883cc91225dac13e"), looks := false }, kinds := [], alts := [], laidByText := true, laidKinds := [.data, .data, .data], laidTests := true, laidLooks := .later }
def OtsChainsCardSaid : Prop := Claim7.holds Tryd.pinned (.plain (OpenSpec.ofChange otsChainsSpec)) otsChainsCard

/-- THE TIED CARD OF 'curtilagelaw05.OtsFolds'. -/
def otsFoldsCard : Claim7 := { stood := { row := otsFoldsRow, standIns := [], harness := (true, "6bf0bdef99566f92c6db7396fb224b0483e7b51e8182b5f1883cc91225dac13e"), looks := false }, kinds := [], alts := [], laidByText := true, laidKinds := [.data, .data, .data], laidTests := true, laidLooks := .later }
def OtsFoldsCardSaid : Prop := Claim7.holds Tryd.pinned (.plain (OpenSpec.ofChange otsFoldsSpec)) otsFoldsCard

/-- THE TIED CARD OF 'curtilagelaw05.OtsSigns'. -/
def otsSignsCard : Claim7 := { stood := { row := otsSignsRow, standIns := [], harness := (true, "6bf0bdef99566f92c6db7396fb224b0483e7b51e8182b5f1883cc91225dac13e"), looks := false }, kinds := [], alts := [], laidByText := true, laidKinds := [.data, .data, .data], laidTests := true, laidLooks := .later }
def OtsSignsCardSaid : Prop := Claim7.holds Tryd.pinned (.plain (OpenSpec.ofChange otsSignsSpec)) otsSignsCard

/-- THE TIED CARD OF 'curtilagelaw05.OtsSplits'. -/
def otsSplitsCard : Claim7 := { stood := { row := otsSplitsRow, standIns := [], harness := (true, "6bf0bdef99566f92c6db7396fb224b0483e7b51e8182b5f1883cc91225dac13e"), looks := false }, kinds := [], alts := [], laidByText := true, laidKinds := [.data, .data, .data], laidTests := true, laidLooks := .later }
def OtsSplitsCardSaid : Prop := Claim7.holds Tryd.pinned (.plain (OpenSpec.ofChange otsSplitsSpec)) otsSplitsCard

/-- THE SECOND FORM's CARD OF 'curtilagelaw05.OtsDigits'. -/
def otsDigitsUptoCard : Claim7 := { stood := { row := otsDigitsUptoRow, standIns := [], harness := (true, "6bf0bdef99566f92c6db7396fb224b0483e7b51e8182b5f1883cc91225dac13e"), looks := false }, kinds := [], alts := [], laidByText := true, laidKinds := [.data, .data, .data], laidTests := true, laidLooks := .later }
def OtsDigitsUptoCardSaid : Prop := Claim7.holds Tryd.pinned (.plain (OpenSpec.upto otsDigitsSpec)) otsDigitsUptoCard

/-- THE SECOND FORM's CARD OF 'curtilagelaw05.OtsChecks'. -/
def otsChecksUptoCard : Claim7 := { stood := { row := otsChecksUptoRow, standIns := [], harness := (true, "6bf0bdef99566f92c6db7396fb224b0483e7b51e8182b5f1883cc91225dac13e"), looks := false }, kinds := [], alts := [], laidByText := true, laidKinds := [.data, .data, .data], laidTests := true, laidLooks := .later }
def OtsChecksUptoCardSaid : Prop := Claim7.holds Tryd.pinned (.plain (OpenSpec.upto otsChecksSpec)) otsChecksUptoCard

/-- THE SECOND FORM's CARD OF 'curtilagelaw05.OtsChains'. -/
def otsChainsUptoCard : Claim7 := { stood := { row := otsChainsUptoRow, standIns := [], harness := (true, "6bf0bdef99566f92c6db7396fb224b0483e7b51e8182b5f1883cc91225dac13e"), looks := false }, kinds := [], alts := [], laidByText := true, laidKinds := [.data, .data, .data], laidTests := true, laidLooks := .later }
def OtsChainsUptoCardSaid : Prop := Claim7.holds Tryd.pinned (.plain (OpenSpec.upto otsChainsSpec)) otsChainsUptoCard

/-- THE SECOND FORM's CARD OF 'curtilagelaw05.OtsFolds'. -/
def otsFoldsUptoCard : Claim7 := { stood := { row := otsFoldsUptoRow, standIns := [], harness := (true, "6bf0bdef99566f92c6db7396fb224b0483e7b51e8182b5f1883cc91225dac13e"), looks := false }, kinds := [], alts := [], laidByText := true, laidKinds := [.data, .data, .data], laidTests := true, laidLooks := .later }
def OtsFoldsUptoCardSaid : Prop := Claim7.holds Tryd.pinned (.plain (OpenSpec.upto otsFoldsSpec)) otsFoldsUptoCard

/-- THE SECOND FORM's CARD OF 'curtilagelaw05.OtsSigns'. -/
def otsSignsUptoCard : Claim7 := { stood := { row := otsSignsUptoRow, standIns := [], harness := (true, "6bf0bdef99566f92c6db7396fb224b0483e7b51e8182b5f1883cc91225dac13e"), looks := false }, kinds := [], alts := [], laidByText := true, laidKinds := [.data, .data, .data], laidTests := true, laidLooks := .later }
def OtsSignsUptoCardSaid : Prop := Claim7.holds Tryd.pinned (.plain (OpenSpec.upto otsSignsSpec)) otsSignsUptoCard

/-- THE SECOND FORM's CARD OF 'curtilagelaw05.OtsSplits'. -/
def otsSplitsUptoCard : Claim7 := { stood := { row := otsSplitsUptoRow, standIns := [], harness := (true, "6bf0bdef99566f92c6db7396fb224b0483e7b51e8182b5f1883cc91225dac13e"), looks := false }, kinds := [], alts := [], laidByText := true, laidKinds := [.data, .data, .data], laidTests := true, laidLooks := .later }
def OtsSplitsUptoCardSaid : Prop := Claim7.holds Tryd.pinned (.plain (OpenSpec.upto otsSplitsSpec)) otsSplitsUptoCard
end Rows
end Go.Proofs.YtgbmfdnkcelkdaaDoor
