/-
  DERIVED. GIVEN WITH THE SEED: THE CARDS: each row of YtmhagenbelpnfaaDoorRows.lean that lists a variable, with what it lists TIED to the program's text (the seventh form; the later family's looks); each row that meets fmt, with fmt's text TOLD by the authors' own Lean function (tested against real Go, not proved from fmt's source: count such statements apart). THE CARD IS WHAT COUNTS. Prove the row's statement (the work); the ties are given (YtmhagenbelpnfaaDoorTie.lean); close each card by the builder's one call (the guide's Derived/Test/ToyasCard.lean, 'card_holds'). Laid BY PROGRAM, IN A SANDBOX (cutbox-door.mjs). By AI agents, Wed Nov 11 2026. No macro, syntax, notation, axiom, sorry.
-/
import Derived.Test.YtmhagenbelpnfaaDoorRows
import GoSem.ClaimSeven
namespace Go.Proofs.YtmhagenbelpnfaaDoor
namespace Rows

/-- THE TIED CARD OF 'curtilagelaw06.LmsParts'. -/
def lmsPartsCard : Claim7 := { stood := { row := lmsPartsRow, standIns := [], harness := (true, "4decf4ec919fead4eec537affafde8f86e71c6f69697c1e074d1f46c8e30b4aa"), looks := false }, kinds := [], alts := [], laidByText := true, laidKinds := [.data, .data, .data], laidTests := true, laidLooks := .later }
def LmsPartsCardSaid : Prop := Claim7.holds Tryd.pinned (.plain (OpenSpec.ofChange lmsPartsSpec)) lmsPartsCard

/-- THE TIED CARD OF 'curtilagelaw06.LmsRoots'. -/
def lmsRootsCard : Claim7 := { stood := { row := lmsRootsRow, standIns := [], harness := (true, "4decf4ec919fead4eec537affafde8f86e71c6f69697c1e074d1f46c8e30b4aa"), looks := false }, kinds := [], alts := [], laidByText := true, laidKinds := [.data, .data, .data], laidTests := true, laidLooks := .later }
def LmsRootsCardSaid : Prop := Claim7.holds Tryd.pinned (.plain (OpenSpec.ofChange lmsRootsSpec)) lmsRootsCard

/-- THE TIED CARD OF 'curtilagelaw06.LmsPaths'. -/
def lmsPathsCard : Claim7 := { stood := { row := lmsPathsRow, standIns := [], harness := (true, "4decf4ec919fead4eec537affafde8f86e71c6f69697c1e074d1f46c8e30b4aa"), looks := false }, kinds := [], alts := [], laidByText := true, laidKinds := [.data, .data, .data], laidTests := true, laidLooks := .later }
def LmsPathsCardSaid : Prop := Claim7.holds Tryd.pinned (.plain (OpenSpec.ofChange lmsPathsSpec)) lmsPathsCard

/-- THE TIED CARD OF 'curtilagelaw06.LmsSame'. -/
def lmsSameCard : Claim7 := { stood := { row := lmsSameRow, standIns := [], harness := (true, "4decf4ec919fead4eec537affafde8f86e71c6f69697c1e074d1f46c8e30b4aa"), looks := false }, kinds := [], alts := [], laidByText := true, laidKinds := [.data, .data, .data], laidTests := true, laidLooks := .later }
def LmsSameCardSaid : Prop := Claim7.holds Tryd.pinned (.plain (OpenSpec.ofChange lmsSameSpec)) lmsSameCard

/-- THE TIED CARD OF 'curtilagelaw06.LmsKnows'. -/
def lmsKnowsCard : Claim7 := { stood := { row := lmsKnowsRow, standIns := [], harness := (true, "4decf4ec919fead4eec537affafde8f86e71c6f69697c1e074d1f46c8e30b4aa"), looks := false }, kinds := [], alts := [], laidByText := true, laidKinds := [.data, .data, .data], laidTests := true, laidLooks := .later }
def LmsKnowsCardSaid : Prop := Claim7.holds Tryd.pinned (.plain (OpenSpec.ofChange lmsKnowsSpec)) lmsKnowsCard

/-- THE TIED CARD OF 'curtilagelaw06.LmsForces'. -/
def lmsForcesCard : Claim7 := { stood := { row := lmsForcesRow, standIns := [], harness := (true, "4decf4ec919fead4eec537affafde8f86e71c6f69697c1e074d1f46c8e30b4aa"), looks := false }, kinds := [], alts := [], laidByText := true, laidKinds := [.data, .data, .data], laidTests := true, laidLooks := .later }
def LmsForcesCardSaid : Prop := Claim7.holds Tryd.pinned (.plain (OpenSpec.ofChange lmsForcesSpec)) lmsForcesCard

/-- THE SECOND FORM's CARD OF 'curtilagelaw06.LmsParts'. -/
def lmsPartsUptoCard : Claim7 := { stood := { row := lmsPartsUptoRow, standIns := [], harness := (true, "4decf4ec919fead4eec537affafde8f86e71c6f69697c1e074d1f46c8e30b4aa"), looks := false }, kinds := [], alts := [], laidByText := true, laidKinds := [.data, .data, .data], laidTests := true, laidLooks := .later }
def LmsPartsUptoCardSaid : Prop := Claim7.holds Tryd.pinned (.plain (OpenSpec.upto lmsPartsSpec)) lmsPartsUptoCard

/-- THE SECOND FORM's CARD OF 'curtilagelaw06.LmsRoots'. -/
def lmsRootsUptoCard : Claim7 := { stood := { row := lmsRootsUptoRow, standIns := [], harness := (true, "4decf4ec919fead4eec537affafde8f86e71c6f69697c1e074d1f46c8e30b4aa"), looks := false }, kinds := [], alts := [], laidByText := true, laidKinds := [.data, .data, .data], laidTests := true, laidLooks := .later }
def LmsRootsUptoCardSaid : Prop := Claim7.holds Tryd.pinned (.plain (OpenSpec.upto lmsRootsSpec)) lmsRootsUptoCard

/-- THE SECOND FORM's CARD OF 'curtilagelaw06.LmsPaths'. -/
def lmsPathsUptoCard : Claim7 := { stood := { row := lmsPathsUptoRow, standIns := [], harness := (true, "4decf4ec919fead4eec537affafde8f86e71c6f69697c1e074d1f46c8e30b4aa"), looks := false }, kinds := [], alts := [], laidByText := true, laidKinds := [.data, .data, .data], laidTests := true, laidLooks := .later }
def LmsPathsUptoCardSaid : Prop := Claim7.holds Tryd.pinned (.plain (OpenSpec.upto lmsPathsSpec)) lmsPathsUptoCard

/-- THE SECOND FORM's CARD OF 'curtilagelaw06.LmsSame'. -/
def lmsSameUptoCard : Claim7 := { stood := { row := lmsSameUptoRow, standIns := [], harness := (true, "4decf4ec919fead4eec537affafde8f86e71c6f69697c1e074d1f46c8e30b4aa"), looks := false }, kinds := [], alts := [], laidByText := true, laidKinds := [.data, .data, .data], laidTests := true, laidLooks := .later }
def LmsSameUptoCardSaid : Prop := Claim7.holds Tryd.pinned (.plain (OpenSpec.upto lmsSameSpec)) lmsSameUptoCard

/-- THE SECOND FORM's CARD OF 'curtilagelaw06.LmsKnows'. -/
def lmsKnowsUptoCard : Claim7 := { stood := { row := lmsKnowsUptoRow, standIns := [], harness := (true, "4decf4ec919fead4eec537affafde8f86e71c6f69697c1e074d1f46c8e30b4aa"), looks := false }, kinds := [], alts := [], laidByText := true, laidKinds := [.data, .data, .data], laidTests := true, laidLooks := .later }
def LmsKnowsUptoCardSaid : Prop := Claim7.holds Tryd.pinned (.plain (OpenSpec.upto lmsKnowsSpec)) lmsKnowsUptoCard

/-- THE SECOND FORM's CARD OF 'curtilagelaw06.LmsForces'. -/
def lmsForcesUptoCard : Claim7 := { stood := { row := lmsForcesUptoRow, standIns := [], harness := (true, "4decf4ec919fead4eec537affafde8f86e71c6f69697c1e074d1f46c8e30b4aa"), looks := false }, kinds := [], alts := [], laidByText := true, laidKinds := [.data, .data, .data], laidTests := true, laidLooks := .later }
def LmsForcesUptoCardSaid : Prop := Claim7.holds Tryd.pinned (.plain (OpenSpec.upto lmsForcesSpec)) lmsForcesUptoCard
end Rows
end Go.Proofs.YtmhagenbelpnfaaDoor
