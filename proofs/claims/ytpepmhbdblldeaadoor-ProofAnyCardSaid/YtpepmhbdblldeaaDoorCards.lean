/-
  DERIVED. GIVEN WITH THE SEED: THE CARDS: each row of YtpepmhbdblldeaaDoorRows.lean that lists a variable, with what it lists TIED to the program's text (the seventh form; the later family's looks); each row that meets fmt, with fmt's text TOLD by the authors' own Lean function (tested against real Go, not proved from fmt's source: count such statements apart). THE CARD IS WHAT COUNTS. Prove the row's statement (the work); the ties are given (YtpepmhbdblldeaaDoorTie.lean); close each card by the builder's one call (the guide's Derived/Test/ToyasCard.lean, 'card_holds'). Laid BY PROGRAM, IN A SANDBOX (cutbox-door.mjs). By AI agents, Wed Nov 11 2026. No macro, syntax, notation, axiom, sorry.
-/
import Derived.Test.YtpepmhbdblldeaaDoorRows
import GoSem.ClaimSeven
namespace Go.Proofs.YtpepmhbdblldeaaDoor
namespace Rows

/-- THE TIED CARD OF 'curtilagelaw07.ProofFinds'. -/
def proofFindsCard : Claim7 := { stood := { row := proofFindsRow, standIns := [], harness := (true, "2af07a0a0c1e6ed6872574e060f80773832399f81edc17b3a64581419e013a42"), looks := false }, kinds := [], alts := [], laidByText := true, laidKinds := [.data, .data, .data], laidTests := true, laidLooks := .later }
def ProofFindsCardSaid : Prop := Claim7.holds Tryd.pinned (.plain (OpenSpec.ofChange proofFindsSpec)) proofFindsCard

/-- THE TIED CARD OF 'curtilagelaw07.ProofAny'. -/
def proofAnyCard : Claim7 := { stood := { row := proofAnyRow, standIns := [], harness := (true, "2af07a0a0c1e6ed6872574e060f80773832399f81edc17b3a64581419e013a42"), looks := false }, kinds := [], alts := [], laidByText := true, laidKinds := [.data, .data, .data], laidTests := true, laidLooks := .later }
def ProofAnyCardSaid : Prop := Claim7.holds Tryd.pinned (.plain (OpenSpec.ofChange proofAnySpec)) proofAnyCard

/-- THE TIED CARD OF 'curtilagelaw07.ProofValues'. -/
def proofValuesCard : Claim7 := { stood := { row := proofValuesRow, standIns := [], harness := (true, "2af07a0a0c1e6ed6872574e060f80773832399f81edc17b3a64581419e013a42"), looks := false }, kinds := [], alts := [], laidByText := true, laidKinds := [.data, .data, .data], laidTests := true, laidLooks := .later }
def ProofValuesCardSaid : Prop := Claim7.holds Tryd.pinned (.plain (OpenSpec.ofChange proofValuesSpec)) proofValuesCard

/-- THE TIED CARD OF 'curtilagelaw07.ProofNil'. -/
def proofNilCard : Claim7 := { stood := { row := proofNilRow, standIns := [], harness := (true, "2af07a0a0c1e6ed6872574e060f80773832399f81edc17b3a64581419e013a42"), looks := false }, kinds := [], alts := [], laidByText := true, laidKinds := [.data, .data, .data], laidTests := true, laidLooks := .later }
def ProofNilCardSaid : Prop := Claim7.holds Tryd.pinned (.plain (OpenSpec.ofChange proofNilSpec)) proofNilCard

/-- THE SECOND FORM's CARD OF 'curtilagelaw07.ProofFinds'. -/
def proofFindsUptoCard : Claim7 := { stood := { row := proofFindsUptoRow, standIns := [], harness := (true, "2af07a0a0c1e6ed6872574e060f80773832399f81edc17b3a64581419e013a42"), looks := false }, kinds := [], alts := [], laidByText := true, laidKinds := [.data, .data, .data], laidTests := true, laidLooks := .later }
def ProofFindsUptoCardSaid : Prop := Claim7.holds Tryd.pinned (.plain (OpenSpec.upto proofFindsSpec)) proofFindsUptoCard

/-- THE SECOND FORM's CARD OF 'curtilagelaw07.ProofAny'. -/
def proofAnyUptoCard : Claim7 := { stood := { row := proofAnyUptoRow, standIns := [], harness := (true, "2af07a0a0c1e6ed6872574e060f80773832399f81edc17b3a64581419e013a42"), looks := false }, kinds := [], alts := [], laidByText := true, laidKinds := [.data, .data, .data], laidTests := true, laidLooks := .later }
def ProofAnyUptoCardSaid : Prop := Claim7.holds Tryd.pinned (.plain (OpenSpec.upto proofAnySpec)) proofAnyUptoCard

/-- THE SECOND FORM's CARD OF 'curtilagelaw07.ProofValues'. -/
def proofValuesUptoCard : Claim7 := { stood := { row := proofValuesUptoRow, standIns := [], harness := (true, "2af07a0a0c1e6ed6872574e060f80773832399f81edc17b3a64581419e013a42"), looks := false }, kinds := [], alts := [], laidByText := true, laidKinds := [.data, .data, .data], laidTests := true, laidLooks := .later }
def ProofValuesUptoCardSaid : Prop := Claim7.holds Tryd.pinned (.plain (OpenSpec.upto proofValuesSpec)) proofValuesUptoCard

/-- THE SECOND FORM's CARD OF 'curtilagelaw07.ProofNil'. -/
def proofNilUptoCard : Claim7 := { stood := { row := proofNilUptoRow, standIns := [], harness := (true, "2af07a0a0c1e6ed6872574e060f80773832399f81edc17b3a64581419e013a42"), looks := false }, kinds := [], alts := [], laidByText := true, laidKinds := [.data, .data, .data], laidTests := true, laidLooks := .later }
def ProofNilUptoCardSaid : Prop := Claim7.holds Tryd.pinned (.plain (OpenSpec.upto proofNilSpec)) proofNilUptoCard
end Rows
end Go.Proofs.YtpepmhbdblldeaaDoor
