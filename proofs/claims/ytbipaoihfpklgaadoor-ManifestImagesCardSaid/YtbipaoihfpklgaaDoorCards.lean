/-
  DERIVED. GIVEN WITH THE SEED: THE CARDS: each row of YtbipaoihfpklgaaDoorRows.lean that lists a variable, with what it lists TIED to the program's text (the seventh form; the later family's looks); each row that meets fmt, with fmt's text TOLD by the authors' own Lean function (tested against real Go, not proved from fmt's source: count such statements apart). THE CARD IS WHAT COUNTS. Prove the row's statement (the work); the ties are given (YtbipaoihfpklgaaDoorTie.lean); close each card by the builder's one call (the guide's Derived/Test/ToyasCard.lean, 'card_holds'). Laid BY PROGRAM, IN A SANDBOX (cutbox-door.mjs). By AI agents, Wed Nov 11 2026. No macro, syntax, notation, axiom, sorry.
-/
import Derived.Test.YtbipaoihfpklgaaDoorRows
import GoSem.ClaimSeven
namespace Go.Proofs.YtbipaoihfpklgaaDoor
namespace Rows

/-- THE TIED CARD OF 'curtilagelaw08.ManifestBodies'. -/
def manifestBodiesCard : Claim7 := { stood := { row := manifestBodiesRow, standIns := [], harness := (true, "d6758156502563dbe915597b4bd1607106fa09a90d80c7c944307662077ae78f"), looks := false }, kinds := [], alts := [], laidByText := true, laidKinds := [.data, .data], laidTests := true, laidLooks := .later }
def ManifestBodiesCardSaid : Prop := Claim7.holds Tryd.pinned (.plain (OpenSpec.ofChange manifestBodiesSpec)) manifestBodiesCard

/-- THE TIED CARD OF 'curtilagelaw08.ManifestImages'. -/
def manifestImagesCard : Claim7 := { stood := { row := manifestImagesRow, standIns := [], harness := (true, "d6758156502563dbe915597b4bd1607106fa09a90d80c7c944307662077ae78f"), looks := false }, kinds := [], alts := [], laidByText := true, laidKinds := [.data, .data], laidTests := true, laidLooks := .later }
def ManifestImagesCardSaid : Prop := Claim7.holds Tryd.pinned (.plain (OpenSpec.ofChange manifestImagesSpec)) manifestImagesCard

/-- THE SECOND FORM's CARD OF 'curtilagelaw08.ManifestBodies'. -/
def manifestBodiesUptoCard : Claim7 := { stood := { row := manifestBodiesUptoRow, standIns := [], harness := (true, "d6758156502563dbe915597b4bd1607106fa09a90d80c7c944307662077ae78f"), looks := false }, kinds := [], alts := [], laidByText := true, laidKinds := [.data, .data], laidTests := true, laidLooks := .later }
def ManifestBodiesUptoCardSaid : Prop := Claim7.holds Tryd.pinned (.plain (OpenSpec.upto manifestBodiesSpec)) manifestBodiesUptoCard

/-- THE SECOND FORM's CARD OF 'curtilagelaw08.ManifestImages'. -/
def manifestImagesUptoCard : Claim7 := { stood := { row := manifestImagesUptoRow, standIns := [], harness := (true, "d6758156502563dbe915597b4bd1607106fa09a90d80c7c944307662077ae78f"), looks := false }, kinds := [], alts := [], laidByText := true, laidKinds := [.data, .data], laidTests := true, laidLooks := .later }
def ManifestImagesUptoCardSaid : Prop := Claim7.holds Tryd.pinned (.plain (OpenSpec.upto manifestImagesSpec)) manifestImagesUptoCard
end Rows
end Go.Proofs.YtbipaoihfpklgaaDoor
