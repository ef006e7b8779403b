/-
  DERIVED. GIVEN WITH THE SEED: THE CARDS: each row of YtgcejocgnfkciaaGreatDoorRows.lean that lists a variable, with what it lists TIED to the program's text (the seventh form; the later family's looks); each row that meets fmt, with fmt's text TOLD by the authors' own Lean function (tested against real Go, not proved from fmt's source: count such statements apart). THE CARD IS WHAT COUNTS. Prove the row's statement (the work); the ties are given (YtgcejocgnfkciaaGreatDoorTie.lean); close each card by the builder's one call (the guide's Derived/Test/ToyasCard.lean, 'card_holds'). Laid BY PROGRAM, IN A SANDBOX (cutbox-door.mjs). By AI agents, Wed Nov 11 2026. No macro, syntax, notation, axiom, sorry.
-/
import Derived.Test.YtgcejocgnfkciaaGreatDoorRows
import GoSem.ClaimSeven
namespace Go.Proofs.YtgcejocgnfkciaaGreatDoor
namespace Rows

/-- THE TIED CARD OF 'curtilagetop.TopRolls'. -/
def topRollsCard : Claim7 := { stood := { row := topRollsRow, standIns := [], harness := (true, "42ad6c2236c3b2917ecc7345ca61ae8100e8ac6e479f8954a4ddadbdf2a0898e"), looks := false }, kinds := [], alts := [], laidByText := true, laidKinds := [.data, .data, .data, .data, .data], laidTests := true, laidLooks := .later }
def TopRollsCardSaid : Prop := Claim7.holds Tryz.pinned (.plain (OpenSpec.ofChange topRollsSpec)) topRollsCard

/-- THE TIED CARD OF 'curtilagetop.TopBoots'. -/
def topBootsCard : Claim7 := { stood := { row := topBootsRow, standIns := [], harness := (true, "42ad6c2236c3b2917ecc7345ca61ae8100e8ac6e479f8954a4ddadbdf2a0898e"), looks := false }, kinds := [], alts := [], laidByText := true, laidKinds := [.data, .data, .data, .data, .data], laidTests := true, laidLooks := .later }
def TopBootsCardSaid : Prop := Claim7.holds Tryz.pinned (.plain (OpenSpec.ofChange topBootsSpec)) topBootsCard

/-- THE TIED CARD OF 'curtilagetop.TopTrials'. -/
def topTrialsCard : Claim7 := { stood := { row := topTrialsRow, standIns := [], harness := (true, "42ad6c2236c3b2917ecc7345ca61ae8100e8ac6e479f8954a4ddadbdf2a0898e"), looks := false }, kinds := [], alts := [], laidByText := true, laidKinds := [.data, .data, .data, .data, .data], laidTests := true, laidLooks := .later }
def TopTrialsCardSaid : Prop := Claim7.holds Tryz.pinned (.plain (OpenSpec.ofChange topTrialsSpec)) topTrialsCard

/-- THE TIED CARD OF 'curtilagetop.TopForges'. -/
def topForgesCard : Claim7 := { stood := { row := topForgesRow, standIns := [], harness := (true, "42ad6c2236c3b2917ecc7345ca61ae8100e8ac6e479f8954a4ddadbdf2a0898e"), looks := false }, kinds := [], alts := [], laidByText := true, laidKinds := [.data, .data, .data, .data, .data], laidTests := true, laidLooks := .later }
def TopForgesCardSaid : Prop := Claim7.holds Tryz.pinned (.plain (OpenSpec.ofChange topForgesSpec)) topForgesCard

/-- THE SECOND FORM's CARD OF 'curtilagetop.TopRolls'. -/
def topRollsUptoCard : Claim7 := { stood := { row := topRollsUptoRow, standIns := [], harness := (true, "42ad6c2236c3b2917ecc7345ca61ae8100e8ac6e479f8954a4ddadbdf2a0898e"), looks := false }, kinds := [], alts := [], laidByText := true, laidKinds := [.data, .data, .data, .data, .data], laidTests := true, laidLooks := .later }
def TopRollsUptoCardSaid : Prop := Claim7.holds Tryz.pinned (.plain (OpenSpec.upto topRollsSpec)) topRollsUptoCard

/-- THE SECOND FORM's CARD OF 'curtilagetop.TopBoots'. -/
def topBootsUptoCard : Claim7 := { stood := { row := topBootsUptoRow, standIns := [], harness := (true, "42ad6c2236c3b2917ecc7345ca61ae8100e8ac6e479f8954a4ddadbdf2a0898e"), looks := false }, kinds := [], alts := [], laidByText := true, laidKinds := [.data, .data, .data, .data, .data], laidTests := true, laidLooks := .later }
def TopBootsUptoCardSaid : Prop := Claim7.holds Tryz.pinned (.plain (OpenSpec.upto topBootsSpec)) topBootsUptoCard

/-- THE SECOND FORM's CARD OF 'curtilagetop.TopTrials'. -/
def topTrialsUptoCard : Claim7 := { stood := { row := topTrialsUptoRow, standIns := [], harness := (true, "42ad6c2236c3b2917ecc7345ca61ae8100e8ac6e479f8954a4ddadbdf2a0898e"), looks := false }, kinds := [], alts := [], laidByText := true, laidKinds := [.data, .data, .data, .data, .data], laidTests := true, laidLooks := .later }
def TopTrialsUptoCardSaid : Prop := Claim7.holds Tryz.pinned (.plain (OpenSpec.upto topTrialsSpec)) topTrialsUptoCard

/-- THE SECOND FORM's CARD OF 'curtilagetop.TopForges'. -/
def topForgesUptoCard : Claim7 := { stood := { row := topForgesUptoRow, standIns := [], harness := (true, "42ad6c2236c3b2917ecc7345ca61ae8100e8ac6e479f8954a4ddadbdf2a0898e"), looks := false }, kinds := [], alts := [], laidByText := true, laidKinds := [.data, .data, .data, .data, .data], laidTests := true, laidLooks := .later }
def TopForgesUptoCardSaid : Prop := Claim7.holds Tryz.pinned (.plain (OpenSpec.upto topForgesSpec)) topForgesUptoCard
end Rows
end Go.Proofs.YtgcejocgnfkciaaGreatDoor
