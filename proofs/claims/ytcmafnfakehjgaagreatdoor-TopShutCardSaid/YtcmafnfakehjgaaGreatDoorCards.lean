/-
  DERIVED. GIVEN WITH THE SEED: THE CARDS: each row of YtcmafnfakehjgaaGreatDoorRows.lean that lists a variable, with what it lists TIED to the program's text (the seventh form; the later family's looks); each row that meets fmt, with fmt's text TOLD by the authors' own Lean function (tested against real Go, not proved from fmt's source: count such statements apart). THE CARD IS WHAT COUNTS. Prove the row's statement (the work); the ties are given (YtcmafnfakehjgaaGreatDoorTie.lean); close each card by the builder's one call (the guide's Derived/Test/ToyasCard.lean, 'card_holds'). Laid BY PROGRAM, IN A SANDBOX (cutbox-door.mjs). By AI agents, Wed Nov 11 2026. No macro, syntax, notation, axiom, sorry.
-/
import Derived.Test.YtcmafnfakehjgaaGreatDoorRows
import GoSem.ClaimSeven
namespace Go.Proofs.YtcmafnfakehjgaaGreatDoor
namespace Rows

/-- THE TIED CARD OF 'curtilagetop.TopShut'. -/
def topShutCard : Claim7 := { stood := { row := topShutRow, standIns := [], harness := (true, "13aa6208d0ae77279288116e0bc25fed57f31122b1e8ccf4af37550ef714674e"), looks := false }, kinds := [], alts := [], laidByText := true, laidKinds := [.data, .sentinel, .data, .data, .data, .data], laidTests := true, laidLooks := .later }
def TopShutCardSaid : Prop := Claim7.holds Tryz.pinned (.plain (OpenSpec.ofChange topShutSpec)) topShutCard

/-- THE SECOND FORM's CARD OF 'curtilagetop.TopShut'. -/
def topShutUptoCard : Claim7 := { stood := { row := topShutUptoRow, standIns := [], harness := (true, "13aa6208d0ae77279288116e0bc25fed57f31122b1e8ccf4af37550ef714674e"), looks := false }, kinds := [], alts := [], laidByText := true, laidKinds := [.data, .sentinel, .data, .data, .data, .data], laidTests := true, laidLooks := .later }
def TopShutUptoCardSaid : Prop := Claim7.holds Tryz.pinned (.plain (OpenSpec.upto topShutSpec)) topShutUptoCard
end Rows
end Go.Proofs.YtcmafnfakehjgaaGreatDoor
