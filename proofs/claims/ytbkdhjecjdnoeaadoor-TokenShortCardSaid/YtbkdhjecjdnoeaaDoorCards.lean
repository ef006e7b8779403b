/-
  DERIVED. GIVEN WITH THE SEED: THE CARDS: each row of YtbkdhjecjdnoeaaDoorRows.lean that lists a variable, with what it lists TIED to the program's text (the seventh form; the later family's looks); each row that meets fmt, with fmt's text TOLD by the authors' own Lean function (tested against real Go, not proved from fmt's source: count such statements apart). THE CARD IS WHAT COUNTS. Prove the row's statement (the work); the ties are given (YtbkdhjecjdnoeaaDoorTie.lean); close each card by the builder's one call (the guide's Derived/Test/ToyasCard.lean, 'card_holds'). Laid BY PROGRAM, IN A SANDBOX (cutbox-door.mjs). By AI agents, Wed Nov 11 2026. No macro, syntax, notation, axiom, sorry.
-/
import Derived.Test.YtbkdhjecjdnoeaaDoorRows
import GoSem.ClaimSeven
namespace Go.Proofs.YtbkdhjecjdnoeaaDoor
namespace Rows

/-- THE TIED CARD OF 'curtilagelaw09.TokenShort'. -/
def tokenShortCard : Claim7 := { stood := { row := tokenShortRow, standIns := [], harness := (true, "64648dee4524b4f07c350976ea4c0fcbb94c33a05d16679ebdc77aa58ddeecef"), looks := false }, kinds := [], alts := [], laidByText := true, laidKinds := [.data, .data, .data], laidTests := true, laidLooks := .later }
def TokenShortCardSaid : Prop := Claim7.holds Tryd.pinned (.plain (OpenSpec.ofChange tokenShortSpec)) tokenShortCard

/-- THE SECOND FORM's CARD OF 'curtilagelaw09.TokenShort'. -/
def tokenShortUptoCard : Claim7 := { stood := { row := tokenShortUptoRow, standIns := [], harness := (true, "64648dee4524b4f07c350976ea4c0fcbb94c33a05d16679ebdc77aa58ddeecef"), looks := false }, kinds := [], alts := [], laidByText := true, laidKinds := [.data, .data, .data], laidTests := true, laidLooks := .later }
def TokenShortUptoCardSaid : Prop := Claim7.holds Tryd.pinned (.plain (OpenSpec.upto tokenShortSpec)) tokenShortUptoCard
end Rows
end Go.Proofs.YtbkdhjecjdnoeaaDoor
