/-
  DERIVED. GIVEN WITH THE SEED: THE CARDS: each row of YthnodpihpkcaeaaDoorRows.lean that lists a variable, with what it lists TIED to the program's text (the seventh form; the later family's looks); each row that meets fmt, with fmt's text TOLD by the authors' own Lean function (tested against real Go, not proved from fmt's source: count such statements apart). THE CARD IS WHAT COUNTS. Prove the row's statement (the work); the ties are given (YthnodpihpkcaeaaDoorTie.lean); close each card by the builder's one call (the guide's Derived/Test/ToyasCard.lean, 'card_holds'). Laid BY PROGRAM, IN A SANDBOX (cutbox-door.mjs). By AI agents, Wed Nov 11 2026. No macro, syntax, notation, axiom, sorry.
-/
import Derived.Test.YthnodpihpkcaeaaDoorRows
import GoSem.ClaimSeven
namespace Go.Proofs.YthnodpihpkcaeaaDoor
namespace Rows

/-- THE TIED CARD OF 'curtilagelaw16.MeasQuotes'. -/
def measQuotesCard : Claim7 := { stood := { row := measQuotesRow, standIns := [], harness := (true, "dcf9b9836e699ea72579fcacb0b2e4ca76ee4488e742117e778b456e7b4ac340"), looks := false }, kinds := [], alts := [], laidByText := true, laidKinds := [.data, .data], laidTests := true, laidLooks := .later }
def MeasQuotesCardSaid : Prop := Claim7.holds Tryd.pinned (.plain (OpenSpec.ofChange measQuotesSpec)) measQuotesCard

/-- THE SECOND FORM's CARD OF 'curtilagelaw16.MeasQuotes'. -/
def measQuotesUptoCard : Claim7 := { stood := { row := measQuotesUptoRow, standIns := [], harness := (true, "dcf9b9836e699ea72579fcacb0b2e4ca76ee4488e742117e778b456e7b4ac340"), looks := false }, kinds := [], alts := [], laidByText := true, laidKinds := [.data, .data], laidTests := true, laidLooks := .later }
def MeasQuotesUptoCardSaid : Prop := Claim7.holds Tryd.pinned (.plain (OpenSpec.upto measQuotesSpec)) measQuotesUptoCard
end Rows
end Go.Proofs.YthnodpihpkcaeaaDoor
