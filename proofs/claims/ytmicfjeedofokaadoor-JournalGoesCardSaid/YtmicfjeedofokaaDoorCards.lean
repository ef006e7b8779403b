/-
  DERIVED. GIVEN WITH THE SEED: THE CARDS: each row of YtmicfjeedofokaaDoorRows.lean that lists a variable, with what it lists TIED to the program's text (the seventh form; the later family's looks); each row that meets fmt, with fmt's text TOLD by the authors' own Lean function (tested against real Go, not proved from fmt's source: count such statements apart). THE CARD IS WHAT COUNTS. Prove the row's statement (the work); the ties are given (YtmicfjeedofokaaDoorTie.lean); close each card by the builder's one call (the guide's Derived/Test/ToyasCard.lean, 'card_holds'). Laid BY PROGRAM, IN A SANDBOX (cutbox-door.mjs). By AI agents, Wed Nov 11 2026. No macro, syntax, notation, axiom, sorry.
-/
import Derived.Test.YtmicfjeedofokaaDoorRows
import GoSem.ClaimSeven
namespace Go.Proofs.YtmicfjeedofokaaDoor
namespace Rows

/-- THE TIED CARD OF 'curtilagelaw22.JournalForms'. -/
def journalFormsCard : Claim7 := { stood := { row := journalFormsRow, standIns := [], harness := (true, "78ab16817be32da0bf608706f66f9f8faa8b62d35fa04d7fc9d011e4cba08e0c"), looks := false }, kinds := [], alts := [], laidByText := true, laidKinds := [.data, .data], laidTests := true, laidLooks := .later }
def JournalFormsCardSaid : Prop := Claim7.holds Tryd.pinned (.plain (OpenSpec.ofChange journalFormsSpec)) journalFormsCard

/-- THE TIED CARD OF 'curtilagelaw22.JournalGoes'. -/
def journalGoesCard : Claim7 := { stood := { row := journalGoesRow, standIns := [], harness := (true, "78ab16817be32da0bf608706f66f9f8faa8b62d35fa04d7fc9d011e4cba08e0c"), looks := false }, kinds := [], alts := [], laidByText := true, laidKinds := [.data, .data], laidTests := true, laidLooks := .later }
def JournalGoesCardSaid : Prop := Claim7.holds Tryd.pinned (.plain (OpenSpec.ofChange journalGoesSpec)) journalGoesCard

/-- THE TIED CARD OF 'curtilagelaw22.JournalReads'. -/
def journalReadsCard : Claim7 := { stood := { row := journalReadsRow, standIns := [], harness := (true, "78ab16817be32da0bf608706f66f9f8faa8b62d35fa04d7fc9d011e4cba08e0c"), looks := false }, kinds := [], alts := [], laidByText := true, laidKinds := [.data, .data], laidTests := true, laidLooks := .later }
def JournalReadsCardSaid : Prop := Claim7.holds Tryd.pinned (.plain (OpenSpec.ofChange journalReadsSpec)) journalReadsCard

/-- THE TIED CARD OF 'curtilagelaw22.JournalNext'. -/
def journalNextCard : Claim7 := { stood := { row := journalNextRow, standIns := [], harness := (true, "78ab16817be32da0bf608706f66f9f8faa8b62d35fa04d7fc9d011e4cba08e0c"), looks := false }, kinds := [], alts := [], laidByText := true, laidKinds := [.data, .data], laidTests := true, laidLooks := .later }
def JournalNextCardSaid : Prop := Claim7.holds Tryd.pinned (.plain (OpenSpec.ofChange journalNextSpec)) journalNextCard

/-- THE TIED CARD OF 'curtilagelaw22.JournalTorn'. -/
def journalTornCard : Claim7 := { stood := { row := journalTornRow, standIns := [], harness := (true, "78ab16817be32da0bf608706f66f9f8faa8b62d35fa04d7fc9d011e4cba08e0c"), looks := false }, kinds := [], alts := [], laidByText := true, laidKinds := [.data, .data], laidTests := true, laidLooks := .later }
def JournalTornCardSaid : Prop := Claim7.holds Tryd.pinned (.plain (OpenSpec.ofChange journalTornSpec)) journalTornCard

/-- THE SECOND FORM's CARD OF 'curtilagelaw22.JournalForms'. -/
def journalFormsUptoCard : Claim7 := { stood := { row := journalFormsUptoRow, standIns := [], harness := (true, "78ab16817be32da0bf608706f66f9f8faa8b62d35fa04d7fc9d011e4cba08e0c"), looks := false }, kinds := [], alts := [], laidByText := true, laidKinds := [.data, .data], laidTests := true, laidLooks := .later }
def JournalFormsUptoCardSaid : Prop := Claim7.holds Tryd.pinned (.plain (OpenSpec.upto journalFormsSpec)) journalFormsUptoCard

/-- THE SECOND FORM's CARD OF 'curtilagelaw22.JournalGoes'. -/
def journalGoesUptoCard : Claim7 := { stood := { row := journalGoesUptoRow, standIns := [], harness := (true, "78ab16817be32da0bf608706f66f9f8faa8b62d35fa04d7fc9d011e4cba08e0c"), looks := false }, kinds := [], alts := [], laidByText := true, laidKinds := [.data, .data], laidTests := true, laidLooks := .later }
def JournalGoesUptoCardSaid : Prop := Claim7.holds Tryd.pinned (.plain (OpenSpec.upto journalGoesSpec)) journalGoesUptoCard

/-- THE SECOND FORM's CARD OF 'curtilagelaw22.JournalReads'. -/
def journalReadsUptoCard : Claim7 := { stood := { row := journalReadsUptoRow, standIns := [], harness := (true, "78ab16817be32da0bf608706f66f9f8faa8b62d35fa04d7fc9d011e4cba08e0c"), looks := false }, kinds := [], alts := [], laidByText := true, laidKinds := [.data, .data], laidTests := true, laidLooks := .later }
def JournalReadsUptoCardSaid : Prop := Claim7.holds Tryd.pinned (.plain (OpenSpec.upto journalReadsSpec)) journalReadsUptoCard

/-- THE SECOND FORM's CARD OF 'curtilagelaw22.JournalNext'. -/
def journalNextUptoCard : Claim7 := { stood := { row := journalNextUptoRow, standIns := [], harness := (true, "78ab16817be32da0bf608706f66f9f8faa8b62d35fa04d7fc9d011e4cba08e0c"), looks := false }, kinds := [], alts := [], laidByText := true, laidKinds := [.data, .data], laidTests := true, laidLooks := .later }
def JournalNextUptoCardSaid : Prop := Claim7.holds Tryd.pinned (.plain (OpenSpec.upto journalNextSpec)) journalNextUptoCard

/-- THE SECOND FORM's CARD OF 'curtilagelaw22.JournalTorn'. -/
def journalTornUptoCard : Claim7 := { stood := { row := journalTornUptoRow, standIns := [], harness := (true, "78ab16817be32da0bf608706f66f9f8faa8b62d35fa04d7fc9d011e4cba08e0c"), looks := false }, kinds := [], alts := [], laidByText := true, laidKinds := [.data, .data], laidTests := true, laidLooks := .later }
def JournalTornUptoCardSaid : Prop := Claim7.holds Tryd.pinned (.plain (OpenSpec.upto journalTornSpec)) journalTornUptoCard
end Rows
end Go.Proofs.YtmicfjeedofokaaDoor
