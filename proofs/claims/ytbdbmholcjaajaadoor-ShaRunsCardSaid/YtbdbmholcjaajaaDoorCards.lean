/-
  DERIVED. GIVEN WITH THE SEED: THE CARDS: each row of YtbdbmholcjaajaaDoorRows.lean that lists a variable, with what it lists TIED to the program's text (the seventh form; the later family's looks); each row that meets fmt, with fmt's text TOLD by the authors' own Lean function (tested against real Go, not proved from fmt's source: count such statements apart). THE CARD IS WHAT COUNTS. Prove the row's statement (the work); the ties are given (YtbdbmholcjaajaaDoorTie.lean); close each card by the builder's one call (the guide's Derived/Test/ToyasCard.lean, 'card_holds'). Laid BY PROGRAM, IN A SANDBOX (cutbox-door.mjs). By AI agents, Wed Nov 11 2026. No macro, syntax, notation, axiom, sorry.
-/
import Derived.Test.YtbdbmholcjaajaaDoorRows
import GoSem.ClaimSeven
namespace Go.Proofs.YtbdbmholcjaajaaDoor
namespace Rows

/-- THE TIED CARD OF 'curtilagelaw01.ShaSums'. -/
def shaSumsCard : Claim7 := { stood := { row := shaSumsRow, standIns := [], harness := (true, "7c509a3e0d0fa7eca9c50bb8d4bbffaa12de50962ba71446a12fc5dea55ae22d"), looks := false }, kinds := [], alts := [], laidByText := true, laidKinds := [.data, .data], laidTests := true, laidLooks := .later }
def ShaSumsCardSaid : Prop := Claim7.holds Tryd.pinned (.plain (OpenSpec.ofChange shaSumsSpec)) shaSumsCard

/-- THE TIED CARD OF 'curtilagelaw01.ShaStates'. -/
def shaStatesCard : Claim7 := { stood := { row := shaStatesRow, standIns := [], harness := (true, "7c509a3e0d0fa7eca9c50bb8d4bbffaa12de50962ba71446a12fc5dea55ae22d"), looks := false }, kinds := [], alts := [], laidByText := true, laidKinds := [.data, .data], laidTests := true, laidLooks := .later }
def ShaStatesCardSaid : Prop := Claim7.holds Tryd.pinned (.plain (OpenSpec.ofChange shaStatesSpec)) shaStatesCard

/-- THE TIED CARD OF 'curtilagelaw01.ShaPads'. -/
def shaPadsCard : Claim7 := { stood := { row := shaPadsRow, standIns := [], harness := (true, "7c509a3e0d0fa7eca9c50bb8d4bbffaa12de50962ba71446a12fc5dea55ae22d"), looks := false }, kinds := [], alts := [], laidByText := true, laidKinds := [.data, .data], laidTests := true, laidLooks := .later }
def ShaPadsCardSaid : Prop := Claim7.holds Tryd.pinned (.plain (OpenSpec.ofChange shaPadsSpec)) shaPadsCard

/-- THE TIED CARD OF 'curtilagelaw01.ShaRuns'. -/
def shaRunsCard : Claim7 := { stood := { row := shaRunsRow, standIns := [], harness := (true, "7c509a3e0d0fa7eca9c50bb8d4bbffaa12de50962ba71446a12fc5dea55ae22d"), looks := false }, kinds := [], alts := [], laidByText := true, laidKinds := [.data, .data], laidTests := true, laidLooks := .later }
def ShaRunsCardSaid : Prop := Claim7.holds Tryd.pinned (.plain (OpenSpec.ofChange shaRunsSpec)) shaRunsCard

/-- THE TIED CARD OF 'curtilagelaw01.ShaPresses'. -/
def shaPressesCard : Claim7 := { stood := { row := shaPressesRow, standIns := [], harness := (true, "7c509a3e0d0fa7eca9c50bb8d4bbffaa12de50962ba71446a12fc5dea55ae22d"), looks := false }, kinds := [], alts := [], laidByText := true, laidKinds := [.data, .data], laidTests := true, laidLooks := .later }
def ShaPressesCardSaid : Prop := Claim7.holds Tryd.pinned (.plain (OpenSpec.ofChange shaPressesSpec)) shaPressesCard

/-- THE SECOND FORM's CARD OF 'curtilagelaw01.ShaSums'. -/
def shaSumsUptoCard : Claim7 := { stood := { row := shaSumsUptoRow, standIns := [], harness := (true, "7c509a3e0d0fa7eca9c50bb8d4bbffaa12de50962ba71446a12fc5dea55ae22d"), looks := false }, kinds := [], alts := [], laidByText := true, laidKinds := [.data, .data], laidTests := true, laidLooks := .later }
def ShaSumsUptoCardSaid : Prop := Claim7.holds Tryd.pinned (.plain (OpenSpec.upto shaSumsSpec)) shaSumsUptoCard

/-- THE SECOND FORM's CARD OF 'curtilagelaw01.ShaStates'. -/
def shaStatesUptoCard : Claim7 := { stood := { row := shaStatesUptoRow, standIns := [], harness := (true, "7c509a3e0d0fa7eca9c50bb8d4bbffaa12de50962ba71446a12fc5dea55ae22d"), looks := false }, kinds := [], alts := [], laidByText := true, laidKinds := [.data, .data], laidTests := true, laidLooks := .later }
def ShaStatesUptoCardSaid : Prop := Claim7.holds Tryd.pinned (.plain (OpenSpec.upto shaStatesSpec)) shaStatesUptoCard

/-- THE SECOND FORM's CARD OF 'curtilagelaw01.ShaPads'. -/
def shaPadsUptoCard : Claim7 := { stood := { row := shaPadsUptoRow, standIns := [], harness := (true, "7c509a3e0d0fa7eca9c50bb8d4bbffaa12de50962ba71446a12fc5dea55ae22d"), looks := false }, kinds := [], alts := [], laidByText := true, laidKinds := [.data, .data], laidTests := true, laidLooks := .later }
def ShaPadsUptoCardSaid : Prop := Claim7.holds Tryd.pinned (.plain (OpenSpec.upto shaPadsSpec)) shaPadsUptoCard

/-- THE SECOND FORM's CARD OF 'curtilagelaw01.ShaRuns'. -/
def shaRunsUptoCard : Claim7 := { stood := { row := shaRunsUptoRow, standIns := [], harness := (true, "7c509a3e0d0fa7eca9c50bb8d4bbffaa12de50962ba71446a12fc5dea55ae22d"), looks := false }, kinds := [], alts := [], laidByText := true, laidKinds := [.data, .data], laidTests := true, laidLooks := .later }
def ShaRunsUptoCardSaid : Prop := Claim7.holds Tryd.pinned (.plain (OpenSpec.upto shaRunsSpec)) shaRunsUptoCard

/-- THE SECOND FORM's CARD OF 'curtilagelaw01.ShaPresses'. -/
def shaPressesUptoCard : Claim7 := { stood := { row := shaPressesUptoRow, standIns := [], harness := (true, "7c509a3e0d0fa7eca9c50bb8d4bbffaa12de50962ba71446a12fc5dea55ae22d"), looks := false }, kinds := [], alts := [], laidByText := true, laidKinds := [.data, .data], laidTests := true, laidLooks := .later }
def ShaPressesUptoCardSaid : Prop := Claim7.holds Tryd.pinned (.plain (OpenSpec.upto shaPressesSpec)) shaPressesUptoCard
end Rows
end Go.Proofs.YtbdbmholcjaajaaDoor
