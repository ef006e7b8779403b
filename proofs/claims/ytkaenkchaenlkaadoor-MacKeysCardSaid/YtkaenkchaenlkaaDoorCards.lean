/-
  DERIVED. GIVEN WITH THE SEED: THE CARDS: each row of YtkaenkchaenlkaaDoorRows.lean that lists a variable, with what it lists TIED to the program's text (the seventh form; the later family's looks); each row that meets fmt, with fmt's text TOLD by the authors' own Lean function (tested against real Go, not proved from fmt's source: count such statements apart). THE CARD IS WHAT COUNTS. Prove the row's statement (the work); the ties are given (YtkaenkchaenlkaaDoorTie.lean); close each card by the builder's one call (the guide's Derived/Test/ToyasCard.lean, 'card_holds'). Laid BY PROGRAM, IN A SANDBOX (cutbox-door.mjs). By AI agents, Wed Nov 11 2026. No macro, syntax, notation, axiom, sorry.
-/
import Derived.Test.YtkaenkchaenlkaaDoorRows
import GoSem.ClaimSeven
namespace Go.Proofs.YtkaenkchaenlkaaDoor
namespace Rows

/-- THE TIED CARD OF 'curtilagelaw02.MacSums'. -/
def macSumsCard : Claim7 := { stood := { row := macSumsRow, standIns := [], harness := (true, "5eb866b404fcb700384f25c76b45e8dab91d328f90a8c983b01067bd9ef7e75a"), looks := false }, kinds := [], alts := [], laidByText := true, laidKinds := [.data, .data], laidTests := true, laidLooks := .later }
def MacSumsCardSaid : Prop := Claim7.holds Tryd.pinned (.plain (OpenSpec.ofChange macSumsSpec)) macSumsCard

/-- THE TIED CARD OF 'curtilagelaw02.MacEquals'. -/
def macEqualsCard : Claim7 := { stood := { row := macEqualsRow, standIns := [], harness := (true, "5eb866b404fcb700384f25c76b45e8dab91d328f90a8c983b01067bd9ef7e75a"), looks := false }, kinds := [], alts := [], laidByText := true, laidKinds := [.data, .data], laidTests := true, laidLooks := .later }
def MacEqualsCardSaid : Prop := Claim7.holds Tryd.pinned (.plain (OpenSpec.ofChange macEqualsSpec)) macEqualsCard

/-- THE TIED CARD OF 'curtilagelaw02.MacKeys'. -/
def macKeysCard : Claim7 := { stood := { row := macKeysRow, standIns := [], harness := (true, "5eb866b404fcb700384f25c76b45e8dab91d328f90a8c983b01067bd9ef7e75a"), looks := false }, kinds := [], alts := [], laidByText := true, laidKinds := [.data, .data], laidTests := true, laidLooks := .later }
def MacKeysCardSaid : Prop := Claim7.holds Tryd.pinned (.plain (OpenSpec.ofChange macKeysSpec)) macKeysCard

/-- THE TIED CARD OF 'curtilagelaw02.MacDerives'. -/
def macDerivesCard : Claim7 := { stood := { row := macDerivesRow, standIns := [], harness := (true, "5eb866b404fcb700384f25c76b45e8dab91d328f90a8c983b01067bd9ef7e75a"), looks := false }, kinds := [], alts := [], laidByText := true, laidKinds := [.data, .data], laidTests := true, laidLooks := .later }
def MacDerivesCardSaid : Prop := Claim7.holds Tryd.pinned (.plain (OpenSpec.ofChange macDerivesSpec)) macDerivesCard

/-- THE SECOND FORM's CARD OF 'curtilagelaw02.MacSums'. -/
def macSumsUptoCard : Claim7 := { stood := { row := macSumsUptoRow, standIns := [], harness := (true, "5eb866b404fcb700384f25c76b45e8dab91d328f90a8c983b01067bd9ef7e75a"), looks := false }, kinds := [], alts := [], laidByText := true, laidKinds := [.data, .data], laidTests := true, laidLooks := .later }
def MacSumsUptoCardSaid : Prop := Claim7.holds Tryd.pinned (.plain (OpenSpec.upto macSumsSpec)) macSumsUptoCard

/-- THE SECOND FORM's CARD OF 'curtilagelaw02.MacEquals'. -/
def macEqualsUptoCard : Claim7 := { stood := { row := macEqualsUptoRow, standIns := [], harness := (true, "5eb866b404fcb700384f25c76b45e8dab91d328f90a8c983b01067bd9ef7e75a"), looks := false }, kinds := [], alts := [], laidByText := true, laidKinds := [.data, .data], laidTests := true, laidLooks := .later }
def MacEqualsUptoCardSaid : Prop := Claim7.holds Tryd.pinned (.plain (OpenSpec.upto macEqualsSpec)) macEqualsUptoCard

/-- THE SECOND FORM's CARD OF 'curtilagelaw02.MacKeys'. -/
def macKeysUptoCard : Claim7 := { stood := { row := macKeysUptoRow, standIns := [], harness := (true, "5eb866b404fcb700384f25c76b45e8dab91d328f90a8c983b01067bd9ef7e75a"), looks := false }, kinds := [], alts := [], laidByText := true, laidKinds := [.data, .data], laidTests := true, laidLooks := .later }
def MacKeysUptoCardSaid : Prop := Claim7.holds Tryd.pinned (.plain (OpenSpec.upto macKeysSpec)) macKeysUptoCard

/-- THE SECOND FORM's CARD OF 'curtilagelaw02.MacDerives'. -/
def macDerivesUptoCard : Claim7 := { stood := { row := macDerivesUptoRow, standIns := [], harness := (true, "5eb866b404fcb700384f25c76b45e8dab91d328f90a8c983b01067bd9ef7e75a"), looks := false }, kinds := [], alts := [], laidByText := true, laidKinds := [.data, .data], laidTests := true, laidLooks := .later }
def MacDerivesUptoCardSaid : Prop := Claim7.holds Tryd.pinned (.plain (OpenSpec.upto macDerivesSpec)) macDerivesUptoCard
end Rows
end Go.Proofs.YtkaenkchaenlkaaDoor
