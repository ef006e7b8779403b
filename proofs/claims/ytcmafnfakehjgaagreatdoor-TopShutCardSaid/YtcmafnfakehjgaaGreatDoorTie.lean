/-
  DERIVED. GIVEN WITH THE SEED: THE PROGRAM's TIES (one call each: nine closed facts by the kernel) AND EACH ROW's TIE, after the 31st guide's Derived/Test/Toyas{Tie, Card}.lean. No idea stands in it: it is a product of the set-up. Laid BY PROGRAM, IN A SANDBOX (cutbox-door.mjs). By AI agents, Wed Nov 11 2026. No macro, syntax, notation, axiom, sorry.
-/
import Derived.Test.YtcmafnfakehjgaaGreatDoorRows
import Derived.LaidByTextLater
import Derived.SevenTiedAt
import Derived.LaidSub
import Derived.LaidOnce
namespace Go.Proofs.YtcmafnfakehjgaaGreatDoor
open Go
set_option maxRecDepth 100000
theorem seatTie1 : Tryz.prog.laidByTextLater [("math/bits.deBruijn32tab", Rows.laid_math_bits_deBruijn32tab), ("bytes.ErrTooLarge", Rows.laid_bytes_ErrTooLarge), ("curtilage/sha.first", Rows.laid_curtilage_sha_first), ("curtilage/sha.rounds", Rows.laid_curtilage_sha_rounds), ("curtilage/ots.types", Rows.laid_curtilage_ots_types), ("curtilage/grant.spans", Rows.laid_curtilage_grant_spans)] [.data, .sentinel, .data, .data, .data, .data] true :=
  Program.laidByTextLater_by_one 62 8 65 (by kernel_rfl) (by kernel_rfl) (by kernel_rfl) (by kernel_rfl) (by kernel_rfl) (by kernel_rfl) (fun _ _ => by kernel_rfl)
theorem noOwnUnsafe : Tryz.pinned.checked.prog.headLifts.contains "ownunsafe" = false := by kernel_rfl
theorem tie : Tryz.prog.laidByTextLater [("math/bits.deBruijn32tab", Rows.laid_math_bits_deBruijn32tab), ("bytes.ErrTooLarge", Rows.laid_bytes_ErrTooLarge), ("curtilage/sha.first", Rows.laid_curtilage_sha_first), ("curtilage/sha.rounds", Rows.laid_curtilage_sha_rounds), ("curtilage/ots.types", Rows.laid_curtilage_ots_types), ("curtilage/grant.spans", Rows.laid_curtilage_grant_spans)] [.data, .sentinel, .data, .data, .data, .data] true :=
  Program.laidByTextLater.sub seatTie1 ["math/bits.deBruijn32tab", "bytes.ErrTooLarge", "curtilage/sha.first", "curtilage/sha.rounds", "curtilage/ots.types", "curtilage/grant.spans"] (by kernel_rfl) (by kernel_rfl)
theorem topShut_row_tie : Rows.topShutRow.laidByTextAt .later Tryz.pinned [.data, .sentinel, .data, .data, .data, .data] true :=
  OpenClaim.laidByTextAt_later rfl rfl tie noOwnUnsafe
theorem topShutUpto_row_tie : Rows.topShutUptoRow.laidByTextAt .later Tryz.pinned [.data, .sentinel, .data, .data, .data, .data] true :=
  OpenClaim.laidByTextAt_later rfl rfl tie noOwnUnsafe
end Go.Proofs.YtcmafnfakehjgaaGreatDoor
