/- 'FlashPlays' returns true for every input: a proof of the given statement; no condition. -/
import Derived.Test.YtgfhkmpmdfdemaaAm29
import Derived.Test.YtgfhkmpmdfdemaaFlK
namespace Go.Proofs.Ytgfhkmpmdfdemaa.plays
open Go.Am Go.Am.Job Go.Am.F
open Go.ChangeShapes Go.WideShapes Go.ChangeAt Go.RowKit
set_option linter.unusedVariables false
set_option linter.unusedSimpArgs false
def K : TKs := .cons (.int .u8) (.cons (.slice (.struct (.cons (.int .u8) (.cons (.int .i64) (.cons (.int .i64) (.cons (.slice (.int .u8)) (.cons (.slice (.int .u8)) .nil))))))) .nil)
theorem own : ownKnob Try.prog.godebug = none := by kernel_rfl
theorem laid : laidOutB Try.prog = true := by kernel_rfl
theorem law (dd : List D) (h : DNs K dd) : afun K2 2 r_law12_FlashPlays a_law12_FlashPlays dd [] (fun d _ => d = .raw (.bool true)) := by
  rcases dd with _ | ⟨d0, _ | ⟨d1, _ | ⟨d2, l⟩⟩⟩
  · exact h.elim
  · exact h.2.elim
  · obtain ⟨h1, h2, -⟩ := h
    obtain ⟨acts, rfl, hal, hacts⟩ := h2
    unfold DN DK at h1
    obtain ⟨n, rfl⟩ := h1
    exact plays_law K2 flK rfl rfl rfl rfl rfl rfl n acts hal (fun d hd => act_of (hacts d hd))
  · exact h.2.2.elim
set_option maxRecDepth 100000 in
theorem lifted (os : Os) (started : os.Started) (H : Type) (enc : TypeId × Value → H) :
    ReturnsInHanded {} Try.checked os 6 .any (Rows.flashPlaysSpec.pre6 enc Try.prog Try.f6 Rows.flashPlaysRow.domain false) (Rows.flashPlaysSpec.post enc Try.prog Try.f6 false true false false) := by
  refine returnsInHanded_of_change (C := Try.checked) own started (by kernel_rfl) Try.func6
    (ChangeSpec.witness6 (enc := enc) (C := Try.checked) false ⟨#[], #[.int .u8 0, .slice none 0 0], []⟩ 8 (by kernel_rfl) (by kernel_rfl) (by kernel_rfl) (by kernel_rfl)) ?_
  intro W base args ds gs before hval hW hcnd _
  exact row_law (m_law12_FlashPlays K2 ctxK) laid (n := 9) (ks := K) (tb := Try.f6.resultTypes.getD 0 0) (by kernel_rfl) (by kernel_rfl) rfl (by kernel_rfl) (by kernel_rfl) (fun ds h => by match ds, h with | [_, _], _ => rfl) (fun dd h _ => law dd h) hval hW (fun _ _ h => by cases h)
theorem over : Rows.flashPlaysRow.holds Try.pinned (OpenSpec.ofChange Rows.flashPlaysSpec) :=
  OpenClaim.holds_of_wide 6 Try.f6 rfl rfl rfl rfl rfl rfl rfl ⟨rfl, rfl, rfl, rfl, rfl⟩ rfl rfl rfl rfl rfl (by kernel_rfl) Try.func6 (by kernel_rfl)
    (of_decide_eq_true (by kernel_rfl)) (by unfold Func.isWrapper; first | (rw [if_pos (by decide +kernel)]; kernel_rfl) | (rw [if_neg (by decide +kernel)]; exact ⟨rfl, rfl⟩))
    (fun os started H enc _ => lifted os started H enc)
theorem proved : Rows.FlashPlaysSaid := over
#print axioms proved
end Go.Proofs.Ytgfhkmpmdfdemaa.plays
