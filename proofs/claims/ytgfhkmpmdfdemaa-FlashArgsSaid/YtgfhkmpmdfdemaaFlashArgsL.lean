/- 'FlashArgs' returns true for every input: a proof of the given statement; no condition. -/
import Derived.Test.YtgfhkmpmdfdemaaAm29
import Derived.Test.YtgfhkmpmdfdemaaFlC
namespace Go.Proofs.Ytgfhkmpmdfdemaa.fargs
open Go.Am Go.Am.Job Go.Am.F
open Go.ChangeShapes Go.WideShapes Go.ChangeAt Go.RowKit
set_option linter.unusedVariables false
set_option linter.unusedSimpArgs false
def K : TKs := .cons (.int .i64) (.cons (.int .i64) (.cons (.int .i64) (.cons (.slice (.int .u8)) .nil)))
theorem own : ownKnob Try.prog.godebug = none := by kernel_rfl
theorem laid : laidOutB Try.prog = true := by kernel_rfl
theorem law (dd : List D) (h : DNs K dd) : afun C 4 r_law12_FlashArgs a_law12_FlashArgs dd [] (fun d _ => d = .raw (.bool true)) := by
  rcases dd with _ | ⟨d0, _ | ⟨d1, _ | ⟨d2, _ | ⟨d3, _ | ⟨d4, l⟩⟩⟩⟩⟩
  · exact h.elim
  · exact h.2.elim
  · exact h.2.2.elim
  · exact h.2.2.2.elim
  · obtain ⟨h1, h2, h3, h4, -⟩ := h
    obtain ⟨p, rfl, hp, -⟩ := dn_bs h4
    unfold DN DK at h1 h2 h3
    obtain ⟨n, -, rfl⟩ := h1
    obtain ⟨i, -, rfl⟩ := h2
    obtain ⟨j, -, rfl⟩ := h3
    exact fargs_law C flC rfl rfl rfl n i j p hp
  · exact h.2.2.2.2.elim
set_option maxRecDepth 100000 in
theorem lifted (os : Os) (started : os.Started) (H : Type) (enc : TypeId × Value → H) :
    ReturnsInHanded {} Try.checked os 7 .any (Rows.flashArgsSpec.pre6 enc Try.prog Try.f7 Rows.flashArgsRow.domain false) (Rows.flashArgsSpec.post enc Try.prog Try.f7 false true false false) := by
  refine returnsInHanded_of_change (C := Try.checked) own started (by kernel_rfl) Try.func7
    (ChangeSpec.witness6 (enc := enc) (C := Try.checked) false ⟨#[], #[.int .i64 0, .int .i64 0, .int .i64 0, .slice none 0 0], []⟩ 8 (by kernel_rfl) (by kernel_rfl) (by kernel_rfl) (by kernel_rfl)) ?_
  intro W base args ds gs before hval hW hcnd _
  exact row_law (m_law12_FlashArgs C ctx) laid (n := 9) (ks := K) (tb := Try.f7.resultTypes.getD 0 0) (by kernel_rfl) (by kernel_rfl) rfl (by kernel_rfl) (by kernel_rfl) (fun ds h => by match ds, h with | [_, _, _, _], _ => rfl) (fun dd h _ => law dd h) hval hW (fun _ _ h => by cases h)
theorem over : Rows.flashArgsRow.holds Try.pinned (OpenSpec.ofChange Rows.flashArgsSpec) :=
  OpenClaim.holds_of_wide 7 Try.f7 rfl rfl rfl rfl rfl rfl rfl ⟨rfl, rfl, rfl, rfl, rfl⟩ rfl rfl rfl rfl rfl (by kernel_rfl) Try.func7 (by kernel_rfl)
    (of_decide_eq_true (by kernel_rfl)) (by unfold Func.isWrapper; first | (rw [if_pos (by decide +kernel)]; kernel_rfl) | (rw [if_neg (by decide +kernel)]; exact ⟨rfl, rfl⟩))
    (fun os started H enc _ => lifted os started H enc)
theorem proved : Rows.FlashArgsSaid := over
#print axioms proved
end Go.Proofs.Ytgfhkmpmdfdemaa.fargs
