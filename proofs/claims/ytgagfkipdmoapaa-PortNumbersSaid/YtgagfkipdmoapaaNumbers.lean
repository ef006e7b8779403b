/- 'PortNumbers' returns true for every input: a proof of the given statement; no condition. -/
import Derived.Test.YtgagfkipdmoapaaAm29
import Derived.Test.YtgagfkipdmoapaaPort4
namespace Go.Proofs.Ytgagfkipdmoapaa.numbers
open Go.Am Go.Am.Job Go.Am.F
open Go.ChangeShapes Go.WideShapes Go.ChangeAt Go.RowKit
set_option linter.unusedVariables false
set_option linter.unusedSimpArgs false
def K : TKs := .cons (.int .u32) (.cons (.slice (.int .u8)) (.cons (.int .i64) (.cons (.int .i64) .nil)))
theorem own : ownKnob Try.prog.godebug = none := by kernel_rfl
theorem laid : laidOutB Try.prog = true := by kernel_rfl
theorem law (dd : List D) (h : DNs K dd) : afun C 4 r_law21_PortNumbers a_law21_PortNumbers dd [] (fun d _ => d = .raw (.bool true)) := by
  rcases dd with _ | ⟨d0, _ | ⟨d1, _ | ⟨d2, _ | ⟨d3, _ | ⟨d4, l⟩⟩⟩⟩⟩
  · exact h.elim
  · exact h.2.elim
  · exact h.2.2.elim
  · exact h.2.2.2.elim
  · obtain ⟨h0, h1, h2, h3, -⟩ := h
    obtain ⟨raw, rfl, hr, -⟩ := dn_bs h1
    unfold maxLen at hr
    unfold DN DK at h0 h2 h3
    obtain ⟨n, rfl⟩ := h0
    obtain ⟨who, -, rfl⟩ := h2
    obtain ⟨at_, -, rfl⟩ := h3
    exact numbers_ok C portC rfl rfl rfl rfl n _ raw (.inr ⟨false, rfl⟩) (by omega) who at_
  · exact h.2.2.2.2.elim
set_option maxRecDepth 100000 in
theorem lifted (os : Os) (started : os.Started) (H : Type) (enc : TypeId × Value → H) :
    ReturnsInHanded {} Try.checked os 6 .any (Rows.portNumbersSpec.pre6 enc Try.prog Try.f6 Rows.portNumbersRow.domain false) (Rows.portNumbersSpec.post enc Try.prog Try.f6 false true false false) := by
  refine returnsInHanded_of_change (C := Try.checked) own started (by kernel_rfl) Try.func6
    (ChangeSpec.witness6 (enc := enc) (C := Try.checked) false ⟨#[], #[.int .u32 0, .slice none 0 0, .int .i64 0, .int .i64 0], []⟩ 8 (by kernel_rfl) (by kernel_rfl) (by kernel_rfl) (by kernel_rfl)) ?_
  intro W base args ds gs before hval hW hcnd _
  exact row_law (m_law21_PortNumbers C ctx) laid (n := 9) (ks := K) (tb := Try.f6.resultTypes.getD 0 0) (by kernel_rfl) (by kernel_rfl) rfl (by kernel_rfl) (by kernel_rfl) (fun ds h => by match ds, h with | [_, _, _, _], _ => rfl) (fun dd h _ => law dd h) hval hW
theorem over : Rows.portNumbersRow.holds Try.pinned (OpenSpec.ofChange Rows.portNumbersSpec) :=
  OpenClaim.holds_of_wide 6 Try.f6 rfl rfl rfl rfl rfl rfl rfl ⟨rfl, rfl, rfl, rfl, rfl⟩ rfl rfl rfl rfl rfl (by kernel_rfl) Try.func6 (by kernel_rfl)
    (of_decide_eq_true (by kernel_rfl)) (by unfold Func.isWrapper; first | (rw [if_pos (by decide +kernel)]; kernel_rfl) | (rw [if_neg (by decide +kernel)]; exact ⟨rfl, rfl⟩))
    (fun os started H enc _ => lifted os started H enc)
theorem proved : Rows.PortNumbersSaid := over
#print axioms proved
end Go.Proofs.Ytgagfkipdmoapaa.numbers
