/- 'PortOuts' returns true for every input: a proof of the given statement; no condition. -/
import Derived.Test.YtgagfkipdmoapaaAm29
import Derived.Test.YtgagfkipdmoapaaPort4
namespace Go.Proofs.Ytgagfkipdmoapaa.outs
open Go.Am Go.Am.Job Go.Am.F
open Go.ChangeShapes Go.WideShapes Go.ChangeAt Go.RowKit
set_option linter.unusedVariables false
set_option linter.unusedSimpArgs false
def K : TKs := .cons (.slice KW) .nil
theorem own : ownKnob Try.prog.godebug = none := by kernel_rfl
theorem laid : laidOutB Try.prog = true := by kernel_rfl
theorem law (dd : List D) (h : DNs K dd) : afun C 1 r_law21_PortOuts a_law21_PortOuts dd [] (fun d _ => d = .raw (.bool true)) := by
  rcases dd with _ | ⟨d0, _ | ⟨d1, l⟩⟩
  · exact h.elim
  · obtain ⟨h0, -⟩ := h
    unfold DN at h0
    obtain ⟨ds, rfl, hl, hx⟩ := h0
    obtain ⟨l, h1, h2⟩ := dk_wrs ds hx
    unfold maxLen at hl
    exact outs_ok C portC rfl rfl rfl rfl ds l h1 (fun i h => (h2 i h).1) (by omega) (fun i h => (h2 i h).2.2) (fun i h => (h2 i h).2.1)
  · exact h.2.elim
set_option maxRecDepth 100000 in
theorem lifted (os : Os) (started : os.Started) (H : Type) (enc : TypeId × Value → H) :
    ReturnsInHanded {} Try.checked os 5 .any (Rows.portOutsSpec.pre6 enc Try.prog Try.f5 Rows.portOutsRow.domain false) (Rows.portOutsSpec.post enc Try.prog Try.f5 false true false false) := by
  refine returnsInHanded_of_change (C := Try.checked) own started (by kernel_rfl) Try.func5
    (ChangeSpec.witness6 (enc := enc) (C := Try.checked) false ⟨#[], #[.slice none 0 0], []⟩ 8 (by kernel_rfl) (by kernel_rfl) (by kernel_rfl) (by kernel_rfl)) ?_
  intro W base args ds gs before hval hW hcnd _
  exact row_law (m_law21_PortOuts C ctx) laid (n := 9) (ks := K) (tb := Try.f5.resultTypes.getD 0 0) (by kernel_rfl) (by kernel_rfl) rfl (by kernel_rfl) (by kernel_rfl) (fun ds h => by match ds, h with | [_], _ => rfl) (fun dd h _ => law dd h) hval hW
theorem over : Rows.portOutsRow.holds Try.pinned (OpenSpec.ofChange Rows.portOutsSpec) :=
  OpenClaim.holds_of_wide 5 Try.f5 rfl rfl rfl rfl rfl rfl rfl ⟨rfl, rfl, rfl, rfl, rfl⟩ rfl rfl rfl rfl rfl (by kernel_rfl) Try.func5 (by kernel_rfl)
    (of_decide_eq_true (by kernel_rfl)) (by unfold Func.isWrapper; first | (rw [if_pos (by decide +kernel)]; kernel_rfl) | (rw [if_neg (by decide +kernel)]; exact ⟨rfl, rfl⟩))
    (fun os started H enc _ => lifted os started H enc)
theorem proved : Rows.PortOutsSaid := over
#print axioms proved
end Go.Proofs.Ytgagfkipdmoapaa.outs
