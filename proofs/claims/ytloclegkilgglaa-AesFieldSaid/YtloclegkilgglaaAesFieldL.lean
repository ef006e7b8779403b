/- 'AesField' returns true for every input: a proof of the given statement; no condition. -/
import Derived.Test.YtloclegkilgglaaAm29
import Derived.Test.YtloclegkilgglaaAesC
namespace Go.Proofs.Ytloclegkilgglaa.field
open Go.Am Go.Am.Job Go.Am.F
open Go.ChangeShapes Go.WideShapes Go.ChangeAt Go.RowKit
set_option linter.unusedVariables false
set_option linter.unusedSimpArgs false
def K : TKs := .cons (.int .u8) (.cons (.int .u8) (.cons (.int .u8) .nil))
theorem own : ownKnob Try.prog.godebug = none := by kernel_rfl
theorem laid : laidOutB Try.prog = true := by kernel_rfl
theorem law (dd : List D) (h : DNs K dd) : afun C 3 r_law03_AesField a_law03_AesField dd [] (fun d _ => d = .raw (.bool true)) := by
  rcases dd with _ | ⟨d0, _ | ⟨d1, _ | ⟨d2, _ | ⟨d3, l⟩⟩⟩⟩
  · exact h.elim
  · exact h.2.elim
  · exact h.2.2.elim
  · obtain ⟨h1, h2, h3, -⟩ := h
    unfold DN DK at h1 h2 h3
    obtain ⟨a, rfl⟩ := h1
    obtain ⟨b, rfl⟩ := h2
    obtain ⟨c, rfl⟩ := h3
    exact field_law C rfl rfl rfl rfl rfl rfl a b c
  · exact h.2.2.2.elim
set_option maxRecDepth 100000 in
theorem lifted (os : Os) (started : os.Started) (H : Type) (enc : TypeId × Value → H) :
    ReturnsInHanded {} Try.checked os 4 .any (Rows.aesFieldSpec.pre6 enc Try.prog Try.f4 Rows.aesFieldRow.domain false) (Rows.aesFieldSpec.post enc Try.prog Try.f4 false true false false) := by
  refine returnsInHanded_of_change (C := Try.checked) own started (by kernel_rfl) Try.func4
    (ChangeSpec.witness6 (enc := enc) (C := Try.checked) false ⟨#[], #[.int .u8 0, .int .u8 0, .int .u8 0], []⟩ 8 (by kernel_rfl) (by kernel_rfl) (by kernel_rfl) (by kernel_rfl)) ?_
  intro W base args ds gs before hval hW hcnd _
  exact row_law (m_law03_AesField C ctx) laid (n := 9) (ks := K) (tb := Try.f4.resultTypes.getD 0 0) (by kernel_rfl) (by kernel_rfl) rfl (by kernel_rfl) (by kernel_rfl) (fun ds h => by match ds, h with | [_, _, _], _ => rfl) (fun dd h _ => law dd h) hval hW (fun _ _ h => by cases h)
theorem over : Rows.aesFieldRow.holds Try.pinned (OpenSpec.ofChange Rows.aesFieldSpec) :=
  OpenClaim.holds_of_wide 4 Try.f4 rfl rfl rfl rfl rfl rfl rfl ⟨rfl, rfl, rfl, rfl, rfl⟩ rfl rfl rfl rfl rfl (by kernel_rfl) Try.func4 (by kernel_rfl)
    (of_decide_eq_true (by kernel_rfl)) (by unfold Func.isWrapper; first | (rw [if_pos (by decide +kernel)]; kernel_rfl) | (rw [if_neg (by decide +kernel)]; exact ⟨rfl, rfl⟩))
    (fun os started H enc _ => lifted os started H enc)
theorem proved : Rows.AesFieldSaid := over
#print axioms proved
end Go.Proofs.Ytloclegkilgglaa.field
