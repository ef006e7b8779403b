/- 'BusOne' returns true for every input: a proof of the given statement; no condition. -/
import Derived.Test.YtpjdbpiojncleaaAm29
import Derived.Test.YtpjdbpiojncleaaBus4
namespace Go.Proofs.Ytpjdbpiojncleaa.one
open Go.Am Go.Am.Job Go.Am.F
open Go.ChangeShapes Go.WideShapes Go.ChangeAt Go.RowKit
set_option linter.unusedVariables false
set_option linter.unusedSimpArgs false
def K : TKs := .cons (.int .u8) (.cons (.int .u8) (.cons .bool .nil))
theorem own : ownKnob Try.prog.godebug = none := by kernel_rfl
theorem laid : laidOutB Try.prog = true := by kernel_rfl
theorem law (dd : List D) (h : DNs K dd) : afun C 3 r_law13_BusOne a_law13_BusOne dd [] (fun d _ => d = .raw (.bool true)) := by
  match dd, h with
  | [d0, d1, d2], h =>
    simp only [K, DNs, DN, and_true] at h
    obtain ⟨⟨m, rfl⟩, ⟨waits, rfl⟩, ⟨drop, rfl⟩⟩ := h
    exact one_ok C rfl rfl rfl rfl rfl rfl rfl m waits drop
set_option maxRecDepth 100000 in
theorem lifted (os : Os) (started : os.Started) (H : Type) (enc : TypeId × Value → H) :
    ReturnsInHanded {} Try.checked os 3 .any (Rows.busOneSpec.pre6 enc Try.prog Try.f3 Rows.busOneRow.domain false) (Rows.busOneSpec.post enc Try.prog Try.f3 false true false false) := by
  refine returnsInHanded_of_change (C := Try.checked) own started (by kernel_rfl) Try.func3
    (ChangeSpec.witness6 (enc := enc) (C := Try.checked) false ⟨#[], #[.int .u8 0, .int .u8 0, .bool false], []⟩ 8 (by kernel_rfl) (by kernel_rfl) (by kernel_rfl) (by kernel_rfl)) ?_
  intro W base args ds gs before hval hW hcnd _
  exact row_law (m_law13_BusOne C ctx) laid (n := 9) (ks := K) (tb := Try.f3.resultTypes.getD 0 0) (by kernel_rfl) (by kernel_rfl) rfl (by kernel_rfl) (by kernel_rfl) (fun ds h => by match ds, h with | [_, _, _], _ => rfl) (fun dd h _ => law dd h) hval hW
theorem over : Rows.busOneRow.holds Try.pinned (OpenSpec.ofChange Rows.busOneSpec) :=
  OpenClaim.holds_of_wide 3 Try.f3 rfl rfl rfl rfl rfl rfl rfl ⟨rfl, rfl, rfl, rfl, rfl⟩ rfl rfl rfl rfl rfl (by kernel_rfl) Try.func3 (by kernel_rfl)
    (of_decide_eq_true (by kernel_rfl)) (by unfold Func.isWrapper; first | (rw [if_pos (by decide +kernel)]; kernel_rfl) | (rw [if_neg (by decide +kernel)]; exact ⟨rfl, rfl⟩))
    (fun os started H enc _ => lifted os started H enc)
theorem proved : Rows.BusOneSaid := over
#print axioms proved
end Go.Proofs.Ytpjdbpiojncleaa.one
