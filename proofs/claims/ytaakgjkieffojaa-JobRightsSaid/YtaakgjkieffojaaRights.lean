/- 'JobRights' returns true for every input: a proof of the given statement; no condition. -/
import Derived.Test.YtaakgjkieffojaaAm29
import Derived.Test.YtaakgjkieffojaaJob14
namespace Go.Proofs.Ytaakgjkieffojaa.rights
open Go.Am Go.Am.Job
open Go.ChangeShapes Go.WideShapes Go.ChangeAt Go.RowKit
set_option linter.unusedVariables false
set_option linter.unusedSimpArgs false
def K : TKs := .cons (.struct (.cons (.int .u8) (.cons (.int .u8) (.cons (.int .u8) (.cons (.int .u8) (.cons (.int .u32) (.cons (.int .u32) (.cons (.int .u32) (.cons (.int .u32) (.cons (.int .u32) .nil)))))))))) (.cons (.int .u32) (.cons (.int .u32) (.cons (.int .u32) (.cons (.int .u8) .nil))))
theorem own : ownKnob Try.prog.godebug = none := by kernel_rfl
theorem laid : laidOutB Try.prog = true := by kernel_rfl
theorem law (dd : List D) (h : DNs K dd) : afun C 5 r_law17_JobRights a_law17_JobRights dd [] (fun d _ => d = .raw (.bool true)) := by
  match dd, h with
  | [d0, d1, d2, d3, d4], h =>
    simp only [K, DNs, DN, and_true] at h
    obtain ⟨h0, ⟨src, rfl⟩, ⟨dst, rfl⟩, ⟨aux, rfl⟩, ⟨field, rfl⟩⟩ := h
    obtain ⟨j, rfl⟩ := dk_job d0 h0
    exact rights_ok C rfl rfl j src dst aux field
set_option maxRecDepth 100000 in
theorem lifted (os : Os) (started : os.Started) (H : Type) (enc : TypeId × Value → H) :
    ReturnsInHanded {} Try.checked os 4 .any (Rows.jobRightsSpec.pre6 enc Try.prog Try.f4 Rows.jobRightsRow.domain false) (Rows.jobRightsSpec.post enc Try.prog Try.f4 false true false false) := by
  refine returnsInHanded_of_change (C := Try.checked) own started (by kernel_rfl) Try.func4
    (ChangeSpec.witness6 (enc := enc) (C := Try.checked) false ⟨#[], #[.agg #[.int .u8 0, .int .u8 0, .int .u8 0, .int .u8 0, .int .u32 0, .int .u32 0, .int .u32 0, .int .u32 0, .int .u32 0], .int .u32 0, .int .u32 0, .int .u32 0, .int .u8 0], []⟩ 8 (by kernel_rfl) (by kernel_rfl) (by kernel_rfl) (by kernel_rfl)) ?_
  intro W base args ds gs before hval hW hcnd _
  exact row_law (m_law17_JobRights C ctx) laid (n := 9) (ks := K) (tb := Try.f4.resultTypes.getD 0 0) (by kernel_rfl) (by kernel_rfl) rfl (by kernel_rfl) (by kernel_rfl) (fun ds h => by match ds, h with | [_, _, _, _, _], _ => rfl) (fun dd h _ => law dd h) hval hW
theorem over : Rows.jobRightsRow.holds Try.pinned (OpenSpec.ofChange Rows.jobRightsSpec) :=
  OpenClaim.holds_of_wide 4 Try.f4 rfl rfl rfl rfl rfl rfl rfl ⟨rfl, rfl, rfl, rfl, rfl⟩ rfl rfl rfl rfl rfl (by kernel_rfl) Try.func4 (by kernel_rfl)
    (of_decide_eq_true (by kernel_rfl)) (by unfold Func.isWrapper; first | (rw [if_pos (by decide +kernel)]; kernel_rfl) | (rw [if_neg (by decide +kernel)]; exact ⟨rfl, rfl⟩))
    (fun os started H enc _ => lifted os started H enc)
theorem proved : Rows.JobRightsSaid := over
#print axioms proved
end Go.Proofs.Ytaakgjkieffojaa.rights
