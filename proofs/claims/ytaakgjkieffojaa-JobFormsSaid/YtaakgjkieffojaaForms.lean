/- 'JobForms' returns true for every input: a proof of the given statement; no condition. -/
import Derived.Test.YtaakgjkieffojaaAm29
import Derived.Test.YtaakgjkieffojaaJob14
namespace Go.Proofs.Ytaakgjkieffojaa.forms
open Go.Am Go.Am.Job
open Go.ChangeShapes Go.WideShapes Go.ChangeAt Go.RowKit
set_option linter.unusedVariables false
set_option linter.unusedSimpArgs false
def K : TKs := .cons (.struct (.cons (.int .u8) (.cons (.int .u8) (.cons (.int .u8) (.cons (.int .u8) (.cons (.int .u32) (.cons (.int .u32) (.cons (.int .u32) (.cons (.int .u32) (.cons (.int .u32) .nil)))))))))) (.cons (.slice (.int .u8)) (.cons (.int .u8) (.cons (.int .u8) .nil)))
theorem own : ownKnob Try.prog.godebug = none := by kernel_rfl
theorem laid : laidOutB Try.prog = true := by kernel_rfl
theorem law (dd : List D) (h : DNs K dd) : afun C 4 r_law17_JobForms a_law17_JobForms dd [] (fun d _ => d = .raw (.bool true)) := by
  match dd, h with
  | [d0, d1, d2, d3], h =>
    obtain ⟨h0, h1, h2, h3, -⟩ := h
    obtain ⟨at_, rfl⟩ := h2
    obtain ⟨turn, rfl⟩ := h3
    obtain ⟨j, rfl⟩ := dk_job d0 h0
    obtain ⟨raw, rfl, hr, -⟩ := dn_bs h1
    unfold maxLen at hr
    exact forms_ok C rfl rfl rfl rfl rfl rfl rfl rfl rfl rfl j _ raw (.inr ⟨false, rfl⟩) (by omega) at_ turn
set_option maxRecDepth 100000 in
theorem lifted (os : Os) (started : os.Started) (H : Type) (enc : TypeId × Value → H) :
    ReturnsInHanded {} Try.checked os 3 .any (Rows.jobFormsSpec.pre6 enc Try.prog Try.f3 Rows.jobFormsRow.domain false) (Rows.jobFormsSpec.post enc Try.prog Try.f3 false true false false) := by
  refine returnsInHanded_of_change (C := Try.checked) own started (by kernel_rfl) Try.func3
    (ChangeSpec.witness6 (enc := enc) (C := Try.checked) false ⟨#[], #[.agg #[.int .u8 0, .int .u8 0, .int .u8 0, .int .u8 0, .int .u32 0, .int .u32 0, .int .u32 0, .int .u32 0, .int .u32 0], .slice none 0 0, .int .u8 0, .int .u8 0], []⟩ 8 (by kernel_rfl) (by kernel_rfl) (by kernel_rfl) (by kernel_rfl)) ?_
  intro W base args ds gs before hval hW hcnd _
  exact row_law (m_law17_JobForms C ctx) laid (n := 9) (ks := K) (tb := Try.f3.resultTypes.getD 0 0) (by kernel_rfl) (by kernel_rfl) rfl (by kernel_rfl) (by kernel_rfl) (fun ds h => by match ds, h with | [_, _, _, _], _ => rfl) (fun dd h _ => law dd h) hval hW
theorem over : Rows.jobFormsRow.holds Try.pinned (OpenSpec.ofChange Rows.jobFormsSpec) :=
  OpenClaim.holds_of_wide 3 Try.f3 rfl rfl rfl rfl rfl rfl rfl ⟨rfl, rfl, rfl, rfl, rfl⟩ rfl rfl rfl rfl rfl (by kernel_rfl) Try.func3 (by kernel_rfl)
    (of_decide_eq_true (by kernel_rfl)) (by unfold Func.isWrapper; first | (rw [if_pos (by decide +kernel)]; kernel_rfl) | (rw [if_neg (by decide +kernel)]; exact ⟨rfl, rfl⟩))
    (fun os started H enc _ => lifted os started H enc)
theorem proved : Rows.JobFormsSaid := over
#print axioms proved
end Go.Proofs.Ytaakgjkieffojaa.forms
