/- 'JobChains' returns true for every input: a proof of the given statement; no condition. -/
import Derived.Test.YtaakgjkieffojaaAm29
import Derived.Test.YtaakgjkieffojaaJob14
namespace Go.Proofs.Ytaakgjkieffojaa.chains
open Go.Am Go.Am.Job
open Go.ChangeShapes Go.WideShapes Go.ChangeAt Go.RowKit
set_option linter.unusedVariables false
set_option linter.unusedSimpArgs false
def K : TKs := .cons (.int .u32) (.cons (.slice (.struct (.cons (.int .u8) (.cons (.int .u8) (.cons (.int .u8) (.cons (.int .u8) (.cons (.int .u32) (.cons (.int .u32) (.cons (.int .u32) (.cons (.int .u32) (.cons (.int .u32) .nil))))))))))) .nil)
theorem own : ownKnob Try.prog.godebug = none := by kernel_rfl
theorem laid : laidOutB Try.prog = true := by kernel_rfl
theorem law (dd : List D) (h : DNs K dd) : afun C 2 r_law17_JobChains a_law17_JobChains dd [] (fun d _ => d = .raw (.bool true)) := by
  match dd, h with
  | [d0, d1], h =>
    obtain ⟨h0, h1, -⟩ := h
    obtain ⟨at_, rfl⟩ := h0
    obtain ⟨l, rfl, hl, hx⟩ := h1
    obtain ⟨js, rfl⟩ := dk_list dk_job hx
    unfold maxLen at hl
    rw [List.length_map] at hl
    exact chains_ok C rfl rfl rfl rfl at_ js (by omega)
set_option maxRecDepth 100000 in
theorem lifted (os : Os) (started : os.Started) (H : Type) (enc : TypeId × Value → H) :
    ReturnsInHanded {} Try.checked os 5 .any (Rows.jobChainsSpec.pre6 enc Try.prog Try.f5 Rows.jobChainsRow.domain false) (Rows.jobChainsSpec.post enc Try.prog Try.f5 false true false false) := by
  refine returnsInHanded_of_change (C := Try.checked) own started (by kernel_rfl) Try.func5
    (ChangeSpec.witness6 (enc := enc) (C := Try.checked) false ⟨#[], #[.int .u32 0, .slice none 0 0], []⟩ 8 (by kernel_rfl) (by kernel_rfl) (by kernel_rfl) (by kernel_rfl)) ?_
  intro W base args ds gs before hval hW hcnd _
  exact row_law (m_law17_JobChains C ctx) laid (n := 9) (ks := K) (tb := Try.f5.resultTypes.getD 0 0) (by kernel_rfl) (by kernel_rfl) rfl (by kernel_rfl) (by kernel_rfl) (fun ds h => by match ds, h with | [_, _], _ => rfl) (fun dd h _ => law dd h) hval hW
theorem over : Rows.jobChainsRow.holds Try.pinned (OpenSpec.ofChange Rows.jobChainsSpec) :=
  OpenClaim.holds_of_wide 5 Try.f5 rfl rfl rfl rfl rfl rfl rfl ⟨rfl, rfl, rfl, rfl, rfl⟩ rfl rfl rfl rfl rfl (by kernel_rfl) Try.func5 (by kernel_rfl)
    (of_decide_eq_true (by kernel_rfl)) (by unfold Func.isWrapper; first | (rw [if_pos (by decide +kernel)]; kernel_rfl) | (rw [if_neg (by decide +kernel)]; exact ⟨rfl, rfl⟩))
    (fun os started H enc _ => lifted os started H enc)
theorem proved : Rows.JobChainsSaid := over
#print axioms proved
end Go.Proofs.Ytaakgjkieffojaa.chains
