/- all functions together; what a job's data are -/
import Derived.Test.YtaakgjkieffojaaJob13
import Derived.Test.YtaakgjkieffojaaAm29
namespace Go.Am
namespace Job
set_option linter.unusedVariables false
set_option linter.unusedSimpArgs false
def G0 : Nat → Option D := fun _ => none
noncomputable def C : Ctx := ⟨G0, fnTab [(16, fChain), (15, fRefParse), (13, fJoin), (10, fRefBytes), (12, fRefRight), (19, fNumS), (23, fValue), (7, fCut), (9, fSame), (6, fAwake), (17, fHex), (14, fParse), (8, fBytes), (18, fWord), (11, fRight), (22, fNum), (20, fMode), (21, fKeyed)], fun _ => none⟩
theorem ctx : CtxOK C P :=
  have c0 := ctx_nil (G := G0) (P := P)
  have c1 := ctx_cons (keyed_ok _ c0) c0
  have c2 := ctx_cons (mode_ok _ c1) c1
  have c3 := ctx_cons (num_ok _ c2) c2
  have c4 := ctx_cons (right_ok _ c3 rfl rfl) c3
  have c5 := ctx_cons (word_ok _ c4) c4
  have c6 := ctx_cons (bytes_ok _ c5 rfl) c5
  have c7 := ctx_cons (parse_ok _ c6 rfl rfl) c6
  have c8 := ctx_cons (hex_ok _ c7) c7
  have c9 := ctx_cons (awake_ok _ c8 rfl rfl rfl) c8
  have c10 := ctx_cons (same_ok _ c9) c9
  have c11 := ctx_cons (cut_ok _ c10) c10
  have c12 := ctx_cons (value_ok _ c11) c11
  have c13 := ctx_cons (num_sl _ c12) c12
  have c14 := ctx_cons (refRight_ok _ c13) c13
  have c15 := ctx_cons (refBytes_ok _ c14 rfl) c14
  have c16 := ctx_cons (join_ok _ c15) c15
  have c17 := ctx_cons (refParse_ok _ c16 rfl rfl) c16
  ctx_cons (chain_ok _ c17 rfl) c17
theorem dk_job (d : D) (h : DK (.struct (.cons (.int .u8) (.cons (.int .u8) (.cons (.int .u8) (.cons (.int .u8) (.cons (.int .u32) (.cons (.int .u32) (.cons (.int .u32) (.cons (.int .u32) (.cons (.int .u32) .nil)))))))))) d) : ∃ j, d = jobD j := by
  simp only [DK] at h
  obtain ⟨ds, rfl, h0⟩ := h
  match ds, h0 with
  | [e0, e1, e2, e3, e4, e5, e6, e7, e8], h0 =>
    simp only [DKs, DK, and_true] at h0
    obtain ⟨⟨x0, rfl⟩, ⟨x1, rfl⟩, ⟨x2, rfl⟩, ⟨x3, rfl⟩, ⟨x4, rfl⟩, ⟨x5, rfl⟩, ⟨x6, rfl⟩, ⟨x7, rfl⟩, ⟨x8, rfl⟩⟩ := h0
    exact ⟨⟨x0, x1, x2, x3, x4, x5, x6, x7, x8⟩, rfl⟩
end Job
end Go.Am
