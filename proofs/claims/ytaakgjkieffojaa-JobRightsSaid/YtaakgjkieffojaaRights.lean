/- 'JobRights' returns true for every input: a proof of the given statement; no condition. -/
import Derived.Test.YtaakgjkieffojaaJob9
import Derived.Test.YtaakgjkieffojaaAm29
namespace Go.Proofs.Ytaakgjkieffojaa.rights
set_option linter.unusedSimpArgs false
open Go.Am Go.Am.Job
open Go.ChangeShapes Go.WideShapes Go.ChangeAt Go.RowKit
set_option linter.unusedVariables false
def K : TKs := .cons (.struct (.cons (.int .u8) (.cons (.int .u8) (.cons (.int .u8) (.cons (.int .u8) (.cons (.int .u32) (.cons (.int .u32) (.cons (.int .u32) (.cons (.int .u32) (.cons (.int .u32) .nil))))))))))
  (.cons (.int .u32) (.cons (.int .u32) (.cons (.int .u32) (.cons (.int .u8) .nil))))
theorem own : ownKnob Try.prog.godebug = none := by kernel_rfl
theorem laid : laidOutB Try.prog = true := by kernel_rfl
def G : Nat → Option D := fun _ => none
noncomputable def C : Ctx := ⟨G, fnTab [(6, fAwake), (17, fHex), (14, fParse), (8, fBytes), (18, fWord), (11, fRight), (22, fNum), (20, fMode), (21, fKeyed)]⟩
theorem ctx : CtxOK C P :=
  have c0 := ctx_nil (G := G) (P := P)
  have c1 := ctx_cons (keyed_ok _ c0) c0
  have c2 := ctx_cons (mode_ok _ c1) c1
  have c3 := ctx_cons (num_ok _ c2) c2
  have c4 := ctx_cons (right_ok _ c3 rfl rfl) c3
  have c5 := ctx_cons (word_ok _ c4) c4
  have c6 := ctx_cons (bytes_ok _ c5 rfl) c5
  have c7 := ctx_cons (parse_ok _ c6 rfl rfl) c6
  have c8 := ctx_cons (hex_ok _ c7) c7
  ctx_cons (awake_ok _ c8 rfl rfl rfl) c8
theorem law (dd : List D) (h : DKs K dd) : afun C 5 r4 a4 dd [] (fun d _ => d = .raw (.bool true)) := by
  match dd, h with
  | [d0, d1, d2, d3, d4], h =>
    simp only [K, DKs, DK, and_true] at h
    obtain ⟨⟨ds, rfl, h0⟩, ⟨src, rfl⟩, ⟨dst, rfl⟩, ⟨aux, rfl⟩, ⟨field, rfl⟩⟩ := h
    match ds, h0 with
    | [e0, e1, e2, e3, e4, e5, e6, e7, e8], h0 =>
      simp only [DKs, DK, and_true] at h0
      obtain ⟨⟨x0, rfl⟩, ⟨x1, rfl⟩, ⟨x2, rfl⟩, ⟨x3, rfl⟩, ⟨x4, rfl⟩, ⟨x5, rfl⟩, ⟨x6, rfl⟩, ⟨x7, rfl⟩, ⟨x8, rfl⟩⟩ := h0
      exact rights_ok C rfl rfl ⟨x0, x1, x2, x3, x4, x5, x6, x7, x8⟩ src dst aux field
set_option maxRecDepth 100000 in
theorem lifted (os : Os) (started : os.Started) (H : Type) (enc : TypeId × Value → H) :
    ReturnsInHanded {} Try.checked os 4 .any (Rows.jobRightsSpec.pre6 enc Try.prog Try.f4 Rows.jobRightsRow.domain false) (Rows.jobRightsSpec.post enc Try.prog Try.f4 false true false false) := by
  refine returnsInHanded_of_change (C := Try.checked) own started (by kernel_rfl) Try.func4
    (ChangeSpec.witness6 (enc := enc) (C := Try.checked) false ⟨#[], #[.agg #[.int .u8 0, .int .u8 0, .int .u8 0, .int .u8 0, .int .u32 0, .int .u32 0, .int .u32 0, .int .u32 0, .int .u32 0], .int .u32 0, .int .u32 0, .int .u32 0, .int .u8 0], []⟩ 8 (by kernel_rfl) (by kernel_rfl) (by kernel_rfl) (by kernel_rfl)) ?_
  intro W base args ds gs before hval hW hcnd _
  exact row_law (m4 C ctx) laid (n := 9) (ks := K) (by kernel_rfl) (by kernel_rfl) rfl (by kernel_rfl) Try.underlying4 (fun ds h => by match ds, h with | [_, _, _, _, _], _ => rfl) (fun dd h _ => law dd h) hval hW
theorem over : Rows.jobRightsRow.holds Try.pinned (OpenSpec.ofChange Rows.jobRightsSpec) :=
  OpenClaim.holds_of_wide 4 Try.f4 rfl rfl rfl rfl rfl rfl rfl ⟨rfl, rfl, rfl, rfl, rfl⟩ rfl rfl rfl rfl rfl (by kernel_rfl) Try.func4 (by kernel_rfl)
    (of_decide_eq_true (by kernel_rfl)) (by unfold Func.isWrapper; first | (rw [if_pos (by decide +kernel)]; kernel_rfl) | (rw [if_neg (by decide +kernel)]; exact ⟨rfl, rfl⟩))
    (fun os started H enc _ => lifted os started H enc)
theorem proved : Rows.JobRightsSaid := over
#print axioms proved
end Go.Proofs.Ytaakgjkieffojaa.rights
