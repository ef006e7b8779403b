/- all functions together; what a token's data are -/
import Derived.Test.YtbkdhjecjdnoeaaTok4
import Derived.Test.YtbkdhjecjdnoeaaAm29
namespace Go.Am
namespace Job
set_option linter.unusedVariables false
set_option linter.unusedSimpArgs false
set_option maxRecDepth 100000
def G0 : Nat → Option D := fun _ => none
noncomputable def C : Ctx := ⟨G0, fnTab [(5, fAwake), (12, fParse), (11, fParse), (9, fRefBody), (6, fCut), (8, fSame), (19, fValue), (10, fJoin), (16, fNumS), (7, fBody), (17, fPre), (20, fEqual), (18, fNum), (14, fAllow), (13, fAllow), (15, fKind)], fun _ => none⟩
theorem ctx : CtxOK C P :=
  have c0 := ctx_nil (G := G0) (P := P)
  have c1 := ctx_cons (kind_ok _ c0) c0
  have c2 := ctx_cons (allow_ok _ c1) c1
  have c3 := ctx_cons (refAllow_ok _ c2) c2
  have c4 := ctx_cons (num_ok _ c3) c3
  have c5 := ctx_cons (equal_ok _ c4) c4
  have c6 := ctx_cons (pre_ok _ c5 rfl) c5
  have c7 := ctx_cons (body_ok _ c6 rfl) c6
  have c8 := ctx_cons (num_sl _ c7) c7
  have c9 := ctx_cons (join_ok _ c8) c8
  have c10 := ctx_cons (value_ok _ c9) c9
  have c11 := ctx_cons (same_ok _ c10) c10
  have c12 := ctx_cons (cut_ok _ c11) c11
  have c13 := ctx_cons (refBody_ok _ c12 rfl rfl) c12
  have c14 := ctx_cons (parse_ok _ c13 rfl rfl rfl) c13
  have c15 := ctx_cons (refParse_ok _ c14 rfl) c14
  ctx_cons (awake_ok _ c15 rfl rfl rfl) c15
theorem dk_tok (d : D) (h : DK (.struct (.cons (.int .i64) (.cons (.int .u32) (.cons (.arr 16 (.int .u8)) .nil)))) d) : ∃ t : Tok, d = tokD t ∧ t.ok = true ∧ -9223372036854775808 ≤ t.kind ∧ t.kind < 9223372036854775808 := by
  simp only [DK] at h
  obtain ⟨ds, rfl, h0⟩ := h
  rcases ds with _ | ⟨e0, _ | ⟨e1, _ | ⟨e2, _ | ⟨e3, l⟩⟩⟩⟩
  · exact h0.elim
  · exact h0.2.elim
  · exact h0.2.2.elim
  · obtain ⟨h1, h2, h3, -⟩ := h0
    unfold DK at h1 h2
    obtain ⟨n, ⟨hn1, hn2⟩, rfl⟩ := h1
    obtain ⟨x, rfl⟩ := h2
    obtain ⟨c, rfl, hl⟩ := dk_arr8 h3
    exact ⟨⟨n, x, c⟩, rfl, by simpa [Tok.ok] using hl, hn1, hn2⟩
  · exact h0.2.2.2.elim
end Job
end Go.Am
