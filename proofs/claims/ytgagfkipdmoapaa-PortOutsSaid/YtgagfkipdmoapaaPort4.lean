/- all functions together -/
import Derived.Test.YtgagfkipdmoapaaPort8
import Derived.Test.YtgagfkipdmoapaaAm29
namespace Go.Am
namespace Job
set_option linter.unusedVariables false
set_option linter.unusedSimpArgs false
open Go.Am.F
noncomputable def R1 : FuncId → Option AFun := afTab [(19, afun C0 1 r_port_Port_Reset a_port_Port_Reset), (14, afun C0 1 r_port_Port_Time a_port_Port_Time), (13, afun C0 2 r_port_Port_Tick a_port_Port_Tick), (11, afun C0 1 r_port_Port_Messages a_port_Port_Messages), (10, afun C0 1 r_port_Port_Out a_port_Port_Out), (9, afun C0 4 r_port_Port_Wrote a_port_Port_Wrote), (8, afun C0 0 r_port_New a_port_New)]
noncomputable def C1 : Ctx := ⟨G0, fnTab [(17, fValue), (18, fSame), (16, fCut), (15, fNumber), (12, fBytes)], R1⟩
noncomputable def C : Ctx := ⟨G0, fnTab [(7, fAwake), (17, fValue), (18, fSame), (16, fCut), (15, fNumber), (12, fBytes)], R1⟩
theorem portC1 : PortC C1 := ⟨rfl, rfl, rfl, rfl, rfl, rfl, rfl, rfl, rfl, rfl, rfl, rfl, rfl, rfl⟩
theorem portC : PortC C := ⟨rfl, rfl, rfl, rfl, rfl, rfl, rfl, rfl, rfl, rfl, rfl, rfl, rfl, rfl⟩
theorem ctx1 : CtxOK C1 P :=
  have c0 := ctx_nilr (G := G0) (P := P)
  have c1 := ctx_consr (m_port_New C0 ctx0) c0
  have c2 := ctx_consr (m_port_Port_Wrote C0 ctx0) c1
  have c3 := ctx_consr (m_port_Port_Out C0 ctx0) c2
  have c4 := ctx_consr (m_port_Port_Messages C0 ctx0) c3
  have c5 := ctx_consr (m_port_Port_Tick C0 ctx0) c4
  have c6 := ctx_consr (m_port_Port_Time C0 ctx0) c5
  have c7 := ctx_consr (m_port_Port_Reset C0 ctx0) c6
  have c8 := ctx_cons (bytes_ok _ c7) c7
  have c9 := ctx_cons (number_ok _ c8) c8
  have c10 := ctx_cons (cut_ok _ c9) c9
  have c11 := ctx_cons (same_ok _ c10) c10
  ctx_cons (value_ok _ c11) c11
theorem ctx : CtxOK C P := ctx_cons (awake_ok _ ctx1 portC1) ctx1
def KW : TK := .struct (.cons (.int .i64) (.cons (.int .i64) (.cons (.slice (.int .u8)) .nil)))
theorem dk_wr (d : D) (h : DK KW d) : ∃ w : Wr, WrIs d w ∧ (-9223372036854775808 ≤ w.off ∧ w.off < 9223372036854775808) ∧ w.b.length ≤ 9223372036854775807 := by
  unfold KW at h
  simp only [DK] at h
  obtain ⟨ds, rfl, h0⟩ := h
  rcases ds with _ | ⟨e0, _ | ⟨e1, _ | ⟨e2, _ | ⟨e3, l⟩⟩⟩⟩
  · exact h0.elim
  · exact h0.2.elim
  · exact h0.2.2.elim
  · obtain ⟨h1, h2, h3, -⟩ := h0
    unfold DK at h1 h2 h3
    obtain ⟨n, -, rfl⟩ := h1
    obtain ⟨m, hm, rfl⟩ := h2
    rcases h3 with rfl | ⟨l, rfl, hl, hx⟩
    · exact ⟨⟨n, m, []⟩, ⟨_, rfl, .inl ⟨rfl, rfl⟩⟩, hm, by simp⟩
    · obtain ⟨b, rfl⟩ := dk_bytes hx
      refine ⟨⟨n, m, b⟩, ⟨_, rfl, .inr ⟨false, rfl⟩⟩, hm, ?_⟩
      rw [bs_len] at hl
      unfold maxLen at hl
      simp only
      omega
  · exact h0.2.2.2.elim
theorem dk_wrs : ∀ (ds : List D), (∀ x ∈ ds, DK KW x) → ∃ l : List Wr, ds.length = l.length ∧ ∀ i (h : i < l.length), (∃ d, ds[i]? = some d ∧ WrIs d l[i]) ∧ (-9223372036854775808 ≤ (l[i]).off ∧ (l[i]).off < 9223372036854775808) ∧ (l[i]).b.length ≤ 9223372036854775807
  | [], _ => ⟨[], rfl, fun i h => absurd h (by simp)⟩
  | d :: ds, h => by
    obtain ⟨w, h1, h2, h3⟩ := dk_wr d (h d (by simp))
    obtain ⟨l, h4, h5⟩ := dk_wrs ds (fun x hx => h x (by simp [hx]))
    refine ⟨w :: l, by simp [h4], fun i hi => ?_⟩
    cases i with
    | zero => exact ⟨⟨d, rfl, h1⟩, h2, h3⟩
    | succ i => exact h5 i (by simpa using hi)
end Job
end Go.Am
