/- all functions together -/
import Derived.Test.YtgagfkipdmoapaaPort6
import Derived.Test.YtgagfkipdmoapaaAm29
namespace Go.Am
namespace Job
set_option linter.unusedVariables false
set_option linter.unusedSimpArgs false
open Go.Am.F
noncomputable def R1 : FuncId → Option AFun := afTab [(19, afun C0 1 r_port_Port_Reset a_port_Port_Reset), (14, afun C0 1 r_port_Port_Time a_port_Port_Time), (13, afun C0 2 r_port_Port_Tick a_port_Port_Tick), (11, afun C0 1 r_port_Port_Messages a_port_Port_Messages), (10, afun C0 1 r_port_Port_Out a_port_Port_Out), (9, afun C0 4 r_port_Port_Wrote a_port_Port_Wrote), (8, afun C0 0 r_port_New a_port_New)]
noncomputable def C1 : Ctx := ⟨G0, fnTab [(17, fValue), (18, fSame), (16, fCut), (15, fNumber), (12, fBytes)], R1⟩
noncomputable def C : Ctx := ⟨G0, fnTab [(7, fAwake), (17, fValue), (18, fSame), (16, fCut), (15, fNumber), (12, fBytes)], R1⟩
theorem portC1 : PortC C1 := ⟨rfl, rfl, rfl, rfl, rfl, rfl, rfl, rfl, rfl, rfl, rfl, rfl, rfl, rfl⟩
theorem portC : PortC C := ⟨rfl, rfl, rfl, rfl, rfl, rfl, rfl, rfl, rfl, rfl, rfl, rfl, rfl, rfl⟩
theorem ctx1 : CtxOK C1 P :=
  have c0 := ctx_nilr (G := G0) (P := P)
  have c1 := ctx_consr (m_port_New C0 ctx0) c0
  have c2 := ctx_consr (m_port_Port_Wrote C0 ctx0) c1
  have c3 := ctx_consr (m_port_Port_Out C0 ctx0) c2
  have c4 := ctx_consr (m_port_Port_Messages C0 ctx0) c3
  have c5 := ctx_consr (m_port_Port_Tick C0 ctx0) c4
  have c6 := ctx_consr (m_port_Port_Time C0 ctx0) c5
  have c7 := ctx_consr (m_port_Port_Reset C0 ctx0) c6
  have c8 := ctx_cons (bytes_ok _ c7) c7
  have c9 := ctx_cons (number_ok _ c8) c8
  have c10 := ctx_cons (cut_ok _ c9) c9
  have c11 := ctx_cons (same_ok _ c10) c10
  ctx_cons (value_ok _ c11) c11
theorem ctx : CtxOK C P := ctx_cons (awake_ok _ ctx1 portC1) ctx1
end Job
end Go.Am
