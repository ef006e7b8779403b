/- all functions together -/
import Derived.Test.YtgfhkmpmdfdemaaFl11
import Derived.Test.YtgfhkmpmdfdemaaAm29
namespace Go.Am
namespace Job
set_option linter.unusedVariables false
set_option linter.unusedSimpArgs false
set_option maxRecDepth 100000
open Go.Am.F
noncomputable def R1 : FuncId → Option AFun := afTab [(20, afun CF 4 r_flash_Flash_Tear a_flash_Flash_Tear), (14, afun CF 3 r_flash_Flash_Write a_flash_Flash_Write), (13, afun CF 2 r_flash_Flash_Erase a_flash_Flash_Erase), (12, afun CF 1 r_flash_Flash_Copy a_flash_Flash_Copy), (10, afun CF 3 r_flash_Flash_Turn a_flash_Flash_Turn), (9, afun CF 1 r_flash_New a_flash_New)]
noncomputable def C1 : Ctx := ⟨G0, fnTab [(21, fRNew), (17, fCut), (18, fSame), (19, fAfter), (22, fPages), (16, fSize), (11, fBlank), (15, fRead), (28, fPageE), (26, fWithin), (29, fClears), (27, fClone), (25, fRepeat), (31, fMul64), (37, fMul64)], R1⟩
noncomputable def C : Ctx := ⟨G0, fnTab [(8, fAwake), (21, fRNew), (17, fCut), (18, fSame), (19, fAfter), (22, fPages), (16, fSize), (11, fBlank), (15, fRead), (28, fPageE), (26, fWithin), (29, fClears), (27, fClone), (25, fRepeat), (31, fMul64), (37, fMul64)], R1⟩
theorem flC1 : FlC C1 := ⟨rfl, rfl, rfl, rfl, rfl, rfl, rfl, rfl, rfl, rfl, rfl, rfl, rfl, rfl, rfl, rfl, rfl⟩
theorem flC : FlC C := ⟨rfl, rfl, rfl, rfl, rfl, rfl, rfl, rfl, rfl, rfl, rfl, rfl, rfl, rfl, rfl, rfl, rfl⟩
theorem ctx1 : CtxOK C1 P := by
  have z := ctx_nilr (G := G0) (P := P)
  have z0 := ctx_consr (m_flash_New CF ctxF) z
  have z1 := ctx_consr (m_flash_Flash_Turn CF ctxF) z0
  have z2 := ctx_consr (m_flash_Flash_Copy CF ctxF) z1
  have z3 := ctx_consr (m_flash_Flash_Erase CF ctxF) z2
  have z4 := ctx_consr (m_flash_Flash_Write CF ctxF) z3
  have z5 := ctx_consr (m_flash_Flash_Tear CF ctxF) z4
  have c0 := z5
  have c1 := ctx_cons (mul64_ok _ c0) c0
  have c2 := ctx_cons (bmul_ok _ c1 rfl) c1
  have c3 := ctx_cons (repeat_ok _ c2 rfl) c2
  have c4 := ctx_cons (clone_ok _ c3) c3
  have c5 := ctx_cons (clears_ok _ c4) c4
  have c6 := ctx_cons (within_ok _ c5) c5
  have c7 := ctx_cons (page_ok _ c6) c6
  have c8 := ctx_cons (read_ok _ c7 rfl rfl) c7
  have c9 := ctx_cons (blank_ok _ c8 rfl) c8
  have c10 := ctx_cons (size_ok _ c9) c9
  have c11 := ctx_cons (pages_ok _ c10 rfl) c10
  have c12 := ctx_cons (after_ok _ c11 rfl rfl rfl rfl) c11
  have c13 := ctx_cons (same_ok _ c12) c12
  have c14 := ctx_cons (cut_ok _ c13) c13
  exact ctx_cons (rnew_ok _ c14) c14
theorem ctx : CtxOK C P := ctx_cons (awake_ok _ ctx1 flC1) ctx1
end Job
end Go.Am
