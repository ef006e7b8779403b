/- images: the reads are inlined -/
import Derived.Test.YtbipaoihfpklgaaDoorManC
import Derived.Test.YtbipaoihfpklgaaDoorManB
import Derived.Test.YtbipaoihfpklgaaDoorAm31
namespace Go.Am
namespace Job
set_option linter.unusedVariables false
set_option linter.unusedSimpArgs false
set_option maxRecDepth 100000
open Go.Am.F
noncomputable def RK : FuncId → Option AFun := afTab [(19, afun C 1 r_manifest_Read a_manifest_Read), (20, afun C 1 r_ref08_Read a_ref08_Read)]
noncomputable def CK0 : Ctx := ⟨G0, C.fn, RK⟩
theorem ctxK0 : CtxOK CK0 P := by
  have z := ctx_nilr (G := G0) (P := P)
  have z0 := ctx_consr (m_ref08_Read C ctx) z
  have z1 := ctx_consr (m_manifest_Read C ctx) z0
  exact ⟨ctx.1, z1.2⟩
noncomputable def fnK : FuncId → Option Fn := fun f => if f = 17 then some fImage else if f = 15 then some fPay else C.fn f
noncomputable def CK : Ctx := ⟨G0, fnK, RK⟩
theorem CK_first : CK.glob 0 = some (numsD .u32 firstZ) := rfl
theorem CK_rounds : CK.glob 2 = some (numsD .u32 roundsZ) := rfl
theorem CK_glob_none (g : Nat) (h0 : ¬ g = 0) (h1 : ¬ g = 2) : CK.glob g = none := C_glob_none g h0 h1
theorem ctxK : CtxOK CK P := by
  refine ⟨fun f F h => ?_, ctxK0.2⟩
  show Meets CK0.glob P f (Fn.run F)
  unfold CK fnK at h
  simp only at h
  by_cases h1 : f = 17
  · subst h1; rw [if_pos rfl] at h; cases h; exact image_ok _ ctxK0 rfl rfl
  · rw [if_neg h1] at h
    by_cases h2 : f = 15
    · subst h2; rw [if_pos rfl] at h; cases h; exact pay_ok _ ctxK0 rfl rfl
    · rw [if_neg h2] at h; exact ctxK0.1 f F h
end Job
end Go.Am
