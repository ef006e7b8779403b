/- all functions together, for the scripts -/
import Derived.Test.YtgfhkmpmdfdemaaFl17
import Derived.Test.YtgfhkmpmdfdemaaAm29
namespace Go.Am
namespace Job
set_option linter.unusedVariables false
set_option linter.unusedSimpArgs false
set_option maxRecDepth 100000
open Go.Am.F
noncomputable def R2 : FuncId → Option AFun := afTab [(24, afun CR 1 r_ref12_Few a_ref12_Few), (23, afun CD 3 r_law12_do a_law12_do), (20, afun CF 4 r_flash_Flash_Tear a_flash_Flash_Tear), (14, afun CF 3 r_flash_Flash_Write a_flash_Flash_Write), (13, afun CF 2 r_flash_Flash_Erase a_flash_Flash_Erase), (12, afun CF 1 r_flash_Flash_Copy a_flash_Flash_Copy), (10, afun CF 3 r_flash_Flash_Turn a_flash_Flash_Turn), (9, afun CF 1 r_flash_New a_flash_New)]
noncomputable def K1 : Ctx := ⟨G0, fnTab [(34, fLay), (35, fJoin), (33, fIn), (21, fRNew), (17, fCut), (18, fSame), (19, fAfter), (22, fPages), (16, fSize), (11, fBlank), (15, fRead), (28, fPageE), (26, fWithin), (29, fClears), (27, fClone), (25, fRepeat), (31, fMul64), (37, fMul64)], R2⟩
noncomputable def K2 : Ctx := ⟨G0, fnTab [(8, fAwake), (34, fLay), (35, fJoin), (33, fIn), (21, fRNew), (17, fCut), (18, fSame), (19, fAfter), (22, fPages), (16, fSize), (11, fBlank), (15, fRead), (28, fPageE), (26, fWithin), (29, fClears), (27, fClone), (25, fRepeat), (31, fMul64), (37, fMul64)], R2⟩
theorem flK1 : FlC K1 := ⟨rfl, rfl, rfl, rfl, rfl, rfl, rfl, rfl, rfl, rfl, rfl, rfl, rfl, rfl, rfl, rfl, rfl⟩
theorem flK : FlC K2 := ⟨rfl, rfl, rfl, rfl, rfl, rfl, rfl, rfl, rfl, rfl, rfl, rfl, rfl, rfl, rfl, rfl, rfl⟩
theorem ctxK1 : CtxOK K1 P := by
  have z := ctx_nilr (G := G0) (P := P)
  have z0 := ctx_consr (m_flash_New CF ctxF) z
  have z1 := ctx_consr (m_flash_Flash_Turn CF ctxF) z0
  have z2 := ctx_consr (m_flash_Flash_Copy CF ctxF) z1
  have z3 := ctx_consr (m_flash_Flash_Erase CF ctxF) z2
  have z4 := ctx_consr (m_flash_Flash_Write CF ctxF) z3
  have z5 := ctx_consr (m_flash_Flash_Tear CF ctxF) z4
  have z6 := ctx_consr (m_law12_do CD ctxD) z5
  have z7 := ctx_consr (m_ref12_Few CR ctxR) z6
  have c0 := z7
  have c1 := ctx_cons (mul64_ok _ c0) c0
  have c2 := ctx_cons (bmul_ok _ c1 rfl) c1
  have c3 := ctx_cons (repeat_ok _ c2 rfl) c2
  have c4 := ctx_cons (clone_ok _ c3) c3
  have c5 := ctx_cons (clears_ok _ c4) c4
  have c6 := ctx_cons (within_ok _ c5) c5
  have c7 := ctx_cons (page_ok _ c6) c6
  have c8 := ctx_cons (read_ok _ c7 rfl rfl) c7
  have c9 := ctx_cons (blank_ok _ c8 rfl) c8
  have c10 := ctx_cons (size_ok _ c9) c9
  have c11 := ctx_cons (pages_ok _ c10 rfl) c10
  have c12 := ctx_cons (after_ok _ c11 rfl rfl rfl rfl) c11
  have c13 := ctx_cons (same_ok _ c12) c12
  have c14 := ctx_cons (cut_ok _ c13) c13
  have c15 := ctx_cons (rnew_ok _ c14) c14
  have c16 := ctx_cons (in_ok _ c15) c15
  have c17 := ctx_cons (join_ok _ c16) c16
  exact ctx_cons (lay_ok _ c17 rfl rfl) c17
theorem ctxK : CtxOK K2 P := ctx_cons (awake_ok _ ctxK1 flK1) ctxK1
theorem act_of {d : D} (h : DK (.struct (.cons (.int .u8) (.cons (.int .i64) (.cons (.int .i64) (.cons (.slice (.int .u8)) (.cons (.slice (.int .u8)) .nil)))))) d) :
    ∃ (t : BitVec 8) (i j : Int) (dp dq : D) (p q : List (BitVec 8)), d = actD t i j dp dq ∧ IsBs dp p ∧ IsBs dq q ∧ p.length ≤ maxLen ∧ q.length ≤ maxLen := by
  obtain ⟨ds, rfl, h⟩ := h
  rcases ds with _ | ⟨d0, _ | ⟨d1, _ | ⟨d2, _ | ⟨d3, _ | ⟨d4, _ | ⟨d5, l⟩⟩⟩⟩⟩⟩
  · exact h.elim
  · exact h.2.elim
  · exact h.2.2.elim
  · exact h.2.2.2.elim
  · exact h.2.2.2.2.elim
  · obtain ⟨h0, h1, h2, h3, h4, -⟩ := h
    obtain ⟨p, hp, -, hpl⟩ := dk_bs h3
    obtain ⟨q, hq, -, hql⟩ := dk_bs h4
    unfold DK at h0 h1 h2
    obtain ⟨t, rfl⟩ := h0
    obtain ⟨i, -, rfl⟩ := h1
    obtain ⟨j, -, rfl⟩ := h2
    exact ⟨t, i, j, d3, d4, p, q, rfl, hp, hq, hpl, hql⟩
  · exact h.2.2.2.2.2.elim
end Job
end Go.Am
