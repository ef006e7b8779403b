/- all functions together -/
import Derived.Test.YtloclegkilgglaaAes17
import Derived.Test.YtloclegkilgglaaAm29
namespace Go.Am
namespace Job
set_option linter.unusedVariables false
set_option linter.unusedSimpArgs false
set_option maxRecDepth 100000
open Go.Am.F
noncomputable def CW : Ctx := ⟨G0, fnTab [(37, fBoxesR), (16, fBoxR), (14, fMulR)], fun _ => none⟩
theorem ctxW : CtxOK CW P := by
  have z := ctx_nil (G := G0) (P := P)
  have w0 := ctx_cons (mulR_ok _ z) z
  have w1 := ctx_cons (boxR_ok _ w0 rfl) w0
  exact ctx_cons (boxesR_ok _ w1 rfl) w1
noncomputable def R1e : FuncId → Option AFun := afTab [(21, afun CW 1 r_ref03_Words a_ref03_Words), (9, afun C0 1 r_aes_New a_aes_New)]
noncomputable def C1e : Ctx := ⟨G0, fnTab [(18, fEncR), (37, fBoxesR), (26, fXorR), (25, fXor), (20, fWordsK), (38, fClone32), (23, fSame), (22, fValue), (16, fBoxR), (14, fMulR), (17, fBack), (10, fKey), (24, fCut), (27, fHex), (11, fDec), (12, fEnc), (19, fRounds), (33, fAdd), (34, fMixed), (32, fMoved), (15, fBox), (36, fRot8), (35, fInv), (13, fMul), (31, fTwice)], R1e⟩
noncomputable def Ce : Ctx := ⟨G0, fnTab [(8, fAwakeA), (18, fEncR), (37, fBoxesR), (26, fXorR), (25, fXor), (20, fWordsK), (38, fClone32), (23, fSame), (22, fValue), (16, fBoxR), (14, fMulR), (17, fBack), (10, fKey), (24, fCut), (27, fHex), (11, fDec), (12, fEnc), (19, fRounds), (33, fAdd), (34, fMixed), (32, fMoved), (15, fBox), (36, fRot8), (35, fInv), (13, fMul), (31, fTwice)], R1e⟩
theorem aesCe1e : AesC C1e := ⟨rfl, rfl, rfl, rfl, rfl, rfl, rfl⟩
theorem aesCe : AesC Ce := ⟨rfl, rfl, rfl, rfl, rfl, rfl, rfl⟩
theorem ctx1e : CtxOK C1e P := by
  have z := ctx_nilr (G := G0) (P := P)
  have c0 := ctx_consr (m_ref03_Words CW ctxW) (ctx_consr (m_aes_New C0 ctx0) z)
  have c1 := ctx_cons (twice_ok _ c0) c0
  have c2 := ctx_cons (mul_ok _ c1 rfl) c1
  have c3 := ctx_cons (inv_ok _ c2 rfl) c2
  have c4 := ctx_cons (rot8_ok _ c3) c3
  have c5 := ctx_cons (box_ok _ c4 rfl rfl) c4
  have c6 := ctx_cons (moved_ok _ c5) c5
  have c7 := ctx_cons (mixed_ok _ c6 rfl) c6
  have c8 := ctx_cons (add_ok _ c7) c7
  have c9 := ctx_cons (rounds_ok _ c8) c8
  have c10 := ctx_cons (enc_ok _ c9 rfl rfl rfl rfl) c9
  have c11 := ctx_cons (dec_ok _ c10 rfl rfl rfl rfl) c10
  have c12 := ctx_cons (hex_ok _ c11) c11
  have c13 := ctx_cons (cut_ok _ c12) c12
  have c14 := ctx_cons (key_ok _ c13 rfl) c13
  have c15 := ctx_cons (back_ok _ c14 rfl rfl) c14
  have c16 := ctx_cons (mulR_ok _ c15) c15
  have c17 := ctx_cons (boxR_ok _ c16 rfl) c16
  have c18 := ctx_cons (value_ok _ c17) c17
  have c19 := ctx_cons (same_ok _ c18) c18
  have c20 := ctx_cons (clone32_ok _ c19) c19
  have c21 := ctx_cons (wordsK_ok _ c20 rfl) c20
  have c22 := ctx_cons (xor_ok _ c21) c21
  have c23 := ctx_cons (xorR_ok _ c22) c22
  have c24 := ctx_cons (boxesR_ok _ c23 rfl) c23
  exact ctx_cons (encR_ok _ CW c24 rfl rfl rfl rfl rfl rfl) c24
theorem ctxe : CtxOK Ce P := ctx_cons (awakeA_ok _ ctx1e aesCe1e) ctx1e
end Job
end Go.Am
