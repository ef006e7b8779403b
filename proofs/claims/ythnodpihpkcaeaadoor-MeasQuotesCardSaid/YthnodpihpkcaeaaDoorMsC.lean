/- all functions together -/
import Derived.Test.YthnodpihpkcaeaaDoorMs4
import Derived.Test.YthnodpihpkcaeaaDoorAm31
namespace Go.Am
namespace Job
open Go.Am.F
set_option linter.unusedVariables false
set_option linter.unusedSimpArgs false
set_option maxRecDepth 100000
def G0 : Nat → Option D := fun g => if g = 0 then some (h8D firstL) else if g = 1 then some (w64D roundsL) else none
noncomputable def C0 : Ctx := ⟨G0, fun _ => none, fun _ => none⟩
theorem ctx0 : CtxOK C0 P := by
  have c0 := ctx_nil (G := G0) (P := P)
  exact c0
noncomputable def C1 : Ctx := ⟨G0, fun _ => none, afTab [(32, afun C0 2 r_slot_within_slot_place a_slot_within_slot_place)]⟩
theorem ctx1 : CtxOK C1 P := by
  have z := ctx_nilr (G := G0) (P := P)
  have z0 := ctx_consr (m_slot_within_slot_place C0 ctx0) z
  have c0 := z0
  exact c0
noncomputable def C2 : Ctx := ⟨G0, fun _ => none, afTab [(22, afun C1 2 r_slot_Slots_may a_slot_Slots_may)]⟩
theorem ctx2 : CtxOK C2 P := by
  have z := ctx_nilr (G := G0) (P := P)
  have z0 := ctx_consr (m_slot_Slots_may C1 ctx1) z
  have c0 := z0
  exact c0
noncomputable def C3 : Ctx := ⟨G0, fnTab [(27, fMacSum), (38, fMSum), (37, fMFeed), (36, fMNew), (46, fMPad), (21, fSum), (30, fBJoin), (31, fStSum), (29, fFeed), (28, fNew), (42, fPad), (41, fDigest), (39, fPress), (47, fSpread), (49, fWord), (48, fRot)], afTab [(33, afun C2 2 r_slot_Slots_key a_slot_Slots_key)]⟩
theorem ctx3 : CtxOK C3 P := by
  have z := ctx_nilr (G := G0) (P := P)
  have z0 := ctx_consr (m_slot_Slots_key C2 ctx2) z
  have c0 := z0
  have c1 := ctx_cons (rot_ok _ c0) c0
  have c2 := ctx_cons (word_ok _ c1) c1
  have c3 := ctx_cons (spread_ok _ c2 rfl rfl) c2
  have c4 := ctx_cons (press_ok _ c3 rfl rfl rfl) c3
  have c5 := ctx_cons (digest_ok _ c4) c4
  have c6 := ctx_cons (pad_ok _ c5) c5
  have c7 := ctx_cons (new_ok _ c6 rfl) c6
  have c8 := ctx_cons (feed_meets _ c7 rfl) c7
  have c9 := ctx_cons (stsum_ok _ c8 rfl rfl rfl) c8
  have c10 := ctx_cons (bjoin_ok _ c9) c9
  have c11 := ctx_cons (sum_ok _ c10 rfl rfl rfl rfl) c10
  have c12 := ctx_cons (mpad_ok _ c11) c11
  have c13 := ctx_cons (mnew_ok _ c12 rfl rfl rfl rfl) c12
  have c14 := ctx_cons (mfeed_ok _ c13 rfl) c13
  have c15 := ctx_cons (msum_ok _ c14 rfl rfl) c14
  have c16 := ctx_cons (macsum_ok _ c15 rfl rfl rfl) c15
  exact c16
noncomputable def Cp : Ctx := ⟨G0, fnTab [(34, fMText)], fun _ => none⟩
theorem ctxp : CtxOK Cp P := by
  have c0 := ctx_nil (G := G0) (P := P)
  have c1 := ctx_cons (mtext_ok _ c0) c0
  exact c1
noncomputable def C4 : Ctx := ⟨G0, fun _ => none, afTab [(23, afun C3 3 r_slot_Slots_Mac a_slot_Slots_Mac), (24, afun Cp 2 r_meas_parts a_meas_parts)]⟩
theorem ctx4 : CtxOK C4 P := by
  have z := ctx_nilr (G := G0) (P := P)
  have z0 := ctx_consr (m_meas_parts Cp ctxp) z
  have z1 := ctx_consr (m_slot_Slots_Mac C3 ctx3) z0
  have c0 := z1
  exact c0
noncomputable def C : Ctx := ⟨G0, fnTab [(4, fAwakeM), (19, fNextR), (16, fSumQ), (15, fCheckQ), (24, fPartsQ), (11, fAllR), (18, fGetR), (6, fExtend), (34, fMText), (5, fMsNew), (20, fThere), (12, fRMac), (26, fMEqual), (25, fRSum), (35, fPressR), (13, fJoin), (14, fNumS), (17, fSame), (7, fCut), (43, fValue), (45, fRoots), (44, fTurn), (27, fMacSum), (38, fMSum), (37, fMFeed), (36, fMNew), (46, fMPad), (21, fSum), (30, fBJoin), (31, fStSum), (29, fFeed), (28, fNew), (42, fPad), (41, fDigest), (39, fPress), (47, fSpread), (49, fWord), (48, fRot)], afTab [(10, afun C4 4 r_meas_Meas_Quote a_meas_Meas_Quote), (9, afun C2 4 r_slot_Slots_Lay a_slot_Slots_Lay), (8, afun C1 0 r_slot_New a_slot_New)]⟩
theorem ctx : CtxOK C P := by
  have z := ctx_nilr (G := G0) (P := P)
  have z0 := ctx_consr (m_slot_New C1 ctx1) z
  have z1 := ctx_consr (m_slot_Slots_Lay C2 ctx2) z0
  have z2 := ctx_consr (m_meas_Meas_Quote C4 ctx4) z1
  have c0 := z2
  have c1 := ctx_cons (rot_ok _ c0) c0
  have c2 := ctx_cons (word_ok _ c1) c1
  have c3 := ctx_cons (spread_ok _ c2 rfl rfl) c2
  have c4 := ctx_cons (press_ok _ c3 rfl rfl rfl) c3
  have c5 := ctx_cons (digest_ok _ c4) c4
  have c6 := ctx_cons (pad_ok _ c5) c5
  have c7 := ctx_cons (new_ok _ c6 rfl) c6
  have c8 := ctx_cons (feed_meets _ c7 rfl) c7
  have c9 := ctx_cons (stsum_ok _ c8 rfl rfl rfl) c8
  have c10 := ctx_cons (bjoin_ok _ c9) c9
  have c11 := ctx_cons (sum_ok _ c10 rfl rfl rfl rfl) c10
  have c12 := ctx_cons (mpad_ok _ c11) c11
  have c13 := ctx_cons (mnew_ok _ c12 rfl rfl rfl rfl) c12
  have c14 := ctx_cons (mfeed_ok _ c13 rfl) c13
  have c15 := ctx_cons (msum_ok _ c14 rfl rfl) c14
  have c16 := ctx_cons (macsum_ok _ c15 rfl rfl rfl) c15
  have c17 := ctx_cons (turn_ok _ c16) c16
  have c18 := ctx_cons (roots_ok _ c17) c17
  have c19 := ctx_cons (value_ok _ c18) c18
  have c20 := ctx_cons (cut_ok _ c19) c19
  have c21 := ctx_cons (same_ok _ c20) c20
  have c22 := ctx_cons (num_sl _ c21) c21
  have c23 := ctx_cons (join_ok _ c22) c22
  have c24 := ctx_cons (pressR_ok _ c23 rfl rfl rfl) c23
  have c25 := ctx_cons (rsum_ok _ c24 rfl rfl rfl) c24
  have c26 := ctx_cons (mequal_ok _ c25) c25
  have c27 := ctx_cons (rmac_ok _ c26 rfl rfl) c26
  have c28 := ctx_cons (there_ok _ c27) c27
  have c29 := ctx_cons (msnew_ok _ c28) c28
  have c30 := ctx_cons (mtext_ok _ c29) c29
  have c31 := ctx_cons (extend_ok _ c30 rfl rfl) c30
  have c32 := ctx_cons (getr_ok _ c31 rfl) c31
  have c33 := ctx_cons (allr_ok _ c32) c32
  have c34 := ctx_cons (partsq_ok _ c33 rfl) c33
  have c35 := ctx_cons (checkq_ok _ c34 rfl rfl rfl) c34
  have c36 := ctx_cons (sumq_ok _ c35 rfl rfl rfl) c35
  have c37 := ctx_cons (nextr_ok _ c36 rfl rfl) c36
  have c38 := ctx_cons (awakem_ok _ c37 rfl rfl rfl rfl) c37
  exact c38
theorem C_glob_none (g : Nat) (h0 : ¬ g = 0) (h1 : ¬ g = 1) : C.glob g = none := by
  show G0 g = none
  unfold G0
  rw [if_neg h0, if_neg h1]
def firstZ : List Int := firstL.map fun x => (x.toNat : Int)
def roundsZ : List Int := roundsL.map fun x => (x.toNat : Int)
theorem C_first : C.glob 0 = some (numsD .u32 firstZ) := rfl
theorem C_rounds : C.glob 1 = some (numsD .u32 roundsZ) := rfl
theorem ql : QL C1 C2 C3 C4 Cp C := ⟨rfl, rfl, rfl, rfl, rfl, rfl, rfl, rfl, rfl, rfl, rfl, rfl, rfl, rfl, rfl, ⟨rfl, rfl, rfl, C0, rfl⟩, rfl, rfl, ⟨rfl, rfl, rfl, rfl, rfl, ⟨rfl, rfl, ⟨rfl, rfl, rfl, C0, rfl⟩, rfl⟩⟩⟩
theorem act_of {d : D} (h : DK (.struct (.cons (.int .i64) (.cons (.slice (.int .u8)) .nil))) d) : ∃ (i : Int) (dp : D) (p : List (BitVec 8)), d = mactD i dp ∧ IsBs dp p ∧ p.length ≤ maxLen := by
  obtain ⟨ds, rfl, h⟩ := h
  rcases ds with _ | ⟨d0, _ | ⟨d1, _ | ⟨d2, l⟩⟩⟩
  · exact h.elim
  · exact h.2.elim
  · obtain ⟨h0, h1, -⟩ := h
    obtain ⟨p, hp, -, hpl⟩ := dk_bs h1
    unfold DK at h0
    obtain ⟨i, -, rfl⟩ := h0
    exact ⟨i, d1, p, rfl, hp, hpl⟩
  · exact h.2.2.elim
end Job
end Go.Am
