/- all functions together -/
import Derived.Test.YtmicfjeedofokaaDoorJn7
import Derived.Test.YtmicfjeedofokaaDoorAm31
namespace Go.Am
namespace Job
set_option linter.unusedVariables false
set_option linter.unusedSimpArgs false
set_option maxRecDepth 100000
def G0 : Nat → Option D := fun g => if g = 0 then some (h8D firstL) else if g = 2 then some (w64D roundsL) else none
noncomputable def C : Ctx := ⟨G0, fnTab [(26, fBytesF), (35, fAllF), (25, fRefJ), (22, fReadJ), (19, fFirst), (17, fParseJ), (16, fParseJ), (14, fRBytesJ), (10, fBytesJ), (11, fRightJ), (12, fRightJ), (29, fSlot), (41, fAfter), (23, fPages), (39, fSize), (36, fRead), (37, fPageE), (50, fWithin), (52, fClears), (34, fRepeat), (48, fMul64), (60, fMul64), (51, fClone), (32, fEqual), (13, fSame), (28, fSum), (45, fBJoin), (46, fStSum), (44, fFeed), (43, fNew), (56, fPad), (55, fDigest), (31, fRSum), (47, fPressR), (54, fPress), (62, fSpread), (15, fJoin), (30, fNumS), (9, fCut), (33, fValue), (58, fRoots), (57, fTurn), (64, fWord), (63, fRot)], fun _ => none⟩
theorem C_glob_none (g : Nat) (h0 : ¬ g = 0) (h1 : ¬ g = 2) : C.glob g = none := by
  show G0 g = none
  unfold G0
  rw [if_neg h0, if_neg h1]
def firstZ : List Int := firstL.map fun x => (x.toNat : Int)
def roundsZ : List Int := roundsL.map fun x => (x.toNat : Int)
theorem C_first : C.glob 0 = some (numsD .u32 firstZ) := rfl
theorem C_rounds : C.glob 2 = some (numsD .u32 roundsZ) := rfl
theorem ctx : CtxOK C P := by
  have c0 := ctx_nil (G := G0) (P := P)
  have c1 := ctx_cons (rot_ok _ c0) c0
  have c2 := ctx_cons (word_ok _ c1) c1
  have c3 := ctx_cons (turn_ok _ c2) c2
  have c4 := ctx_cons (roots_ok _ c3) c3
  have c5 := ctx_cons (value_ok _ c4) c4
  have c6 := ctx_cons (cut_ok _ c5) c5
  have c7 := ctx_cons (num_sl _ c6) c6
  have c8 := ctx_cons (join_ok _ c7) c7
  have c9 := ctx_cons (spread_ok _ c8 rfl rfl) c8
  have c10 := ctx_cons (press_ok _ c9 rfl rfl rfl) c9
  have c11 := ctx_cons (pressR_ok _ c10 rfl rfl rfl) c10
  have c12 := ctx_cons (rsum_ok _ c11 rfl rfl rfl) c11
  have c13 := ctx_cons (digest_ok _ c12) c12
  have c14 := ctx_cons (pad_ok _ c13) c13
  have c15 := ctx_cons (new_ok _ c14 rfl) c14
  have c16 := ctx_cons (feed_meets _ c15 rfl) c15
  have c17 := ctx_cons (stsum_ok _ c16 rfl rfl rfl) c16
  have c18 := ctx_cons (bjoin_ok _ c17) c17
  have c19 := ctx_cons (sum_ok _ c18 rfl rfl rfl rfl) c18
  have c20 := ctx_cons (same_ok _ c19) c19
  have c21 := ctx_cons (equal_ok _ c20) c20
  have c22 := ctx_cons (clone_ok _ c21) c21
  have c23 := ctx_cons (mul64_ok _ c22) c22
  have c24 := ctx_cons (bmul_ok _ c23 rfl) c23
  have c25 := ctx_cons (repeat_ok _ c24 rfl) c24
  have c26 := ctx_cons (clears_ok _ c25) c25
  have c27 := ctx_cons (within_ok _ c26) c26
  have c28 := ctx_cons (page_ok _ c27) c27
  have c29 := ctx_cons (read_ok _ c28 rfl rfl) c28
  have c30 := ctx_cons (size_ok _ c29) c29
  have c31 := ctx_cons (pages_ok _ c30 rfl) c30
  have c32 := ctx_cons (after_ok _ c31 rfl rfl rfl rfl) c31
  have c33 := ctx_cons (slot_ok _ c32) c32
  have c34 := ctx_cons (rightj_ok _ c33 rfl) c33
  have c35 := ctx_cons (rrightj_ok _ c34) c34
  have c36 := ctx_cons (bytesj_ok _ c35 rfl rfl) c35
  have c37 := ctx_cons (rbytesj_ok _ c36 rfl rfl rfl) c36
  have c38 := ctx_cons (parsej_ok _ c37 rfl rfl) c37
  have c39 := ctx_cons (rparsej_ok _ c38 rfl rfl rfl rfl) c38
  have c40 := ctx_cons (first_ok _ c39) c39
  have c41 := ctx_cons (readj_ok _ c40 rfl rfl rfl) c40
  have c42 := ctx_cons (refj_ok _ c41 rfl) c41
  have c43 := ctx_cons (allf_ok _ c42 rfl) c42
  exact ctx_cons (bytesf_ok _ c43 rfl rfl) c43
open Go.Am.F
theorem meets_GF {P : Program} {G : Nat → Option D} {f : FuncId} {A : AFun} (h : Meets GF P f A) : Meets G P f A :=
  fun ds rows K hA ρ w T args h1 h2 h3 h4 _ => h ds rows K hA ρ w T args h1 h2 h3 h4 (fun g d hg => by cases hg)
noncomputable def fl0 : List (Nat × AFun) := [(18, afun CF 1 r_flash_New a_flash_New), (38, afun CF 3 r_flash_Flash_Write a_flash_Flash_Write), (42, afun CF 4 r_flash_Flash_Tear a_flash_Flash_Tear)]
noncomputable def CJ0 : Ctx := ⟨G0, C.fn, afTab fl0⟩
theorem ctxJ0 : CtxOK CJ0 P := by
  have z := ctx_nilr (G := G0) (P := P)
  have z0 := ctx_consr (meets_GF (m_flash_Flash_Tear CF ctxF)) z
  have z1 := ctx_consr (meets_GF (m_flash_Flash_Write CF ctxF)) z0
  have z2 := ctx_consr (meets_GF (m_flash_New CF ctxF)) z1
  exact ⟨ctx.1, z2.2⟩
noncomputable def CJ1 : Ctx := ⟨G0, C.fn, afTab ((27, afun CJ0 4 r_journal_Tear a_journal_Tear) :: fl0)⟩
theorem ctxJ1 : CtxOK CJ1 P := ⟨ctx.1, (ctx_consr (m_journal_Tear CJ0 ctxJ0) ctxJ0).2⟩
noncomputable def CJ : Ctx := ⟨G0, C.fn, afTab ((21, afun CJ1 3 r_journal_Do a_journal_Do) :: (24, afun CJ0 2 r_law22_lay a_law22_lay) :: (20, afun CJ0 2 r_journal_Next a_journal_Next) :: (27, afun CJ0 4 r_journal_Tear a_journal_Tear) :: fl0)⟩
theorem ctxJ : CtxOK CJ P := by
  have z3 := ctx_consr (m_journal_Next CJ0 ctxJ0) ctxJ1
  have z4 := ctx_consr (m_law22_lay CJ0 ctxJ0) z3
  have z5 := ctx_consr (m_journal_Do CJ1 ctxJ1) z4
  exact ⟨ctx.1, z5.2⟩
theorem jf0 : JF CJ0 := ⟨rfl, rfl, rfl, rfl, rfl, rfl, rfl, rfl, rfl, rfl, rfl, rfl, rfl, rfl, rfl, rfl, rfl, rfl, rfl, rfl⟩
theorem jf1 : JF CJ1 := ⟨rfl, rfl, rfl, rfl, rfl, rfl, rfl, rfl, rfl, rfl, rfl, rfl, rfl, rfl, rfl, rfl, rfl, rfl, rfl, rfl⟩
theorem jfJ : JF CJ := ⟨rfl, rfl, rfl, rfl, rfl, rfl, rfl, rfl, rfl, rfl, rfl, rfl, rfl, rfl, rfl, rfl, rfl, rfl, rfl, rfl⟩
theorem jrJ : JR CJ0 CJ1 CJ := ⟨jf0, jf1, jfJ, ⟨rfl, rfl, rfl, rfl, rfl⟩, rfl, rfl, rfl, rfl, rfl, rfl, rfl, rfl, rfl, rfl⟩
noncomputable def CL : Ctx := ⟨G0, fun f => if f = 8 then some fAwakeJ else C.fn f, CJ.fnr⟩
theorem ctxL : CtxOK CL P := by
  refine ⟨fun f F h => ?_, ctxJ.2⟩
  show Meets CJ.glob P f (Fn.run F)
  unfold CL at h
  simp only at h
  by_cases h1 : f = 8
  · subst h1; rw [if_pos rfl] at h; cases h; exact awakej_ok CJ0 CJ1 CJ ctxJ jrJ
  · rw [if_neg h1] at h
    exact ctxJ.1 f F h
theorem jfL : JF CL := ⟨rfl, rfl, rfl, rfl, rfl, rfl, rfl, rfl, rfl, rfl, rfl, rfl, rfl, rfl, rfl, rfl, rfl, rfl, rfl, rfl⟩
theorem jrL : JR CJ0 CJ1 CL := ⟨jf0, jf1, jfL, ⟨rfl, rfl, rfl, rfl, rfl⟩, rfl, rfl, rfl, rfl, rfl, rfl, rfl, rfl, rfl, rfl⟩
theorem CL_first : CL.glob 0 = some (numsD .u32 firstZ) := rfl
theorem CL_rounds : CL.glob 2 = some (numsD .u32 roundsZ) := rfl
theorem CL_glob_none (g : Nat) (h0 : ¬ g = 0) (h1 : ¬ g = 2) : CL.glob g = none := C_glob_none g h0 h1
theorem dk_js (d : D) (h : DK (.struct (.cons (.int .u32) (.cons (.int .i64) (.cons (.int .i64) (.cons (.int .i64) .nil))))) d) : ∃ s : JS, d = jD s := by
  simp only [DK] at h
  obtain ⟨ds, rfl, h0⟩ := h
  rcases ds with _ | ⟨e0, _ | ⟨e1, _ | ⟨e2, _ | ⟨e3, _ | ⟨e4, l⟩⟩⟩⟩⟩
  · exact h0.elim
  · exact h0.2.elim
  · exact h0.2.2.elim
  · exact h0.2.2.2.elim
  · obtain ⟨h1, h2, h3, h4, -⟩ := h0
    unfold DK at h1 h2 h3 h4
    obtain ⟨q, rfl⟩ := h1
    obtain ⟨a, -, rfl⟩ := h2
    obtain ⟨b, -, rfl⟩ := h3
    obtain ⟨c, -, rfl⟩ := h4
    exact ⟨⟨q, a, b, c⟩, rfl⟩
  · exact h0.2.2.2.2.elim
end Job
end Go.Am
