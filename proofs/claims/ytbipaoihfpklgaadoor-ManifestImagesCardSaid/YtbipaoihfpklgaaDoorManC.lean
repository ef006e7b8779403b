/- all functions together -/
import Derived.Test.YtbipaoihfpklgaaDoorMan4
import Derived.Test.YtbipaoihfpklgaaDoorCom
import Derived.Test.YtbipaoihfpklgaaDoorAm31
namespace Go.Am
namespace Job
set_option linter.unusedVariables false
set_option linter.unusedSimpArgs false
set_option maxRecDepth 100000
def G0 : Nat → Option D := fun g => if g = 0 then some (h8D firstL) else if g = 2 then some (w64D roundsL) else none
noncomputable def C : Ctx := ⟨G0, fnTab [(5, fAwakeM), (16, fOf), (14, fParse), (13, fParse), (11, fRefBodyM), (7, fBodyM), (9, fOwn), (8, fRight), (22, fRight), (25, fNum), (30, fClone), (24, fPre), (31, fEqual), (10, fSame), (27, fSum), (28, fBJoin), (34, fStSum), (33, fFeed), (32, fNew), (40, fPad), (39, fDigest), (18, fRSum), (29, fPressR), (38, fPress), (41, fSpread), (21, fHex), (12, fJoin), (23, fNumS), (6, fCut), (26, fValue), (37, fRoots), (36, fTurn), (43, fWord), (42, fRot)], fun _ => none⟩
theorem C_glob_none (g : Nat) (h0 : ¬ g = 0) (h1 : ¬ g = 2) : C.glob g = none := by
  show G0 g = none
  unfold G0
  rw [if_neg h0, if_neg h1]
def firstZ : List Int := firstL.map fun x => (x.toNat : Int)
def roundsZ : List Int := roundsL.map fun x => (x.toNat : Int)
theorem C_first : C.glob 0 = some (numsD .u32 firstZ) := rfl
theorem C_rounds : C.glob 2 = some (numsD .u32 roundsZ) := rfl
theorem ctx : CtxOK C P := by
  have c0 := ctx_nil (G := G0) (P := P)
  have c1 := ctx_cons (rot_ok _ c0) c0
  have c2 := ctx_cons (word_ok _ c1) c1
  have c3 := ctx_cons (turn_ok _ c2) c2
  have c4 := ctx_cons (roots_ok _ c3) c3
  have c5 := ctx_cons (value_ok _ c4) c4
  have c6 := ctx_cons (cut_ok _ c5) c5
  have c7 := ctx_cons (num_sl _ c6) c6
  have c8 := ctx_cons (join_ok _ c7) c7
  have c9 := ctx_cons (hex_ok _ c8) c8
  have c10 := ctx_cons (spread_ok _ c9 rfl rfl) c9
  have c11 := ctx_cons (press_ok _ c10 rfl rfl rfl) c10
  have c12 := ctx_cons (pressR_ok _ c11 rfl rfl rfl) c11
  have c13 := ctx_cons (rsum_ok _ c12 rfl rfl rfl) c12
  have c14 := ctx_cons (digest_ok _ c13) c13
  have c15 := ctx_cons (pad_ok _ c14) c14
  have c16 := ctx_cons (new_ok _ c15 rfl) c15
  have c17 := ctx_cons (feed_meets _ c16 rfl) c16
  have c18 := ctx_cons (stsum_ok _ c17 rfl rfl rfl) c17
  have c19 := ctx_cons (bjoin_ok _ c18) c18
  have c20 := ctx_cons (sum_ok _ c19 rfl rfl rfl rfl) c19
  have c21 := ctx_cons (same_ok _ c20) c20
  have c22 := ctx_cons (equal_ok _ c21) c21
  have c23 := ctx_cons (pre_ok _ c22 rfl) c22
  have c24 := ctx_cons (clone_ok _ c23) c23
  have c25 := ctx_cons (num_ok _ c24) c24
  have c26 := ctx_cons (right_ok _ c25) c25
  have c27 := ctx_cons (rright_ok _ c26) c26
  have c28 := ctx_cons (own_ok _ c27) c27
  have c29 := ctx_cons (body_ok _ c28 rfl) c28
  have c30 := ctx_cons (refBody_ok _ c29 rfl rfl) c29
  have c31 := ctx_cons (parse_ok _ c30 rfl rfl rfl) c30
  have c32 := ctx_cons (refParse_ok _ c31 rfl rfl) c31
  have c33 := ctx_cons (of_ok _ c32 rfl) c32
  exact ctx_cons (awakeM_ok _ c33 rfl rfl rfl rfl) c33
theorem dk_man (d : D) (h : DK (.struct (.cons (.int .i64) (.cons (.int .i64) (.cons (.int .i64) (.cons (.arr 32 (.int .u8)) .nil))))) d) : ∃ m : Man, d = manD m ∧ m.dg.length = 32 := by
  simp only [DK] at h
  obtain ⟨ds, rfl, h0⟩ := h
  rcases ds with _ | ⟨e0, _ | ⟨e1, _ | ⟨e2, _ | ⟨e3, _ | ⟨e4, l⟩⟩⟩⟩⟩
  · exact h0.elim
  · exact h0.2.elim
  · exact h0.2.2.elim
  · exact h0.2.2.2.elim
  · obtain ⟨h1, h2, h3, h4, -⟩ := h0
    unfold DK at h1 h2 h3
    obtain ⟨a, -, rfl⟩ := h1
    obtain ⟨b, -, rfl⟩ := h2
    obtain ⟨c, -, rfl⟩ := h3
    obtain ⟨x, rfl, hl⟩ := dk_arr8 h4
    exact ⟨⟨a, b, c, x⟩, rfl, hl⟩
  · exact h0.2.2.2.2.elim
end Job
end Go.Am
