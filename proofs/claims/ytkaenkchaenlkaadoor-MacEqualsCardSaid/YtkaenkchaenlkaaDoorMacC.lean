/- all functions together -/
import Derived.Test.YtkaenkchaenlkaaDoorMac5
import Derived.Test.YtkaenkchaenlkaaDoorAm31
namespace Go.Am
namespace Job
set_option linter.unusedVariables false
set_option linter.unusedSimpArgs false
set_option maxRecDepth 100000
def G0 : Nat → Option D := fun g => if g = 0 then some (h8D firstL) else if g = 1 then some (w64D roundsL) else none
noncomputable def C : Ctx := ⟨G0, fnTab [(7, fAwake), (17, fText), (19, fDer), (18, fDer), (28, fMNum), (9, fRMac), (13, fMacSum), (14, fMEqual), (12, fMSum), (11, fMFeed), (10, fMNew), (24, fMPad), (21, fSum), (29, fBJoin), (25, fStSum), (23, fFeed), (22, fNew), (32, fPad), (31, fDigest), (15, fRSum), (27, fPressR), (30, fPress), (37, fSpread), (20, fHex), (16, fJoin), (26, fNumS), (8, fCut), (33, fValue), (35, fRoots), (34, fTurn), (39, fWord), (38, fRot)], fun _ => none⟩
theorem C_glob_none (g : Nat) (h0 : ¬ g = 0) (h1 : ¬ g = 1) : C.glob g = none := by
  show G0 g = none
  unfold G0
  rw [if_neg h0, if_neg h1]
def firstZ : List Int := firstL.map fun x => (x.toNat : Int)
def roundsZ : List Int := roundsL.map fun x => (x.toNat : Int)
theorem C_first : C.glob 0 = some (numsD .u32 firstZ) := rfl
theorem C_rounds : C.glob 1 = some (numsD .u32 roundsZ) := rfl
theorem ctx : CtxOK C P := by
  have c0 := ctx_nil (G := G0) (P := P)
  have c1 := ctx_cons (rot_ok _ c0) c0
  have c2 := ctx_cons (word_ok _ c1) c1
  have c3 := ctx_cons (turn_ok _ c2) c2
  have c4 := ctx_cons (roots_ok _ c3) c3
  have c5 := ctx_cons (value_ok _ c4) c4
  have c6 := ctx_cons (cut_ok _ c5) c5
  have c7 := ctx_cons (num_sl _ c6) c6
  have c8 := ctx_cons (join_ok _ c7) c7
  have c9 := ctx_cons (hex_ok _ c8) c8
  have c10 := ctx_cons (spread_ok _ c9 rfl rfl) c9
  have c11 := ctx_cons (press_ok _ c10 rfl rfl rfl) c10
  have c12 := ctx_cons (pressR_ok _ c11 rfl rfl rfl) c11
  have c13 := ctx_cons (rsum_ok _ c12 rfl rfl rfl) c12
  have c14 := ctx_cons (digest_ok _ c13) c13
  have c15 := ctx_cons (pad_ok _ c14) c14
  have c16 := ctx_cons (new_ok _ c15 rfl) c15
  have c17 := ctx_cons (feed_meets _ c16 rfl) c16
  have c18 := ctx_cons (stsum_ok _ c17 rfl rfl rfl) c17
  have c19 := ctx_cons (bjoin_ok _ c18) c18
  have c20 := ctx_cons (sum_ok _ c19 rfl rfl rfl rfl) c19
  have c21 := ctx_cons (mpad_ok _ c20) c20
  have c22 := ctx_cons (mnew_ok _ c21 rfl rfl rfl rfl) c21
  have c23 := ctx_cons (mfeed_ok _ c22 rfl) c22
  have c24 := ctx_cons (msum_ok _ c23 rfl rfl) c23
  have c25 := ctx_cons (mequal_ok _ c24) c24
  have c26 := ctx_cons (macsum_ok _ c25 rfl rfl rfl) c25
  have c27 := ctx_cons (rmac_ok _ c26 rfl rfl) c26
  have c28 := ctx_cons (mnum_ok _ c27) c27
  have c29 := ctx_cons (der_ok _ c28 rfl rfl rfl rfl) c28
  have c30 := ctx_cons (rder_ok _ c29 rfl rfl rfl) c29
  have c31 := ctx_cons (text_ok _ c30) c30
  exact ctx_cons (mawake_ok _ c31 rfl rfl rfl) c31
end Job
end Go.Am
