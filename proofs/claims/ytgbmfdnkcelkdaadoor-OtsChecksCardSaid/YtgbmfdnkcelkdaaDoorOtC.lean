/- all functions together -/
import Derived.Test.YtgbmfdnkcelkdaaDoorOt15
import Derived.Test.YtgbmfdnkcelkdaaDoorAm31
namespace Go.Am
namespace Job
open Go.Am.F
set_option linter.unusedVariables false
set_option linter.unusedSimpArgs false
set_option maxRecDepth 100000
def typesZ : List (Int × Int × Int) := [(1, 265, 7), (2, 133, 6), (4, 67, 4), (8, 34, 0)]
def G0 : Nat → Option D := fun g => if g = 0 then some typesD else if g = 1 then some (h8D firstL) else if g = 2 then some (w64D roundsL) else none
noncomputable def C : Ctx := ⟨G0, fnTab [(26, fKind), (13, fAllD), (15, fRDig), (16, fBits), (9, fAwakeO), (29, fClaim), (30, fSplit), (28, fSign), (27, fPublic), (12, fDigits), (17, fCoef), (33, fEnd), (10, fTable), (11, fParams), (25, fRFold), (24, fFold), (23, fRMash), (18, fRStep), (22, fMash), (19, fChain), (21, fSecret), (20, fStep), (37, fFront), (40, fFour), (34, fTwo), (39, fStSum), (38, fFeed), (42, fNew), (45, fPad), (44, fDigest), (36, fRSum), (41, fPressR), (43, fPress), (48, fSpread), (35, fJoin), (31, fNumS), (14, fCut), (32, fValue), (47, fRoots), (46, fTurn), (50, fWord), (49, fRot)], fun _ => none⟩
theorem C_glob_none (g : Nat) (h : ¬ g = 0) (h0 : ¬ g = 1) (h1 : ¬ g = 2) : C.glob g = none := by
  show G0 g = none
  unfold G0
  rw [if_neg h, if_neg h0, if_neg h1]
def firstZ : List Int := firstL.map fun x => (x.toNat : Int)
def roundsZ : List Int := roundsL.map fun x => (x.toNat : Int)
theorem C_types : C.glob 0 = some (D.agg (.ar typesZ.length SPar) (typesZ.map triD)) := rfl
theorem C_first : C.glob 1 = some (numsD .u32 firstZ) := rfl
theorem C_rounds : C.glob 2 = some (numsD .u32 roundsZ) := rfl
theorem ctx : CtxOK C P := by
  have c0 := ctx_nil (G := G0) (P := P)
  have c1 := ctx_cons (rot_ok _ c0) c0
  have c2 := ctx_cons (word_ok _ c1) c1
  have c3 := ctx_cons (turn_ok _ c2) c2
  have c4 := ctx_cons (roots_ok _ c3) c3
  have c5 := ctx_cons (value_ok _ c4) c4
  have c6 := ctx_cons (cut_ok _ c5) c5
  have c7 := ctx_cons (num_sl _ c6) c6
  have c8 := ctx_cons (join_ok _ c7) c7
  have c9 := ctx_cons (spread_ok _ c8 rfl rfl) c8
  have c10 := ctx_cons (press_ok _ c9 rfl rfl rfl) c9
  have c11 := ctx_cons (pressR_ok _ c10 rfl rfl rfl) c10
  have c12 := ctx_cons (rsum_ok _ c11 rfl rfl rfl) c11
  have c13 := ctx_cons (digest_ok _ c12) c12
  have c14 := ctx_cons (pad_ok _ c13) c13
  have c15 := ctx_cons (new_ok _ c14 rfl) c14
  have c16 := ctx_cons (feed_meets _ c15 rfl) c15
  have c17 := ctx_cons (stsum_ok _ c16 rfl rfl rfl) c16
  have c18 := ctx_cons (two_ok _ c17) c17
  have c19 := ctx_cons (four_ok _ c18) c18
  have c20 := ctx_cons (front_ok _ c19 rfl rfl rfl) c19
  have c21 := ctx_cons (step_ok _ c20 rfl rfl rfl rfl) c20
  have c22 := ctx_cons (secret_ok _ c21 rfl) c21
  have c23 := ctx_cons (chain_ok _ c22 rfl) c22
  have c24 := ctx_cons (mash_ok _ c23 rfl rfl rfl rfl) c23
  have c25 := ctx_cons (rstep_ok _ c24 rfl rfl rfl) c24
  have c26 := ctx_cons (rmash_ok _ c25 rfl rfl rfl) c25
  have c27 := ctx_cons (fold_ok _ c26 rfl rfl rfl rfl) c26
  have c28 := ctx_cons (rfold_ok _ c27 rfl rfl rfl) c27
  have c29 := ctx_cons (params_ok _ c28 rfl) c28
  have c30 := ctx_cons (table_ok _ c29) c29
  have c31 := ctx_cons (end_ok _ c30) c30
  have c32 := ctx_cons (coef_ok _ c31) c31
  have c33 := ctx_cons (digits_ok _ c32 rfl rfl rfl rfl) c32
  have c34 := ctx_cons (public_ok _ c33 rfl rfl rfl rfl rfl) c33
  have c35 := ctx_cons (sign_ok _ c34 rfl rfl rfl rfl rfl rfl) c34
  have c36 := ctx_cons (split_ok _ c35 rfl) c35
  have c37 := ctx_cons (claim_ok _ c36 rfl rfl rfl rfl rfl rfl rfl) c36
  have c38 := ctx_cons (awakeo_ok _ c37 rfl rfl rfl) c37
  have c39 := ctx_cons (bits_ok _ c38) c38
  have c40 := ctx_cons (rdig_ok _ c39) c39
  have c41 := ctx_cons (alld_ok _ c40 rfl rfl rfl rfl rfl) c40
  exact ctx_cons (kind_meets _ c41) c41
theorem ofC : OF C := ⟨rfl, rfl, rfl, rfl, rfl, rfl, rfl, rfl, rfl, rfl, rfl, rfl, rfl, rfl, rfl, rfl, rfl, rfl, rfl, rfl⟩
theorem ogC : OG C := ⟨ofC, rfl, rfl, rfl, rfl⟩
end Job
end Go.Am
