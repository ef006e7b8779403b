/- all functions together -/
import Derived.Test.YtbdbmholcjaajaaDoorSha10
import Derived.Test.YtbdbmholcjaajaaDoorAm31
namespace Go.Am
namespace Job
set_option linter.unusedVariables false
set_option linter.unusedSimpArgs false
set_option maxRecDepth 100000
def G0 : Nat → Option D := fun g => if g = 0 then some (h8D firstL) else if g = 1 then some (w64D roundsL) else none
noncomputable def C : Ctx := ⟨G0, fnTab [(8, fAwake), (11, fSum), (25, fBJoin), (15, fLen), (14, fStSum), (13, fFeed), (12, fNew), (17, fPad), (22, fDigest), (19, fWords), (10, fRSum), (21, fPressR), (20, fPress), (27, fSpread), (23, fHex), (16, fJoin), (24, fNumS), (9, fCut), (18, fValue), (30, fRoots), (29, fTurn), (26, fWord), (28, fRot)], fun _ => none⟩
theorem C_glob_none (g : Nat) (h0 : ¬ g = 0) (h1 : ¬ g = 1) : C.glob g = none := by
  show G0 g = none
  unfold G0
  rw [if_neg h0, if_neg h1]
def firstZ : List Int := firstL.map fun x => (x.toNat : Int)
def roundsZ : List Int := roundsL.map fun x => (x.toNat : Int)
theorem C_first : C.glob 0 = some (numsD .u32 firstZ) := rfl
theorem C_rounds : C.glob 1 = some (numsD .u32 roundsZ) := rfl
theorem ctx : CtxOK C P := by
  have c0 := ctx_nil (G := G0) (P := P)
  have c1 := ctx_cons (rot_ok _ c0) c0
  have c2 := ctx_cons (word_ok _ c1) c1
  have c3 := ctx_cons (turn_ok _ c2) c2
  have c4 := ctx_cons (roots_ok _ c3) c3
  have c5 := ctx_cons (value_ok _ c4) c4
  have c6 := ctx_cons (cut_ok _ c5) c5
  have c7 := ctx_cons (num_sl _ c6) c6
  have c8 := ctx_cons (join_ok _ c7) c7
  have c9 := ctx_cons (hex_ok _ c8) c8
  have c10 := ctx_cons (spread_ok _ c9 rfl rfl) c9
  have c11 := ctx_cons (press_ok _ c10 rfl rfl rfl) c10
  have c12 := ctx_cons (pressR_ok _ c11 rfl rfl rfl) c11
  have c13 := ctx_cons (rsum_ok _ c12 rfl rfl rfl) c12
  have c14 := ctx_cons (words_ok _ c13 rfl) c13
  have c15 := ctx_cons (digest_ok _ c14) c14
  have c16 := ctx_cons (pad_ok _ c15) c15
  have c17 := ctx_cons (new_ok _ c16 rfl) c16
  have c18 := ctx_cons (feed_meets _ c17 rfl) c17
  have c19 := ctx_cons (stsum_ok _ c18 rfl rfl rfl) c18
  have c20 := ctx_cons (len_ok _ c19) c19
  have c21 := ctx_cons (bjoin_ok _ c20) c20
  have c22 := ctx_cons (sum_ok _ c21 rfl rfl rfl rfl) c21
  exact ctx_cons (awake_ok _ c22 rfl rfl rfl rfl rfl) c22
end Job
end Go.Am
