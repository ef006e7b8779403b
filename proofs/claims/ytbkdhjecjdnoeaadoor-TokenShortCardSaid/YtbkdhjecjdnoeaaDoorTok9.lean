/- all functions together -/
import Derived.Test.YtbkdhjecjdnoeaaDoorTok8
import Derived.Test.YtbkdhjecjdnoeaaDoorOtL
import Derived.Test.YtbkdhjecjdnoeaaDoorAm31
namespace Go.Am
namespace Job.Tk
open Go.Am.F
set_option linter.unusedVariables false
set_option linter.unusedSimpArgs false
set_option maxRecDepth 100000
def typesZ : List (Int × Int × Int) := [(1, 265, 7), (2, 133, 6), (4, 67, 4), (8, 34, 0)]
def G0 : Nat → Option D := fun g => if g = 0 then some typesD else if g = 1 then some (h8D firstL) else if g = 2 then some (w64D roundsL) else none
def CTk : Ctx := ⟨G0, fun _ => none, fun _ => none⟩
noncomputable def C : Ctx := ⟨G0, fnTab [(8, fCheckS), (7, fVerS), (13, fRootS), (18, fPartsS), (26, fNoneP), (14, fReadK), (24, fParams), (23, fHeight), (19, fLNum), (4, fAwake), (6, fParse), (10, fParse), (5, fCut), (12, fValue), (9, fBody), (16, fPre), (25, fEqual), (17, fNum), (11, fAllow), (15, fKind)], afTab [(27, afun CTk 2 r_lms_take a_lms_take)]⟩
theorem C_glob_none (g : Nat) (h : ¬ g = 0) (h0 : ¬ g = 1) (h1 : ¬ g = 2) : C.glob g = none := by
  show G0 g = none
  unfold G0
  rw [if_neg h, if_neg h0, if_neg h1]
def firstZ : List Int := firstL.map fun x => (x.toNat : Int)
def roundsZ : List Int := roundsL.map fun x => (x.toNat : Int)
theorem C_types : C.glob 0 = some (D.agg (.ar typesZ.length SPar) (typesZ.map triD)) := rfl
theorem C_first : C.glob 1 = some (numsD .u32 firstZ) := rfl
theorem C_rounds : C.glob 2 = some (numsD .u32 roundsZ) := rfl
theorem ctx : CtxOK C P := by
  have z : CtxOK CTk P := ctx_nil
  have z0 := ctx_consr (m_lms_take CTk z) (ctx_nilr (G := G0) (P := P))
  have c0 := z0
  have c1 := ctx_cons (kind_ok _ c0) c0
  have c2 := ctx_cons (allow_ok _ c1) c1
  have c3 := ctx_cons (num_ok _ c2) c2
  have c4 := ctx_cons (equal_ok _ c3) c3
  have c5 := ctx_cons (pre_ok _ c4 rfl) c4
  have c6 := ctx_cons (body_ok _ c5 rfl) c5
  have c7 := ctx_cons (value_ok _ c6) c6
  have c8 := ctx_cons (cut_ok _ c7) c7
  have c9 := ctx_cons (parse_ok _ c8 rfl rfl rfl) c8
  have c10 := ctx_cons (refParse_ok _ c9 rfl) c9
  have c11 := ctx_cons (awake_ok _ c10 rfl rfl rfl) c10
  have c12 := ctx_cons (lnum_ok _ c11) c11
  have c13 := ctx_cons (height_ok _ c12) c12
  have c14 := ctx_cons (params_ok _ c13 rfl) c13
  have c15 := ctx_cons (readK_ok _ c14 rfl rfl rfl) c14
  have c16 := ctx_cons (nonep_ok _ c15) c15
  have c17 := ctx_cons (partsS_ok _ CTk c16 rfl rfl rfl rfl rfl) c16
  have c18 := ctx_cons (rootS_ok _ c17 rfl rfl) c17
  have c19 := ctx_cons (verS_ok _ c18 rfl) c18
  exact ctx_cons (checkS_ok _ c19 rfl rfl) c19
end Job.Tk
end Go.Am
