/- 'LmsRoots' returns true for every input: a proof of the given card; its condition: the listed package variables hold what the program's text lays (tied by the card). -/
import Derived.Test.YtmhagenbelpnfaaDoorRp22
import Derived.Test.YtmhagenbelpnfaaDoorCards
import Derived.Test.YtmhagenbelpnfaaDoorTie
import Derived.WalkKit
import Derived.ProofKit
import Derived.OpenShut
import Derived.Deep.DeepHandedRow
namespace Go.Am
set_option linter.unusedSimpArgs false
set_option linter.unusedVariables false
attribute [local congr] bnd_congr kCond_congr kGd_congr kPick_congr kCall_congr kIdx_congr kSlice_congr kLoop_congr cond_congr' aBin_congr aBounds_congr aApp_congr aCopy_congr kFn_congr
namespace Job
open Go.Am.F
set_option maxRecDepth 10000
abbrev SSg : Sh := S1
def sgZ : D := .agg SSg [.raw (u32 0#32), .raw (.slice none 0 0), .raw (u32 0#32), .raw (.slice none 0 0)]
set_option maxHeartbeats 4000000 in
theorem rparts_run (C : Ctx) (h1 : C.fn 20 = some fValue) (h2 : C.fn 31 = some fTable) (h3 : C.fn 46 = some fRHeight) {rows : Rows} {r : Nat} {e : Bool} {p : List (BitVec 8)} (hr : live rows r = some ⟨L8, bs p⟩) (hp : p.length ≤ 1099511627776) {K : D → Rows → Prop}
  (hk0 : partsE p = 0 → ∀ rows' rp e1 e2, KeptL rows rows' → rows.length ≤ rp → live rows' rp = some ⟨.ar 32 L8, (pathS p (lhS p)).map d32D⟩ → K (.tup [.agg SSg [.raw (u32 (lqS p)), .sl L8 r [] 4 (36 + 32 * lpS p) e1, .raw (u32 (ltS p)), .sl (.ar 32 L8) rp [] 0 (lhS p) e2], .raw (it 0)]) rows')
  (hk1 : partsE p ≠ 0 → ∀ more, K (.tup [sgZ, .raw (it (partsE p))]) (rows ++ more)) :
  afun C 1 r_ref06_Parts a_ref06_Parts [.sl L8 r [] 0 p.length e] rows K := by
 refine afun_mk rfl ?_
 unfold a_ref06_Parts r_ref06_Parts
 unfold sgZ at hk1
 have fz : (D.agg SSg [.raw (u32 0#32), .raw (.slice none 0 0), .raw (u32 0#32), .raw (.slice none 0 0)]).fits SSg = true := rfl
 by_cases h8 : p.length < 8
 ·have hE : partsE p = 2 := by unfold partsE; rw [if_pos h8]
  have c1 : ((p.length : Int) < 8) = True := eq_true (by omega)
  have hk := hk1 (by rw [hE]; decide)
  rw [hE] at hk
  simp only [↓amD, amU, simprocAttr, zipEnv, amR, c1, fz]
  exact hk _
 have c1 : ((p.length : Int) < 8) = False := eq_false (by omega)
 have hv4 : ∀ q : List (BitVec 8), 4 ≤ q.length → ∃ v : BitVec 64, (q.take 4).foldl (fun n b => 256#64 * n + b.setWidth 64) 0#64 = v ∧ v.setWidth 32 = numS q := fun q hq => ⟨_, rfl, val4 q hq⟩
 obtain ⟨vo, ho1, ho2⟩ := hv4 (p.drop 4) (by rw [List.length_drop]; omega)
 have hlo : numS (p.drop 4) = loS p := rfl
 rw [hlo] at ho2
 have kT := fun rows k => kTable rows k (loS p)
 have hlp : pT (loS p).toNat = lpS p := rfl
 rw [hlp] at kT
 simp only [↓amD, amU, simprocAttr, zipEnv, amR, c1, fz, h1]
 refine ⟨by omega, Eq.mpr (kValue _ _ _ ((p.drop 4).take 4) (BsIn.sub (live_app hr _) (by omega)) (by rw [List.length_take]; omega)) ?_⟩
 rw [ho1]
 cases hoT : okT (loS p).toNat
 ·have hw : wT (loS p).toNat = 0 := by
   unfold okT at hoT
   unfold wT
   simp only [Bool.and_eq_false_iff, decide_eq_false_iff_not] at hoT
   rw [if_neg (by omega), if_neg (by omega), if_neg (by omega), if_neg (by omega)]
  have hE : partsE p = 6 := by unfold partsE; rw [if_neg h8, if_pos hoT]
  have hk := hk1 (by rw [hE]; decide)
  rw [hE] at hk
  simp only [↓amD, amU, simprocAttr, zipEnv, amR, ho2, h2, kT, hw, fz]
  exact hk _
 have hpo := parT_ok hoT
 have hw : ((wT (loS p).toNat : Int) = 0) = False := eq_false (by
  have : wT (loS p).toNat = 1 ∨ wT (loS p).toNat = 2 ∨ wT (loS p).toNat = 4 ∨ wT (loS p).toNat = 8 := w4_eq.1 hpo.1
  omega)
 have hlp2 : lpS p ≤ 265 := hpo.2.2.1
 have z1 : wz (32 * (lpS p : Int)) = ((32 * lpS p : Nat) : Int) := by rw [wz_id (by omega)]; omega
 have z2 : wz (40 + ((32 * lpS p : Nat) : Int)) = ((40 + 32 * lpS p : Nat) : Int) := by rw [wz_id (by omega)]; omega
 have z3 : wz (((40 + 32 * lpS p : Nat) : Int) + 4) = ((44 + 32 * lpS p : Nat) : Int) := by rw [wz_id (by omega)]; omega
 by_cases h3' : p.length < 44 + 32 * lpS p
 ·have hE : partsE p = 2 := by unfold partsE; rw [if_neg h8, if_neg (by rw [hoT]; decide), if_pos h3']
  have c2 : ((p.length : Int) < ((44 + 32 * lpS p : Nat) : Int)) = True := eq_true (by omega)
  have hk := hk1 (by rw [hE]; decide)
  rw [hE] at hk
  simp only [↓amD, amU, simprocAttr, zipEnv, amR, ho2, h2, kT, hw, fz, z1, z2, z3, c2]
  exact hk _
 have c2 : ((p.length : Int) < ((44 + 32 * lpS p : Nat) : Int)) = False := eq_false (by omega)
 obtain ⟨vq, hq1, hq2⟩ := hv4 p (by omega)
 obtain ⟨vt, ht1, ht2⟩ := hv4 (p.drop (40 + 32 * lpS p)) (by rw [List.length_drop]; omega)
 have hlq : numS p = lqS p := rfl
 have hlt : numS (p.drop (40 + 32 * lpS p)) = ltS p := rfl
 rw [hlq] at hq2
 rw [hlt] at ht2
 simp only [↓amD, amU, simprocAttr, zipEnv, amR, ho2, h2, kT, hw, fz, z1, z2, z3, c2, h1]
 refine ⟨by omega, Eq.mpr (kValue _ _ _ (p.take 4) (by have := BsIn.sub (off := 0) (len := 4) (ex := exOf none 4 p.length p.length e) (live_app hr [some ⟨SSg, [.agg SSg [.raw (u32 0#32), .raw (.slice none 0 0), .raw (u32 0#32), .raw (.slice none 0 0)]]⟩]) (by omega); rw [List.drop_zero] at this; exact this) (by rw [List.length_take]; omega)) ?_⟩
 rw [hq1]
 simp only [↓amD, amU, simprocAttr, zipEnv, amR, hq2, fz, z1, z2, z3, h1]
 refine ⟨by omega, by omega, by omega, by omega, by omega, ?_⟩
 have n1 : 44 + 32 * lpS p - (40 + 32 * lpS p) = 4 := by omega
 have n2 : 40 + 32 * lpS p - 4 = 36 + 32 * lpS p := by omega
 simp only [Int.toNat_natCast, n1, n2]
 refine Eq.mpr (kValue _ _ _ ((p.drop (40 + 32 * lpS p)).take 4) (BsIn.sub (live_app hr _) (by omega)) (by rw [List.length_take]; omega)) ?_
 rw [ht1]
 have kH := fun rows k => kRHeight rows k (ltS p)
 have hlh : hT (ltS p).toNat = lhS p := rfl
 rw [hlh] at kH
 have hlh2 : lhS p ≤ 25 := hT_le _
 simp only [↓amD, amU, simprocAttr, zipEnv, amR, ht2, fz, h3, kH]
 have b0 : ∀ n : Nat, ((0 : Int) ≤ (n : Int)) = True := fun n => eq_true (by omega)
 cases hh : okH (ltS p).toNat
 ·have hz : lhS p = 0 := by
   show hT (ltS p).toNat = 0
   simp only [okH, decide_eq_false_iff_not] at hh
   unfold hT; split
   ·omega
   ·split <;> omega
  have hE : partsE p = 6 := by unfold partsE; rw [if_neg h8, if_neg (by rw [hoT]; decide), if_neg h3', if_pos hh]
  have hk := hk1 (by rw [hE]; decide)
  rw [hE] at hk
  have c3 : ((lhS p : Int) = 0) = True := eq_true (by omega)
  simp only [↓amD, amU, simprocAttr, zipEnv, amR, c3, fz]
  exact hk _
 have hh1 : 1 ≤ lhS p := okH_pos hh
 have c3 : ((lhS p : Int) = 0) = False := eq_false (by omega)
 have z4 : wz (32 * (lhS p : Int)) = ((32 * lhS p : Nat) : Int) := by rw [wz_id (by omega)]; omega
 have z5 : wz (((44 + 32 * lpS p : Nat) : Int) + ((32 * lhS p : Nat) : Int)) = ((44 + (32 * lpS p + 32 * lhS p) : Nat) : Int) := by rw [wz_id (by omega)]; omega
 by_cases hn : p.length = 44 + 32 * lpS p + 32 * lhS p
 rotate_left
 ·have hE : partsE p = 2 := by unfold partsE; rw [if_neg h8, if_neg (by rw [hoT]; decide), if_neg h3', if_neg (by rw [hh]; decide), if_pos (.inl hn)]
  have hk := hk1 (by rw [hE]; decide)
  rw [hE] at hk
  have c4 : ((p.length : Int) = ((44 + (32 * lpS p + 32 * lhS p) : Nat) : Int)) = False := eq_false (by omega)
  simp only [↓amD, amU, simprocAttr, zipEnv, amR, c3, c4, z3, z4, z5, fz, b0]
  exact hk _
 have c4 : ((p.length : Int) = ((44 + (32 * lpS p + 32 * lhS p) : Nat) : Int)) = True := eq_true (by omega)
 simp only [↓amD, amU, simprocAttr, zipEnv, amR, c3, c4, z3, z4, z5, fz, b0]
 have cqE : ((1#64 <<< lhS p ≤ (lqS p).setWidth 64)) = (¬ (lqS p).toNat >>> lhS p = 0) := by
  have hq := (lqS p).isLt
  have h2 : 2 ^ lhS p ≤ 2 ^ 25 := Nat.pow_le_pow_right (by decide) hlh2
  have e1 : (1#64 <<< lhS p).toNat = 2 ^ lhS p := by
   rw [BitVec.toNat_shiftLeft, Nat.shiftLeft_eq]
   show 1 * 2 ^ lhS p % 18446744073709551616 = _
   omega
  have e2 : ((lqS p).setWidth 64).toNat = (lqS p).toNat := by rw [BitVec.toNat_setWidth]; omega
  apply propext
  rw [BitVec.le_def, e1, e2, Nat.shiftRight_eq_div_pow, Nat.div_eq_zero_iff]
  have := Nat.two_pow_pos (lhS p)
  omega
 by_cases cq : (lqS p).toNat >>> lhS p = 0
 rotate_left
 ·have hE : partsE p = 2 := by unfold partsE; rw [if_neg h8, if_neg (by rw [hoT]; decide), if_neg h3', if_neg (by rw [hh]; decide), if_pos (.inr cq)]
  have hk := hk1 (by rw [hE]; decide)
  rw [hE] at hk
  have c5 : ((1#64 <<< lhS p ≤ (lqS p).setWidth 64)) = True := eq_true (by rw [cqE]; exact cq)
  simp only [↓amD, amU, simprocAttr, zipEnv, amR, c5, fz, b0]
  exact hk _
 have hE : partsE p = 0 := by unfold partsE; rw [if_neg h8, if_neg (by rw [hoT]; decide), if_neg h3', if_neg (by rw [hh]; decide), if_neg (by omega)]
 have c5 : ((1#64 <<< lhS p ≤ (lqS p).setWidth 64)) = False := eq_false (by rw [cqE]; exact not_not_intro cq)
 have hk := hk0 hE
 simp only [↓amD, amU, simprocAttr, zipEnv, amR, c5, fz, b0]
 have hds : ∀ i, (pathS p i).map d32D ++ [.agg (.ar 32 L8) (bs (pcS p i))] = (pathS p (i + 1)).map d32D := fun i => by simp [pathS, List.range_succ, d32D]
 have hdl : ∀ i, (pathS p i).length = i := fun i => by simp [pathS]
 have hcl : ∀ i, i < lhS p → (pcS p i).length = 32 := fun i hi => by rw [pcS, List.length_take, List.length_drop]; omega
 generalize exOf none (40 + 32 * lpS p) (40 + 32 * lpS p) p.length e = ee at *
 refine kLoop_up (lhS p) (fun i env rs => has env [(9, .raw (it (lhS p : Int))), (7, .raw (it ((40 + 32 * lpS p : Nat) : Int))), (0, .sl L8 r [] 0 p.length e), (8, .ptr SSg (rows.length + 1) [0]), (2, .ptr SSg rows.length [0]), (10, .raw (it (i : Int)))] ∧
  KeptL rows rs ∧ live rs rows.length = some ⟨SSg, [.agg SSg [.raw (u32 0#32), .raw (.slice none 0 0), .raw (u32 0#32), .raw (.slice none 0 0)]]⟩ ∧ ∃ d', live rs (rows.length + 1) = some ⟨SSg, [.agg SSg [.raw (u32 (lqS p)), .sl L8 r [] 4 (36 + 32 * lpS p) ee, .raw (u32 (ltS p)), d']]⟩ ∧ Own (.ar 32 L8) d' rs ((pathS p i).map d32D) ∧ (∀ r ex n, d' = .sl (.ar 32 L8) r [] 0 n ex → rows.length + 2 ≤ r)) ?_ ?_ ⟨?_, KeptL.app _ _, by rw [lv_app0]; rfl, .raw (.slice none 0 0), by rw [lv_appk]; rfl, .inl ⟨rfl, rfl⟩, fun r ex n h => by cases h⟩
 ·rintro i hi env rs ⟨hw, hK, r0, d', r1, hO, hne⟩ R hR
  simp only [has] at hw
  have g0 : ((i : Int) < (lhS p : Int)) = True := eq_true (by omega)
  have y1 : wz (32 * (i : Int)) = ((32 * i : Nat) : Int) := by rw [wz_id (by omega)]; omega
  have y2 : wz (((44 + 32 * lpS p : Nat) : Int) + ((32 * i : Nat) : Int)) = ((44 + 32 * lpS p + 32 * i : Nat) : Int) := by rw [wz_id (by omega)]; omega
  have y3 : wz (((40 + 32 * lpS p : Nat) : Int) + 36) = ((76 + 32 * lpS p : Nat) : Int) := by rw [wz_id (by omega)]; omega
  have y4 : wz (((76 + 32 * lpS p : Nat) : Int) + ((32 * i : Nat) : Int)) = ((76 + 32 * lpS p + 32 * i : Nat) : Int) := by rw [wz_id (by omega)]; omega
  have y5 := wz_succ i (by omega)
  have rr := hK _ _ hr
  have tk : List.take 32 (List.drop (44 + 32 * lpS p + 32 * i) (bs p)) = bs (pcS p i) := by rw [bs_drop, bs_take]; rfl
  have hl32 := hcl i hi
  have lt1 := live_lt r1
  simp only [↓amD, amU, simprocAttr, zipEnv, hw, g0, r0, r1, z3, y1, y2, y3, y4, y5, rr, b0, tk]
  refine ⟨by omega, by omega, by omega, by rw [bs_len, hl32], ?_⟩
  refine app_ownA hO.push (by rw [List.length_map, hdl]; simp [most]; omega) (by rw [List.length_map, hdl]; simp [most]; omega) fun rows' hl' hfr hlen' => ?_
  rw [hds] at hl'
  have r1' := hfr _ _ (live_push r1) (fun ex n e => by have := hne _ _ _ e; omega)
  have r0' := hfr _ _ (live_push r0) (fun ex n e => by have := hne _ _ _ e; omega)
  have hK' : KeptL rows rows' := fun q row hq => hfr q row (live_push (hK q row hq)) (fun ex n e => by have := hne _ _ _ e; have := live_lt hq; omega)
  have hlg : ∀ A : Row, (rs ++ [some A]).length = rs.length + 1 := fun A => by simp
  rw [hlg] at hl'
  simp only [↓amD, amU, simprocAttr, zipEnv, hw, r1', y5, hlg]
  exact hR _ _ ⟨by simp only [has, ↓amD, amU, simprocAttr, zipEnv, hw], hK'.set (by omega) _, by rw [live_set_ne (by omega)]; exact r0', _, live_set_eq r1', .inr ⟨rs.length + 1, false, by rw [List.length_map, hdl, hdl], by rw [live_set_ne (by omega)]; exact hl'⟩, fun r ex n e => by injection e with _ e; omega⟩
 ·rintro env rs ⟨hw, hK, r0, d', r1, hO, hne⟩ R
  simp only [has] at hw
  have g0 : ((lhS p : Int) < (lhS p : Int)) = False := eq_false (by omega)
  have w0 := fun y => live_set_eq (y := y) r0
  rcases hO with ⟨h, _⟩ | ⟨rp, ex1, rfl, hlv⟩
  ·have := congrArg List.length h
   rw [List.length_map, hdl, List.length_nil] at this
   omega
  ·have hge := hne _ _ _ rfl
   rw [List.length_map, hdl] at r1
   simp only [↓amD, amU, simprocAttr, zipEnv, hw, g0, r0, r1, w0]
   exact hk _ rp ee ex1 (hK.set (Nat.le_refl _) _) (by omega) (by rw [live_set_ne (by omega)]; exact hlv)
 ·simp only [has, ↓amD, amU, simprocAttr, zipEnv]
structure LP (C CL CT CP : Ctx) : Prop where
 w : LW C CL CT
 n4 : C.fn 15 = none
 r4 : C.fnr 15 = some (afun CP 1 r_ref06_Parts a_ref06_Parts)
 val : CP.fn 20 = some fValue
 tab : CP.fn 31 = some fTable
 hei : CP.fn 46 = some fRHeight
end Job
end Go.Am
namespace Go.Am
namespace Job
open Go.Am.F
set_option linter.unusedVariables false
set_option linter.unusedSimpArgs false
set_option maxRecDepth 100000
def typesZ : List (Int × Int × Int) := [(1, 265, 7), (2, 133, 6), (4, 67, 4), (8, 34, 0)]
def G0 : Nat → Option D := fun g => if g = 0 then some typesD else if g = 1 then some (h8D firstL) else if g = 2 then some (w64D roundsL) else none
noncomputable def T0 : List (Nat × Fn) := [(35, fLast0), (36, fSigned), (34, fKnows), (11, fForce), (25, fPath), (17, fPublicK), (30, fLeft), (39, fSite), (37, fLeaves), (22, fClimb), (46, fRHeight), (23, fRHash), (28, fNode), (27, fLeaf), (57, fHash), (40, fFour), (41, fNoneP), (47, fReadK), (45, fHeight), (44, fLNum), (16, fSame), (32, fAllD), (58, fRDig), (59, fBits), (21, fClaim), (48, fSplit), (38, fSign), (26, fPublic), (49, fDigits), (61, fCoef), (52, fEnd), (31, fTable), (43, fParams), (53, fFold), (33, fRMash), (50, fMash), (51, fChain), (56, fSecret), (66, fStep), (63, fFront), (60, fFour), (62, fTwo), (65, fStSum), (64, fFeed), (68, fNew), (71, fPad), (70, fDigest), (54, fRSum), (67, fPressR), (69, fPress), (74, fSpread), (13, fJoin), (55, fNumS), (12, fCut), (20, fValue), (73, fRoots), (72, fTurn), (76, fWord), (75, fRot)]
noncomputable def C : Ctx := ⟨G0, fnTab T0, fun _ => none⟩
theorem G0_none (g : Nat) (h : ¬ g = 0) (h0 : ¬ g = 1) (h1 : ¬ g = 2) : G0 g = none := by
 unfold G0
 rw [if_neg h, if_neg h0, if_neg h1]
def firstZ : List Int := firstL.map fun x => (x.toNat : Int)
def roundsZ : List Int := roundsL.map fun x => (x.toNat : Int)
theorem ctx : CtxOK C P := by
 have c0 := ctx_nil (G := G0) (P := P)
 have c1 := ctx_cons (rot_ok _ c0) c0
 have c2 := ctx_cons (word_ok _ c1) c1
 have c3 := ctx_cons (turn_ok _ c2) c2
 have c4 := ctx_cons (roots_ok _ c3) c3
 have c5 := ctx_cons (value_ok _ c4) c4
 have c6 := ctx_cons (cut_ok _ c5) c5
 have c7 := ctx_cons (num_sl _ c6) c6
 have c8 := ctx_cons (join_ok _ c7) c7
 have c9 := ctx_cons (spread_ok _ c8 rfl rfl) c8
 have c10 := ctx_cons (press_ok _ c9 rfl rfl rfl) c9
 have c11 := ctx_cons (pressR_ok _ c10 rfl rfl rfl) c10
 have c12 := ctx_cons (rsum_ok _ c11 rfl rfl rfl) c11
 have c13 := ctx_cons (digest_ok _ c12) c12
 have c14 := ctx_cons (pad_ok _ c13) c13
 have c15 := ctx_cons (new_ok _ c14 rfl) c14
 have c16 := ctx_cons (feed_meets _ c15 rfl) c15
 have c17 := ctx_cons (stsum_ok _ c16 rfl rfl rfl) c16
 have c18 := ctx_cons (two_ok _ c17) c17
 have c19 := ctx_cons (four_ok _ c18) c18
 have c20 := ctx_cons (front_ok _ c19 rfl rfl rfl) c19
 have c21 := ctx_cons (step_ok _ c20 rfl rfl rfl rfl) c20
 have c22 := ctx_cons (secret_ok _ c21 rfl) c21
 have c23 := ctx_cons (chain_ok _ c22 rfl) c22
 have c24 := ctx_cons (mash_ok _ c23 rfl rfl rfl rfl) c23
 have c25 := ctx_cons (rmash_ok _ c24 rfl rfl rfl) c24
 have c26 := ctx_cons (fold_ok _ c25 rfl rfl rfl rfl) c25
 have c27 := ctx_cons (params_ok _ c26 rfl) c26
 have c28 := ctx_cons (table_ok _ c27) c27
 have c29 := ctx_cons (end_ok _ c28) c28
 have c30 := ctx_cons (coef_ok _ c29) c29
 have c31 := ctx_cons (digits_ok _ c30 rfl rfl rfl rfl) c30
 have c32 := ctx_cons (public_ok _ c31 rfl rfl rfl rfl rfl) c31
 have c33 := ctx_cons (sign_ok _ c32 rfl rfl rfl rfl rfl rfl) c32
 have c34 := ctx_cons (split_ok _ c33 rfl) c33
 have c35 := ctx_cons (claim_ok _ c34 rfl rfl rfl rfl rfl rfl rfl) c34
 have c36 := ctx_cons (bits_ok _ c35) c35
 have c37 := ctx_cons (rdig_ok _ c36) c36
 have c38 := ctx_cons (alld_ok _ c37 rfl rfl rfl rfl rfl) c37
 have c39 := ctx_cons (same_ok _ c38) c38
 have c40 := ctx_cons (lnum_ok _ c39) c39
 have c41 := ctx_cons (height_ok _ c40) c40
 have c42 := ctx_cons (readK_ok _ c41 rfl rfl rfl) c41
 have c43 := ctx_cons (nonep_ok _ c42) c42
 have c44 := ctx_cons (lfour_ok _ c43) c43
 have c45 := ctx_cons (hash_ok _ c44 rfl rfl rfl rfl) c44
 have c46 := ctx_cons (leaf_ok _ c45 rfl) c45
 have c47 := ctx_cons (node_ok _ c46 rfl) c46
 have c48 := ctx_cons (rhash_ok _ c47 rfl rfl rfl) c47
 have c49 := ctx_cons (rheight_ok _ c48) c48
 have c50 := ctx_cons (climb_ok _ c49 rfl) c49
 have c51 := ctx_cons (leaves_ok _ c50) c50
 have c52 := ctx_cons (site_ok _ c51) c51
 have c53 := ctx_cons (left_ok _ c52 rfl) c52
 have c54 := ctx_cons (publicK_ok _ c53 rfl) c53
 have c55 := ctx_cons (path_ok _ c54 rfl) c54
 have c56 := ctx_cons (force_ok _ c55 rfl rfl rfl rfl rfl) c55
 have c57 := ctx_cons (knows_ok _ c56 rfl) c56
 have c58 := ctx_cons (signed_ok _ c57) c57
 exact ctx_cons (last0_ok _ c58) c58
noncomputable def R0 : List (Nat × AFun) := [(24, afun C 4 r_lms_New a_lms_New), (29, afun C 3 r_lms_Signer_Sign a_lms_Signer_Sign), (42, afun C 2 r_lms_take a_lms_take)]
noncomputable def CA : Ctx := ⟨G0, fnTab T0, afTab R0⟩
theorem ctxA : CtxOK CA P := by
 have z : CtxOK ⟨G0, fnTab T0, afTab []⟩ P := ⟨ctx.1, (ctx_nilr (G := G0) (P := P)).2⟩
 have z0 := ctx_consr (m_lms_take C ctx) z
 have z1 := ctx_consr (m_lms_Signer_Sign C ctx) z0
 exact ctx_consr (m_lms_New C ctx) z1
theorem lmC : LmC C := ⟨rfl, rfl, rfl, rfl, rfl, rfl, rfl⟩
theorem lmS : LmS C := ⟨rfl, rfl, rfl, rfl, rfl⟩
noncomputable def T1 : List (Nat × Fn) := (19, fVerify) :: (18, fRoot) :: (14, fParts) :: T0
noncomputable def CB : Ctx := ⟨G0, fnTab T1, afTab R0⟩
theorem ctxB : CtxOK CB P := by
 have c1 := ctx_cons (parts_ok CA C ctxA rfl rfl rfl rfl rfl rfl) ctxA
 have c2 := ctx_cons (root_ok _ c1 rfl rfl rfl rfl rfl rfl) c1
 exact ctx_cons (verify_ok _ c2 rfl rfl) c2
noncomputable def R1 : List (Nat × AFun) := (15, afun CA 1 r_ref06_Parts a_ref06_Parts) :: (10, afun CA 4 r_law06_lay a_law06_lay) :: R0
noncomputable def CL : Ctx := ⟨G0, fnTab ((9, fAwakeL) :: T1), afTab R1⟩
theorem ctxL : CtxOK CL P := by
 have c1 := ctx_cons (awakel_ok CB C ctxB lmC lmS rfl rfl rfl rfl rfl rfl rfl) ctxB
 have c2 := ctx_consr (m_law06_lay CA ctxA) c1
 exact ctx_consr (m_ref06_Parts CA ctxA) c2
theorem lwL : LW CL CA C := ⟨lmC, lmS, rfl, rfl, rfl, rfl, rfl, rfl, rfl, rfl, rfl, rfl, rfl, rfl, rfl, rfl, rfl, rfl, rfl, rfl, rfl, rfl, rfl, rfl, rfl, rfl, rfl, rfl, rfl, rfl, rfl, rfl, rfl⟩
theorem lpL : LP CL CA C CA := ⟨lwL, rfl, rfl, rfl, rfl, rfl⟩
theorem CL_types : CL.glob 0 = some (D.agg (.ar typesZ.length SPar) (typesZ.map triD)) := rfl
theorem CL_first : CL.glob 1 = some (numsD .u32 firstZ) := rfl
theorem CL_rounds : CL.glob 2 = some (numsD .u32 roundsZ) := rfl
theorem CL_glob_none (g : Nat) (h : ¬ g = 0) (h0 : ¬ g = 1) (h1 : ¬ g = 2) : CL.glob g = none := G0_none g h h0 h1
end Job
end Go.Am
namespace Go.Am
set_option linter.unusedSimpArgs false
set_option linter.unusedVariables false
attribute [local congr] bnd_congr kCond_congr kGd_congr kPick_congr kCall_congr kIdx_congr kSlice_congr kLoop_congr cond_congr' aBin_congr aBounds_congr aApp_congr aCopy_congr kFn_congr
namespace Job
open Go.Am.F
set_option maxRecDepth 10000
def val4S (p : List (BitVec 8)) : BitVec 64 := (p.take 4).foldl (fun n b => 256#64 * n + b.setWidth 64) 0#64
theorem val4_lt (p : List (BitVec 8)) (h : 4 ≤ p.length) : (val4S p).toNat < 4294967296 := by
 unfold val4S
 match p, h with
 | a :: b :: c :: d :: l, _ =>
  have ha := a.isLt
  have hb := b.isLt
  have hc := c.isLt
  have hd := d.isLt
  simp only [List.take_succ_cons, List.take_zero, List.foldl_cons, List.foldl_nil, BitVec.toNat_setWidth, BitVec.toNat_add, BitVec.toNat_mul, BitVec.toNat_ofNat]
  omega
theorem val4_iff (p q : List (BitVec 8)) (h : 4 ≤ p.length) (h' : 4 ≤ q.length) : (val4S p = val4S q) = (numS p = numS q) := by
 apply propext
 have e1 : (val4S p).setWidth 32 = numS p := val4 p h
 have e2 : (val4S q).setWidth 32 = numS q := val4 q h'
 have l1 := val4_lt p h
 have l2 := val4_lt q h'
 rw [← e1, ← e2]
 refine ⟨fun h => by rw [h], fun h => BitVec.eq_of_toNat_eq ?_⟩
 have := congrArg BitVec.toNat h
 rw [BitVec.toNat_setWidth, BitVec.toNat_setWidth] at this
 omega
set_option maxHeartbeats 2000000 in
theorem roots_law (C CL CT CP : Ctx) (H : LP C CL CT CP) (hv : C.fn 20 = some fValue) (h t : BitVec 8) (id seed c m0 : List (BitVec 8)) (q : BitVec 8) (at' : BitVec 16) (turn : BitVec 8) (hid : id.length = 16) (hsd : seed.length = 32) (hc : c.length = 32) (hm0 : m0.length ≤ 9223372036854775807) :
  afun C 9 r_law06_LmsRoots a_law06_LmsRoots [.raw (u8 h), .raw (u8 t), .agg (.ar 16 L8) (bs id), .agg (.ar 32 L8) (bs seed), .agg (.ar 32 L8) (bs c), .lst L8 (bs m0) false, .raw (u8 q), .raw (u16 at'), .raw (u8 turn)] [] (fun d rows => d = .raw (.bool true)) := by
 refine afun_mk rfl ?_
 unfold a_law06_LmsRoots r_law06_LmsRoots
 have hO := layO_ok t
 have hz16 : List.replicate 16 (D.raw (u8 0#8)) = bs zid := rfl
 simp only [z32_eq, hz16]
 simp only [↓amD, amU, simprocAttr, zipEnv, amR, H.w.awake, kAwakeL, Bool.not_true, H.w.n3, H.w.r3]
 refine lay_run CL CT H.w.new H.w.ln H.w.lr hid hsd ?_
 intro R1 L hS hK l1 l2 l3 l4 hd
 have r0 := hK 0 _ rfl
 have r2 := hK 2 _ rfl
 have hw := lay_whole hS hid hsd
 have hlv := hw.lv
 have hHk : hH ((layS h t id seed).v L).t = 2 ^ layK h := layH h
 rw [hHk] at hlv
 have hkle := layK_le h
 have hrd := fun L' => (hS.push L').rd
 have hoV : okT ((layS h t id seed).v L).o.toNat = true := hw.o
 have hiV : ((layS h t id seed).v L).id = id := rfl
 generalize (layS h t id seed).v L = V at *
 have kc := fun rows k => kCut rows k (.lst L8 (bs m0) false) m0 60 (.inr ⟨false, rfl⟩) hm0 (by rw [List.length_take]; omega)
 have hml : (m0.take (60 : Int).toNat).length ≤ 60 := by rw [List.length_take]; exact Nat.min_le_left _ _
 generalize m0.take (60 : Int).toNat = m at kc hml
 have hs1 := shl_it 1 (layK h) (by decide) (by omega)
 rw [Nat.one_mul, show ((1 : Nat) : Int) = 1 from rfl] at hs1
 have hk0 : (((2 ^ layK h : Nat) : Int) = 0) = False := eq_false (by rcases hkle with e | e <;> rw [e] <;> decide)
 have rm : (q.toNat : Int).tmod ((2 ^ layK h : Nat) : Int) = ((q.toNat % 2 ^ layK h : Nat) : Int) := rfl
 have hof : BitVec.ofInt 32 ((q.toNat % 2 ^ layK h : Nat) : Int) = BitVec.ofNat 32 (q.toNat % 2 ^ layK h) := BitVec.ofInt_natCast _ _
 have hq : (BitVec.ofNat 32 (q.toNat % 2 ^ layK h)).toNat < 2 ^ layK h := by
  have := Nat.mod_lt q.toNat (Nat.two_pow_pos (layK h))
  rw [BitVec.toNat_ofNat]
  exact Nat.lt_of_le_of_lt (Nat.mod_le _ _) this
 generalize BitVec.ofNat 32 (q.toNat % 2 ^ layK h) = qi at *
 have hql : qi.toNat < lvN V := by rw [hlv]; exact hq
 have hqh : qi.toNat < hH V.t := by rw [hHk]; exact hq
 have hsl := sigF_len hw.ok hql c m hc
 have hpt : pT V.o.toNat ≤ 265 := (parT_ok hoV).2.2.1
 have hpn := pathN_le hw.ok hql
 have kF := fun L' x k' => kForceV (R1 ++ L') k' (.ptr SSig L.r [0]) (.sl L8 R1.length [] 0 m.length false) V qi c m (hrd L') (BsIn.own x m.length rfl) hw.ok hoV hc (by omega) hql
 have x0 : live (R1 ++ [some (⟨L8, bs m⟩ : Row)]) R1.length = some ⟨L8, bs m⟩ := by rw [lv_app0]; rfl
 have kPu := fun L' k' => kPublicV (R1 ++ L') k' (.ptr SSig L.r [0]) V (hrd L') hw.ok
 have b0 : ∀ n : Nat, ((0 : Int) ≤ (n : Int)) = True := fun n => eq_true (by omega)
 simp only [↓amD, amU, simprocAttr, zipEnv, amR, r0, r2, live_app r2, H.w.cut, kc, hs1, hk0, rm, hof, H.w.frc, kF _ x0, H.w.pub, kPu]
 have hsl' : 44 + (32 * pT V.o.toNat + 32 * pathN V qi.toNat) = (sigF V qi c m).length := by rw [hsl, Nat.add_assoc]
 rw [hsl']
 have hv0 : verE (pubSg V) m (sigF V qi c m) = 0 := by rw [ver_own hw hw rfl rfl rfl hqh c m hc, if_pos rfl]
 have hN : (sigF V qi c m).length ≤ 1000000 ∧ 44 ≤ (sigF V qi c m).length := by rw [hsl]; omega
 clear kF hsl hsl' x0 hs1 hk0 rm hof kc hpn hql hqh
 generalize sigF V qi c m = G at *
 obtain ⟨i0, hi0⟩ : ∃ i0 : Nat, at'.toNat % G.length = i0 := ⟨_, rfl⟩
 have hil : i0 < G.length := by rw [← hi0]; exact Nat.mod_lt _ (by omega)
 have rm2 : (at'.toNat : Int).tmod (G.length : Int) = (i0 : Int) := by rw [← hi0]; rfl
 have gne : ((G.length : Int) = 0) = False := eq_false (by omega)
 have c1 : ((i0 : Int) < (G.length : Int)) = True := eq_true (by omega)
 have gg : (bs G)[i0]? = some (.raw (u8 (G.getD i0 0#8))) := bs_get hil
 have gs := bs_set G i0 (G.getD i0 0#8 ^^^ turn)
 have hGt : turn = 0#8 → verE (pubSg V) m (G.set i0 (G.getD i0 0#8 ^^^ turn)) = 0 := fun e => by
  have : G.set i0 (G.getD i0 0#8 ^^^ turn) = G := by
   rw [e, BitVec.xor_zero]
   refine List.ext_getElem (by simp) fun j h1 h2 => ?_
   rw [List.getElem_set]
   split
   ·rename_i e; subst e; simp [List.getD, hil]
   ·rfl
  rw [this]; exact hv0
 have hGl : (G.set i0 (G.getD i0 0#8 ^^^ turn)).length = G.length := List.length_set
 simp only [↓amD, amU, simprocAttr, zipEnv, amR, gne, rm2, c1, b0, gg, gs, H.w.roo]
 rw [← hGl]
 rw [← hGl] at hN
 clear hGl gs gg c1 gne rm2 hi0 hil hv0
 generalize G.set i0 (G.getD i0 0#8 ^^^ turn) = B at *
 have hpl := pubSg_len hw.ok
 have hpr := pub_read hw
 have hE : rtE (pubSg V) B = if partsE B ≠ 0 then partsE B else if ltS B = V.t ∧ loS B = V.o then 0 else 6 := by
  rw [rtE, hpr]; simp
 refine Eq.mpr (kRoot _ _ _ _ _ (pubSg V) m B (BsIn.own (by rw [lv_appk]; rfl) _ hpl.symm) (BsIn.own (by rw [lv_app0]; rfl) _ rfl) (BsIn.own (by rw [lv_appk]; rfl) _ rfl) (by omega) (by omega) (by omega)) ?_
 simp only [↓amD, amU, simprocAttr, zipEnv, amR, H.w.ver]
 refine Eq.mpr (kVerify _ _ _ _ _ (pubSg V) m B (BsIn.own (by rw [lv_appk]; rfl) _ hpl.symm) (BsIn.own (by rw [lv_app0]; rfl) _ rfl) (BsIn.own (by rw [lv_appk]; rfl) _ rfl) (by omega) (by omega) (by omega)) ?_
 simp only [↓amD, amU, simprocAttr, zipEnv, amR, H.n4, H.r4]
 have fz : (D.agg SSg [.raw (u32 0#32), .raw (.slice none 0 0), .raw (u32 0#32), .raw (.slice none 0 0)]).fits SSg = true := rfl
 refine rparts_run CP H.val H.tab H.hei (p := B) (by rw [lv_appk]; rfl) (by omega) ?_ ?_
 rotate_left
 ·intro he mr
  have hE1 : rtE (pubSg V) B = partsE B := by rw [hE, if_pos he]
  have hV1 : verE (pubSg V) m B = partsE B := by rw [verE, hE1, if_neg he]
  rw [hE1, hV1, if_neg he]
  have ez := eqA_d32 z32 z32 rfl rfl
  rw [decide_eq_true rfl] at ez
  have he' : (partsE B = 0) = False := eq_false he
  unfold sgZ
  simp only [↓amD, amU, simprocAttr, zipEnv, amR, fz, he', ez]
 ·intro he R2 rp x1 x2 hK2 hrp hlp
  have y0 := hK2 0 _ (live_app r0 _)
  have ym := hK2 R1.length _ (by rw [lv_app0]; rfl)
  have yB := hK2 (R1.length + 1) _ (by rw [lv_appk]; rfl)
  have yP := hK2 (R1.length + 2) _ (by rw [lv_appk]; rfl)
  have yD := hK2 (R1.length + 3) _ (by rw [lv_appk]; rfl)
  have Y0 := fun L' => live_app y0 L'
  have YD := fun L' => live_app yD L'
  have hB := partsE_0 he
  have hcell : live (R2 ++ [some (⟨SSg, [.agg SSg [.raw (u32 (lqS B)), .sl L8 (R1.length + 1) [] 4 (36 + 32 * lpS B) x1, .raw (u32 (ltS B)), .sl (.ar 32 L8) rp [] 0 (lhS B) x2]]⟩ : Row)]) R2.length = some ⟨SSg, [.agg SSg [.raw (u32 (lqS B)), .sl L8 (R1.length + 1) [] 4 (36 + 32 * lpS B) x1, .raw (u32 (ltS B)), .sl (.ar 32 L8) rp [] 0 (lhS B) x2]]⟩ := by rw [lv_app0]; rfl
  have u1 : (val4S (pubSg V)).setWidth 32 = V.t := (val4 _ (by omega)).trans (pub_t V)
  have u2 : (val4S (B.drop 4) = val4S ((pubSg V).drop 4)) = (loS B = V.o) := by
   rw [val4_iff _ _ (by rw [List.length_drop]; omega) (by rw [List.length_drop]; omega), pub_o]; rfl
  have g1 : (4 ≤ 36 + 32 * lpS B) = True := eq_true (by omega)
  have g2 : ((4 : Int) ≤ ((36 + 32 * lpS B : Nat) : Int)) = True := eq_true (by omega)
  rw [if_neg (by rw [he]; exact fun h => h rfl)] at hE
  simp only [↓amD, amU, simprocAttr, zipEnv, amR, hv, g1, g2]
  refine Eq.mpr (kValue _ _ _ ((pubSg V).take 4) (by have := BsIn.sub (off := 0) (len := 4) (ex := exOf none 4 56 56 false) (live_app yP [some ⟨SSg, [.agg SSg [.raw (u32 (lqS B)), .sl L8 (R1.length + 1) [] 4 (36 + 32 * lpS B) x1, .raw (u32 (ltS B)), .sl (.ar 32 L8) rp [] 0 (lhS B) x2]]⟩]) (by omega); rw [List.drop_zero] at this; exact this) (by rw [List.length_take]; omega)) ?_
  show kOp _ _ _ _ _ (.raw (u64 (val4S (pubSg V)))) _
  by_cases hT : ltS B = V.t
  ·have cT := eq_true hT
   simp only [↓amD, amU, simprocAttr, zipEnv, amR, hv, u1, cT, hcell, g1, g2]
   refine Eq.mpr (kValue _ _ _ ((B.drop 4).take 4) (BsIn.sub (live_app yB _) (by omega)) (by rw [List.length_take]; omega)) ?_
   show kOp _ _ _ _ _ (.raw (u64 (val4S (B.drop 4)))) _
   simp only [↓amD, amU, simprocAttr, zipEnv, amR, hv]
   refine Eq.mpr (kValue _ _ _ (((pubSg V).drop 4).take 4) (BsIn.sub (live_app yP _) (by omega)) (by rw [List.length_take]; omega)) ?_
   show kOp _ _ _ _ _ (.raw (u64 (val4S ((pubSg V).drop 4)))) _
   by_cases hO : loS B = V.o
   ·rw [if_pos ⟨hT, hO⟩] at hE
    have cO := eq_true hO
    have hV : verE (pubSg V) m B = if rtS (pubSg V) m B = V.ns.getD 1 [] then 0 else 5 := by rw [verE, hE, if_pos rfl, hpr]
    rw [hE, if_pos rfl] at yD
    have YD := fun L' => live_app yD L'
    have hol := oneS_len he
    have hlh : lhS B ≤ 25 := hT_le _
    have hfl := fun L' => live_app hlp L'
    rw [hE]
    simp only [↓amD, amU, simprocAttr, zipEnv, amR, u2, cO, Y0, hcell, b0, H.w.cla]
    refine Eq.mpr (kClaim _ _ ⟨id, lqS B⟩ _ _ (oneS B) m (BsIn.sub (live_app yB _) (by omega)) (BsIn.own (live_app ym _) _ rfl) hid (by rw [hol]; omega) (split_one he)) ?_
    have hcl := claimS_len ⟨id, lqS B⟩ (oneS B) m
    simp only [↓amD, amU, simprocAttr, zipEnv, amR, Y0, hcell, b0, H.w.rha]
    refine Eq.mpr (kRHash _ _ id (lqS B + 1#32 <<< lhS B) 33410#64 _ [claimS ⟨id, lqS B⟩ (oneS B) m] (RdIn.parts (by rw [lv_appk]; rfl) rfl (.cons (BsIn.atAll (n := 32) (by rw [lv_appk]; rfl) rfl hcl) .nil)) hid (by decide) (by simp) (by simp [hcl])) ?_
    have hL : hashS id (lqS B + 1#32 <<< lhS B) (33410#64).toNat [claimS ⟨id, lqS B⟩ (oneS B) m] = leafS id (lqS B + 1#32 <<< lhS B) (claimS ⟨id, lqS B⟩ (oneS B) m) := by
     rw [show (33410#64).toNat = 33410 by decide]; rfl
    rw [hL]
    simp only [↓amD, amU, simprocAttr, zipEnv, amR, Y0, hcell, b0, H.w.clm]
    refine Eq.mpr (kClimb _ _ id (lqS B) (leafS id (lqS B + 1#32 <<< lhS B) (claimS ⟨id, lqS B⟩ (oneS B) m)) _ (pathS B (lhS B)) (RdIn.dl (hfl _) (pathS_len _ _)) hid (leafS_len _ _ _) (pathS_32 he) (by rw [pathS_len]; omega)) ?_
    have hR : climbS id (lqS B) (leafS id (lqS B + 1#32 <<< lhS B) (claimS ⟨id, lqS B⟩ (oneS B) m)) (pathS B (lhS B)) = rtS (pubSg V) m B := by
     rw [rtS, hpr, ← hiV]
    rw [hR, hV]
    have hxl := rtS_len (pubSg V) m B
    have hrl : (V.ns.getD 1 []).length = 32 := (sg_n1 hw.ok).2
    have hbs : List.take 32 (List.drop 24 (bs (pubSg V))) = bs (V.ns.getD 1 []) := by rw [bs_drop, pub_root (s := V) (by rw [hiV]; exact hid), bs_take, List.take_of_length_le (by omega)]
    have q1 : eqL (bs (rtS (pubSg V) m B)) (bs (rtS (pubSg V) m B)) = some true := by
     have := eqA_d32 _ _ hxl hxl
     rw [decide_eq_true rfl] at this
     exact this
    have q2 : eqL (bs (rtS (pubSg V) m B)) (bs (V.ns.getD 1 [])) = some (decide (rtS (pubSg V) m B = V.ns.getD 1 [])) := eqA_d32 _ _ hxl hrl
    by_cases hX : rtS (pubSg V) m B = V.ns.getD 1 []
    ·have qt : eqL (bs (V.ns.getD 1 [])) (bs (V.ns.getD 1 [])) = some true := by rw [← hX]; exact q1
     rw [if_pos hX]
     rw [hX] at YD
     rw [hX]
     rcases (by by_cases e : turn = 0#8 <;> simp [e] : (turn = 0#8) = True ∨ (turn = 0#8) = False) with ht | ht <;> simp only [↓amD, amU, simprocAttr, zipEnv, amR, YD, hbs, qt, bs_len, hrl, live_app yP, beq_self_eq_true, ht]
    ·rw [if_neg hX]
     rw [decide_eq_false hX] at q2
     have ht : (turn = 0#8) = False := eq_false fun e => by
      have := hGt e
      rw [hV, if_neg hX] at this
      exact absurd this (by decide)
     simp only [↓amD, amU, simprocAttr, zipEnv, amR, YD, hbs, q1, q2, bs_len, hrl, live_app yP, beq_self_eq_true, ht]
   ·have cO := eq_false hO
    have hE1 : rtE (pubSg V) B = 6 := by rw [hE, if_neg fun h => hO h.2]
    have hV1 : verE (pubSg V) m B = 6 := by rw [verE, hE1, if_neg (by decide)]
    rw [hE1, hV1]
    simp only [↓amD, amU, simprocAttr, zipEnv, amR, u2, cO]
  ·have cT := eq_false hT
   have hE1 : rtE (pubSg V) B = 6 := by rw [hE, if_neg fun h => hT h.1]
   have hV1 : verE (pubSg V) m B = 6 := by rw [verE, hE1, if_neg (by decide)]
   rw [hE1, hV1]
   simp only [↓amD, amU, simprocAttr, zipEnv, amR, hv, u1, cT, hcell]
end Job
end Go.Am
namespace Go.Proofs.YtmhagenbelpnfaaDoor.roots
open Go.Am Go.Am.Job Go.Am.F
open Go.ChangeShapes Go.WideShapes Go.ChangeAt Go.RowKit
set_option linter.unusedVariables false
set_option linter.unusedSimpArgs false
def K : TKs := .cons (.int .u8) (.cons (.int .u8) (.cons (.arr 16 (.int .u8)) (.cons (.arr 32 (.int .u8)) (.cons (.arr 32 (.int .u8)) (.cons (.slice (.int .u8)) (.cons (.int .u8) (.cons (.int .u16) (.cons (.int .u8) .nil))))))))
noncomputable def triT : TypeId := (Tryd.prog.globals[0]?.map (·.type)).getD 0
noncomputable def triE : TypeId := match Tryd.prog.underlying triT with | some (.array _ e) => e | _ => 0
noncomputable def triF : Array Field := match Tryd.prog.underlying triE with | some (.struct fs) => fs | _ => #[]
theorem own : ownKnob Tryd.prog.godebug = none := by kernel_rfl
theorem laid : laidOutB Tryd.prog = true := by kernel_rfl
theorem law (dd : List D) (h : DNs K dd) : afun CL 9 r_law06_LmsRoots a_law06_LmsRoots dd [] (fun d _ => d = .raw (.bool true)) := by
 rcases dd with _ | ⟨d0, _ | ⟨d1, _ | ⟨d2, _ | ⟨d3, _ | ⟨d4, _ | ⟨d5, _ | ⟨d6, _ | ⟨d7, _ | ⟨d8, _ | ⟨d9, l⟩⟩⟩⟩⟩⟩⟩⟩⟩⟩
 ·exact h.elim
 ·exact h.2.elim
 ·exact h.2.2.elim
 ·exact h.2.2.2.elim
 ·exact h.2.2.2.2.elim
 ·exact h.2.2.2.2.2.elim
 ·exact h.2.2.2.2.2.2.elim
 ·exact h.2.2.2.2.2.2.2.elim
 ·exact h.2.2.2.2.2.2.2.2.elim
 ·obtain ⟨h1, h2, h3, h4, h5, h6, h7, h8, h9, -⟩ := h
  unfold DN DK at h1 h2 h7 h8 h9
  obtain ⟨h0, rfl⟩ := h1
  obtain ⟨t, rfl⟩ := h2
  obtain ⟨id, rfl, hid⟩ := dk_arr8 h3
  obtain ⟨seed, rfl, hsd⟩ := dk_arr8 h4
  obtain ⟨c, rfl, hc⟩ := dk_arr8 h5
  obtain ⟨m, rfl, hm, -⟩ := dn_bs h6
  unfold maxLen at hm
  obtain ⟨q, rfl⟩ := h7
  obtain ⟨at', rfl⟩ := h8
  obtain ⟨turn, rfl⟩ := h9
  exact roots_law CL CA C CA lpL rfl h0 t id seed c m q at' turn hid hsd hc (by omega)
 ·exact h.2.2.2.2.2.2.2.2.2.elim
theorem globs {W : World} (hL : laidMetH Tryd.prog Rows.lmsRootsRow.laid W) (g : Nat) (d : D) (h : CL.glob g = some d) : LR noPl W (old W) (.cptr d) (.pointer (some ⟨g, 0, none⟩)) := by
 have hL' : laidMet Tryd.prog Rows.lmsRootsRow.laid W := hL
 by_cases h0 : g = 1
 ·subst h0
  have e : numsD .u32 firstZ = d := Option.some.inj ((CL_first : CL.glob 1 = some (numsD .u32 firstZ)).symm.trans h)
  subst e
  exact laid_glob (P := Tryd.prog) (t := (Tryd.prog.globals[1]?.map (·.type)).getD 0) (e := match Tryd.prog.underlying ((Tryd.prog.globals[1]?.map (·.type)).getD 0) with | some (.array _ e) => e | _ => 0) (n := firstZ.length) (name := (Rows.lmsRootsRow.laid.getD 0 ("", .nil)).1) hL' (List.mem_of_getElem? (i := 0) rfl) (by kernel_rfl) (by kernel_rfl) (by kernel_rfl) (by kernel_rfl) (by kernel_rfl) (by kernel_rfl) (by decide)
 by_cases h1 : g = 2
 ·subst h1
  have e : numsD .u32 roundsZ = d := Option.some.inj ((CL_rounds : CL.glob 2 = some (numsD .u32 roundsZ)).symm.trans h)
  subst e
  exact laid_glob (P := Tryd.prog) (t := (Tryd.prog.globals[2]?.map (·.type)).getD 0) (e := match Tryd.prog.underlying ((Tryd.prog.globals[2]?.map (·.type)).getD 0) with | some (.array _ e) => e | _ => 0) (n := roundsZ.length) (name := (Rows.lmsRootsRow.laid.getD 1 ("", .nil)).1) hL' (List.mem_of_getElem? (i := 1) rfl) (by kernel_rfl) (by kernel_rfl) (by kernel_rfl) (by kernel_rfl) (by kernel_rfl) (by kernel_rfl) (by decide)
 by_cases h2 : g = 0
 ·subst h2
  have e : D.agg (.ar typesZ.length SPar) (typesZ.map triD) = d := Option.some.inj ((CL_types : CL.glob 0 = some (D.agg (.ar typesZ.length SPar) (typesZ.map triD))).symm.trans h)
  subst e
  exact laid_triG (P := Tryd.prog) (t := triT) (e := triE) (n := typesZ.length) (fs := triF) (f0 := triF.toList.getD 0 default) (f1 := triF.toList.getD 1 default) (f2 := triF.toList.getD 2 default) (zs := typesZ) (name := (Rows.lmsRootsRow.laid.getD 2 ("", .nil)).1) hL' (List.mem_of_getElem? (i := 2) rfl) (by kernel_rfl) (by kernel_rfl) (by kernel_rfl) (by kernel_rfl) (by kernel_rfl) (by kernel_rfl) (by kernel_rfl) (by kernel_rfl) (by kernel_rfl) (by kernel_rfl) (by kernel_rfl) (by kernel_rfl) (by kernel_rfl) (by kernel_rfl) (by kernel_rfl) (by kernel_rfl) (by decide)
 ·exact absurd h (by rw [CL_glob_none g h2 h0 h1]; exact nofun)
def lay0 : Obj → Obj
 | .cells _ t frozen => .cells (firstZ.map fun z => Value.int .u32 z).toArray t frozen
 | o => o
def lay1 : Obj → Obj
 | .cells _ t frozen => .cells (roundsZ.map fun z => Value.int .u32 z).toArray t frozen
 | o => o
def lay2 : Obj → Obj
 | .cells _ t frozen => .cells (typesZ.flatMap fun z => [Value.int .i64 z.1, Value.int .i64 z.2.1, Value.int .i64 z.2.2]).toArray t frozen
 | o => o
noncomputable def laidWorld (os : Os) : World := { World.holding Tryd.prog os ⟨#[], #[], []⟩ with heap := ((((World.holding Tryd.prog os ⟨#[], #[], []⟩).heap.modify 1 lay0).modify 2 lay1).modify 0 lay2) }
theorem laid_met (os : Os) : laidMet Tryd.prog Rows.lmsRootsRow.laid ((laidWorld os).forCall (fun _ _ => 0) ⟨#[], #[.int .u8 0, .int .u8 0, .agg (Array.replicate 16 (Value.int .u8 0)), .agg (Array.replicate 32 (Value.int .u8 0)), .agg (Array.replicate 32 (Value.int .u8 0)), .slice none 0 0, .int .u8 0, .int .u16 0, .int .u8 0], []⟩).memory :=
 laidMet_of_run' 8 (by kernel_rfl) (by kernel_rfl)
theorem reads (os : Os) {H : Type} (enc : TypeId × Value → H) : ∃ places, DataW.whole enc Tryd.prog ((laidWorld os).forCall (fun _ _ => 0) ⟨#[], #[.int .u8 0, .int .u8 0, .agg (Array.replicate 16 (Value.int .u8 0)), .agg (Array.replicate 32 (Value.int .u8 0)), .agg (Array.replicate 32 (Value.int .u8 0)), .slice none 0 0, .int .u8 0, .int .u16 0, .int .u8 0], []⟩).memory Tryd.f4.params.toList Rows.lmsRootsSpec.vars false #[.int .u8 0, .int .u8 0, .agg (Array.replicate 16 (Value.int .u8 0)), .agg (Array.replicate 32 (Value.int .u8 0)), .agg (Array.replicate 32 (Value.int .u8 0)), .slice none 0 0, .int .u8 0, .int .u16 0, .int .u8 0].toList 8 = some ([.lit (.int .u8 0), .lit (.int .u8 0), .agg (List.replicate 16 (.lit (.int .u8 0))), .agg (List.replicate 32 (.lit (.int .u8 0))), .agg (List.replicate 32 (.lit (.int .u8 0))), .nil, .lit (.int .u8 0), .lit (.int .u16 0), .lit (.int .u8 0)], [], places) :=
 ⟨[], by kernel_rfl⟩
set_option maxRecDepth 100000 in
theorem lifted (os : Os) (started : os.Started) (H : Type) (enc : TypeId × Value → H) (F : Stop.Interp) :
  ReturnsInHanded {} Tryd.checked os 4 .any ((OpenSpec.ofChange Rows.lmsRootsSpec).preRow enc Tryd.prog Tryd.f4 Rows.lmsRootsRow.domain false Rows.lmsRootsRow.laid) (((OpenSpec.ofChange Rows.lmsRootsSpec).at F).post enc Tryd.prog Tryd.f4 false true false false) := by
 obtain ⟨places, hx⟩ := reads os enc
 refine returnsInHanded_of_row (C := Tryd.checked) (s := (OpenSpec.ofChange Rows.lmsRootsSpec)) own started (by kernel_rfl) Tryd.func4
  (witness_row_at (enc := enc) (C := Tryd.checked) false (laidWorld os) #[.int .u8 0, .int .u8 0, .agg (Array.replicate 16 (Value.int .u8 0)), .agg (Array.replicate 32 (Value.int .u8 0)), .agg (Array.replicate 32 (Value.int .u8 0)), .slice none 0 0, .int .u8 0, .int .u16 0, .int .u8 0] rfl (by kernel_rfl) (by kernel_rfl) (by kernel_rfl)
   (OpenSpec.preRow_of_cond 8 hx (by kernel_rfl) (fun k hk => by cases hk) (by kernel_rfl) (laid_met os))) ?_
 intro W base args ds gs before hval hW _ _ _ hL _ _
 exact row_law (m_law06_LmsRoots CL ctxL) laid (n := 9) (ks := K) (tb := Tryd.f4.resultTypes.getD 0 0) (by kernel_rfl) (by kernel_rfl) rfl (by kernel_rfl) (by kernel_rfl) (fun ds h => by match ds, h with | [_, _, _, _, _, _, _, _, _], _ => rfl) (fun dd h _ => law dd h) hval hW (fun g d h => globs hL g d h)
theorem over : Rows.LmsRootsSaid :=
 OpenClaim.holds_of_cond 4 Tryd.f4 rfl rfl rfl rfl rfl rfl rfl ⟨rfl, rfl, rfl, rfl, rfl⟩ rfl rfl rfl rfl rfl (by kernel_rfl) Tryd.func4 (by kernel_rfl)
  (of_decide_eq_true (by kernel_rfl)) (by unfold Func.isWrapper; first | (rw [if_pos (by decide +kernel)]; kernel_rfl) | (rw [if_neg (by decide +kernel)]; exact ⟨rfl, rfl⟩))
  (fun os started H enc _ F => by rw [OpenClaim.pre_eq_preRow]; exact lifted os started H enc F)
theorem plain (f : FuncId) (fn : Func) (hf : Tryd.pinned.checked.prog.funcNamed Rows.lmsRootsRow.func = some f) (hfn : Tryd.pinned.checked.prog.funcs[f]? = some fn) :
  false = Tryd.pinned.checked.prog.looks [] ∧ ∀ (j : Nat) t, fn.params[j]? = some t → Tryd.pinned.checked.prog.wantsStandIn t = false := by
 obtain rfl : f = 4 := (Option.some.inj ((show Tryd.prog.funcNamed Rows.lmsRootsRow.func = some 4 by kernel_rfl).symm.trans hf)).symm
 obtain rfl : fn = Tryd.f4 := (Option.some.inj (Tryd.func4.symm.trans hfn)).symm
 refine ⟨by kernel_rfl, fun j t ht => ?_⟩
 have hall : (Tryd.f4.params.toList.all fun t => !Tryd.prog.wantsStandIn t) = true := by kernel_rfl
 have := List.all_eq_true.1 hall t (by simpa using Array.mem_of_getElem? ht)
 exact (by simpa using this : Tryd.prog.wantsStandIn t = false)
theorem proved : Rows.LmsRootsCardSaid :=
 Claim7.holds_tied_plain_at .later [] _ _ _ _ over (fun _ h => by cases h) (by kernel_rfl) (fun _ h => by cases h) lmsRoots_row_tie rfl ⟨rfl, rfl⟩ (by kernel_rfl) rfl plain (by kernel_rfl)
end Go.Proofs.YtmhagenbelpnfaaDoor.roots
