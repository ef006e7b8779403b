/- 'ProofValues' returns true for every input: a proof of the given card; its condition: the listed package variables hold what the program's text lays (tied by the card). -/
import Derived.Test.YtpepmhbdblldeaaDoorPv23
import Derived.Test.YtpepmhbdblldeaaDoorCards
import Derived.Test.YtpepmhbdblldeaaDoorTie
import Derived.WalkKit
import Derived.ProofKit
import Derived.OpenShut
import Derived.Deep.DeepHandedRow
namespace Go.Am
set_option linter.unusedSimpArgs false
set_option linter.unusedVariables false
attribute [local congr] bnd_congr kCond_congr kGd_congr kPick_congr kCall_congr kIdx_congr kSlice_congr kLoop_congr cond_congr' aBin_congr aBounds_congr aApp_congr aCopy_congr kFn_congr
namespace Job
open Go.Am.F
set_option maxRecDepth 10000
theorem own_ver {V : SgV} {ml : Msgs} (h : PS V ml) {q : BitVec 32} (hq : q.toNat < 2) {c m : List (BitVec 8)} (hc : c.length = 32) : verE (pubSg V) m (sigF V q c m) = 0 := by
 rw [ver_own h.w h.w rfl rfl rfl (by rw [h.two]; exact hq) c m hc, if_pos rfl]
theorem own_len {V : SgV} {ml : Msgs} (h : PS V ml) {q : BitVec 32} (hq : q.toNat < 2) {c m : List (BitVec 8)} (hc : c.length = 32) : (sigF V q c m).length = 44 + 32 * pT V.o.toNat + 32 * 1 := by
 rw [sigF_len h.w.ok (by rw [h.lv]; exact hq) c m hc, h.w.pn (by rw [h.two]; exact hq), h.h1]
theorem own_forged {V : SgV} {ml : Msgs} (h : PS V ml) {q : BitVec 32} (hq : q.toNat < 2) {c m : List (BitVec 8)} (hc : c.length = 32) (hl : ml.length ≤ q.toNat) : OwnS V ml m (sigF V q c m) := by
 have h2 : q.toNat < hH V.t := by rw [h.two]; exact hq
 have hp := sf_path h.w h2 c m hc
 rw [h.h1] at hp
 refine ⟨?_, ?_, ?_, ?_⟩
 ·rw [sf_q, sf_one c m hc]; exact claim_sign V.o ⟨V.id, q⟩ V.seed c m hc h.w.o
 ·rw [sf_q]; exact hp.symm
 ·intro i hi
  rw [sf_q, sf_one c m hc, sig_C V.o ⟨V.id, q⟩ V.seed c m hc, sig_chunk V.o ⟨V.id, q⟩ V.seed c m hc i hi]
  rfl
 ·rw [sf_q]; exact hl
noncomputable def fAwakeP : Fn
 | [], [] => some (.raw (.bool true), [])
 | _, _ => none
theorem kAwakeP (rows : Rows) (k : D → Rows → Prop) : kCall fAwakeP rows k [] = k (.raw (.bool true)) rows := by
 refine (kCall_val rfl (r := (.raw (.bool true), [])) rfl).trans ?_
 simp [shift, shiftRows]
theorem kRightS {rows : Rows} {L : At4} {S : Sg} {ml : Msgs} (hS : Sgn rows L S) (hP : PS (S.v L) ml) {d : D} {k : Int} {A B : List (BitVec 8)} {p : Plc} {x : List (BitVec 8)} (hF : FdIn rows d k A B p x) (K : D → Rows → Prop) :
  kCall fRight7 rows K [.ptr SSig L.r [0], .agg (.ar 32 L8) (bs S.seed), d] = K (.raw (.bool (rightV (some (S.v L)) S.seed ⟨k, A, B, p, x⟩))) rows := kRight7 hS.rd.so hF.rd S.seed (okRf_of hP hF) K
theorem kRightG {rows : Rows} {L : At4} {S : Sg} {ml : Msgs} (hS : Sgn rows L S) (hP : PS (S.v L) ml) {d : D} {k : Int} {A B : List (BitVec 8)} {p : Plc} {x : List (BitVec 8)} (hF : FdIn rows d k A B p x) (hG : Good (S.v L) ml k A B p x) (K : D → Rows → Prop) :
  kCall fRight7 rows K [.ptr SSig L.r [0], .agg (.ar 32 L8) (bs S.seed), d] = K (.raw (.bool true)) rows := by
 rw [kRightS hS hP hF K, show rightV (some (S.v L)) S.seed ⟨k, A, B, p, x⟩ = true from right_good hP hG]
structure LawC (C CT CS CF CC CO CH CL CY : Ctx) : Prop where
 ly0 : C.fn 8 = none
 ly1 : C.fnr 8 = some (afun CY 3 r_law07_lay a_law07_lay)
 lyC : LayC CY CT CS
 ex0 : C.fn 11 = none
 ex1 : C.fnr 11 = some (afun CY 4 r_proof_Extract a_proof_Extract)
 exC : ExC CY CF CC CO CH CL
 frc : C.fn 10 = some fForce
 rig : C.fn 13 = some fRight7
set_option maxHeartbeats 2000000 in
theorem awakep_ok (C CT CS CF CC CO CH CL CY : Ctx) (hC : CtxOK C P) (H : LawC C CT CS CF CC CO CH CL CY) : Meets C.glob P 7 (Fn.run fAwakeP) := by
 refine fn_meets (m_law07_awake C hC) fun ds rows r h => ?_
 unfold fAwakeP at h
 split at h
 ·cases h
  refine ⟨rfl, afun_mk rfl ?_⟩
  unfold a_law07_awake r_law07_awake
  simp only [z32_eq]
  simp only [↓amD, amU, simprocAttr, zipEnv, bs_set, H.ly0, H.ly1]
  refine lay7_run CY CT CS H.lyC (t := 0#8) (seed := z32.set 0 1#8) rfl (ms := []) (dms := .raw (.slice none 0 0)) rfl (fun i h => by simp at h) (by simp) (fun d h => by simp at h) ?_
  intro R1 r L S ml hY hml hK
  have hm0 : ml = [] := List.eq_nil_of_length_eq_zero (by simpa using hml)
  subst hm0
  have hP := hY.ps
  have hS := hY.sgn
  have hq1 : (1#32).toNat < 2 := by decide
  have hok := hP.w.ok
  simp only [↓amD, amU, simprocAttr, zipEnv, amR, H.frc]
  refine Eq.mpr (kForceV _ _ _ _ _ 1#32 z32 [109#8] (hS.push _).rd (BsIn.own (by rw [lv_app0]; rfl) _ rfl) hok hP.okO rfl (by decide) (by rw [hP.lv]; exact hq1)) ?_
  have hlen := own_len hP hq1 (c := z32) (m := [109#8]) rfl
  have hver := own_ver hP hq1 (c := z32) (m := [109#8]) rfl
  have hown := own_forged hP hq1 (c := z32) (m := [109#8]) rfl (Nat.zero_le _)
  have hpt : pT (S.v L).o.toNat ≤ 265 := (parT_ok hP.okO).2.2.1
  have hpn : pathN (S.v L) (1#32).toNat = 1 := (hP.w.pn (by rw [hP.two]; exact hq1)).trans hP.h1
  rw [hpn, ← hlen]
  generalize sigF (S.v L) 1#32 z32 [109#8] = sg at *
  have hsd := hY.sd.symm
  simp only [↓amD, amU, simprocAttr, zipEnv, amR, bs_set, H.ex0, H.ex1]
  rw [hsd]
  refine extract_run CY CF CC CO CH CL H.exC (hS.push _) hP (msg := [109#8]) (sg := sg) (.inr ⟨_, _, rfl, by rw [lv_appk]; rfl⟩) (.inr ⟨_, _, rfl, by rw [lv_appk]; rfl⟩) (by decide) (by omega) (fun h => absurd hver h) (fun _ h => by simp at h) ?_
  intro _ _ R2 d k A B p x hK2 hF hG hN
  have hk2 : k = 2 := by
   cases hG with
   | col _ _ => exact absurd hown (hN rfl)
   | unt _ _ _ => rfl
  subst hk2
  have hkr := fun L' k' => kRightG (rows := R2 ++ L') (hS.keep ((KeptL.app _ _).trans (hK2.trans (KeptL.app _ _)))) hP (hF.keep (KeptL.app _ L')) hG k'
  obtain ⟨d0, d1, rfl, h0, h1⟩ := hF.ex
  have f0 := h0.fits
  have f1 := h1.fits
  unfold plcD at hkr
  unfold plcD
  simp only [↓amD, amU, simprocAttr, zipEnv, amR, f0, f1, bs_set, hsd, H.rig, hkr]
  exact .val _ rfl
 ·cases h
end Job
end Go.Am
namespace Go.Am
namespace Job
open Go.Am.F
set_option linter.unusedVariables false
set_option linter.unusedSimpArgs false
set_option maxRecDepth 100000
def typesZ : List (Int × Int × Int) := [(1, 265, 7), (2, 133, 6), (4, 67, 4), (8, 34, 0)]
def G0 : Nat → Option D := fun g => if g = 0 then some typesD else if g = 1 then some (h8D firstL) else if g = 2 then some (w64D roundsL) else none
noncomputable def T0 : List (Nat × Fn) := [(62, fText), (41, fValP), (32, fSiteP), (68, (fKd (be2 33153))), (64, (fKd (be2 33667))), (63, (fKd (be2 33410))), (65, (fKd (be2 32896))), (54, fLNum), (12, fSigned), (20, fKnows), (10, fForce), (28, fPath), (15, fPublicK), (48, fLeft), (26, fSite), (24, fLeaves), (47, fNode), (46, fLeaf), (76, fHash), (27, fFour), (55, fNoneP), (39, fReadK), (45, fHeight), (57, fLNum), (37, fSum), (71, fBJoin), (36, fEqual), (81, fClone), (17, fSame), (31, fClaim), (58, fSplit), (25, fSign), (33, fPublic), (49, fDigits), (77, fCoef), (59, fEnd), (23, fTable), (40, fParams), (60, fFold), (19, fRStep), (50, fMash), (52, fChain), (53, fSecret), (80, fStep), (79, fFront), (51, fFour), (78, fTwo), (72, fStSum), (70, fFeed), (69, fNew), (85, fPad), (84, fDigest), (18, fRSum), (43, fPressR), (82, fPress), (86, fSpread), (44, fJoin), (42, fNumS), (9, fCut), (73, fValue), (75, fRoots), (74, fTurn), (88, fWord), (87, fRot)]
noncomputable def C : Ctx := ⟨G0, fnTab T0, fun _ => none, fun _ => none⟩
theorem G0_none (g : Nat) (h : ¬ g = 0) (h0 : ¬ g = 1) (h1 : ¬ g = 2) : G0 g = none := by
 unfold G0
 rw [if_neg h, if_neg h0, if_neg h1]
def firstZ : List Int := firstL.map fun x => (x.toNat : Int)
def roundsZ : List Int := roundsL.map fun x => (x.toNat : Int)
theorem ctx : CtxOK C P := by
 have c0 := ctx_nil (G := G0) (P := P)
 have c1 := ctx_cons (rot_ok _ c0) c0
 have c2 := ctx_cons (word_ok _ c1) c1
 have c3 := ctx_cons (turn_ok _ c2) c2
 have c4 := ctx_cons (roots_ok _ c3) c3
 have c5 := ctx_cons (value_ok _ c4) c4
 have c6 := ctx_cons (cut_ok _ c5) c5
 have c7 := ctx_cons (num_sl _ c6) c6
 have c8 := ctx_cons (join_ok _ c7) c7
 have c9 := ctx_cons (spread_ok _ c8 rfl rfl) c8
 have c10 := ctx_cons (press_ok _ c9 rfl rfl rfl) c9
 have c11 := ctx_cons (pressR_ok _ c10 rfl rfl rfl) c10
 have c12 := ctx_cons (rsum_ok _ c11 rfl rfl rfl) c11
 have c13 := ctx_cons (digest_ok _ c12) c12
 have c14 := ctx_cons (pad_ok _ c13) c13
 have c15 := ctx_cons (new_ok _ c14 rfl) c14
 have c16 := ctx_cons (feed_meets _ c15 rfl) c15
 have c17 := ctx_cons (stsum_ok _ c16 rfl rfl rfl) c16
 have c18 := ctx_cons (two_ok _ c17) c17
 have c19 := ctx_cons (four_ok _ c18) c18
 have c20 := ctx_cons (front_ok _ c19 rfl rfl rfl) c19
 have c21 := ctx_cons (step_ok _ c20 rfl rfl rfl rfl) c20
 have c22 := ctx_cons (secret_ok _ c21 rfl) c21
 have c23 := ctx_cons (chain_ok _ c22 rfl) c22
 have c24 := ctx_cons (mash_ok _ c23 rfl rfl rfl rfl) c23
 have c25 := ctx_cons (rstep_ok _ c24 rfl rfl rfl) c24
 have c26 := ctx_cons (fold_ok _ c25 rfl rfl rfl rfl) c25
 have c27 := ctx_cons (params_ok _ c26 rfl) c26
 have c28 := ctx_cons (table_ok _ c27) c27
 have c29 := ctx_cons (end_ok _ c28) c28
 have c30 := ctx_cons (coef_ok _ c29) c29
 have c31 := ctx_cons (digits_ok _ c30 rfl rfl rfl rfl) c30
 have c32 := ctx_cons (public_ok _ c31 rfl rfl rfl rfl rfl) c31
 have c33 := ctx_cons (sign_ok _ c32 rfl rfl rfl rfl rfl rfl) c32
 have c34 := ctx_cons (split_ok _ c33 rfl) c33
 have c35 := ctx_cons (claim_ok _ c34 rfl rfl rfl rfl rfl rfl rfl) c34
 have c36 := ctx_cons (same_ok _ c35) c35
 have c37 := ctx_cons (clone_ok _ c36) c36
 have c38 := ctx_cons (equal_ok _ c37) c37
 have c39 := ctx_cons (bjoin_ok _ c38) c38
 have c40 := ctx_cons (sum_ok _ c39 rfl rfl rfl rfl) c39
 have c41 := ctx_cons (lnum_ok _ c40) c40
 have c42 := ctx_cons (height_ok _ c41) c41
 have c43 := ctx_cons (readK_ok _ c42 rfl rfl rfl) c42
 have c44 := ctx_cons (nonep_ok _ c43) c43
 have c45 := ctx_cons (lfour_ok _ c44) c44
 have c46 := ctx_cons (hash_ok _ c45 rfl rfl rfl rfl) c45
 have c47 := ctx_cons (leaf_ok _ c46 rfl) c46
 have c48 := ctx_cons (node_ok _ c47 rfl) c47
 have c49 := ctx_cons (leaves_ok _ c48) c48
 have c50 := ctx_cons (site_ok _ c49) c49
 have c51 := ctx_cons (left_ok _ c50 rfl) c50
 have c52 := ctx_cons (publicK_ok _ c51 rfl) c51
 have c53 := ctx_cons (path_ok _ c52 rfl) c52
 have c54 := ctx_cons (force_ok _ c53 rfl rfl rfl rfl rfl) c53
 have c55 := ctx_cons (knows_ok _ c54 rfl) c54
 have c56 := ctx_cons (signed_ok _ c55) c55
 have c57 := ctx_cons (pnum_ok _ c56) c56
 have c58 := ctx_cons (public2_ok _ c57) c57
 have c59 := ctx_cons (leaf2_ok _ c58) c58
 have c60 := ctx_cons (inner2_ok _ c59) c59
 have c61 := ctx_cons (mesg2_ok _ c60) c60
 have c62 := ctx_cons (sitep_ok _ c61) c61
 have c63 := ctx_cons (valp_ok _ c62 rfl rfl rfl) c62
 exact ctx_cons (text_ok _ c63 rfl) c63
noncomputable def R0 : List (Nat × AFun) := [(21, afun C 4 r_lms_New a_lms_New), (22, afun C 3 r_lms_Signer_Sign a_lms_Signer_Sign), (56, afun C 2 r_lms_take a_lms_take)]
noncomputable def CA : Ctx := ⟨G0, fnTab T0, afTab R0, fun _ => none⟩
theorem ctxA : CtxOK CA P := by
 have z : CtxOK ⟨G0, fnTab T0, afTab [], fun _ => none⟩ P := ⟨ctx.1, (ctx_nilr (G := G0) (P := P)).2.1, ctx.2.2⟩
 have z0 := ctx_consr (m_lms_take C ctx) z
 have z1 := ctx_consr (m_lms_Signer_Sign C ctx) z0
 exact ctx_consr (m_lms_New C ctx) z1
theorem lmC : LmC C := ⟨rfl, rfl, rfl, rfl, rfl, rfl, rfl⟩
theorem lmS : LmS C := ⟨rfl, rfl, rfl, rfl, rfl⟩
noncomputable def T1 : List (Nat × Fn) := (14, fVerify) :: (38, fRoot) :: (30, fParts) :: T0
theorem ctxB : CtxOK ⟨G0, fnTab T1, afTab R0, fun _ => none⟩ P := by
 have c1 := ctx_cons (parts_ok CA C ctxA rfl rfl rfl rfl rfl rfl) ctxA
 have c2 := ctx_cons (root_ok _ c1 rfl rfl rfl rfl rfl rfl) c1
 exact ctx_cons (verify_ok _ c2 rfl rfl) c2
noncomputable def Q0 : List (Nat × QFun) := [(61, twoQ)]
noncomputable def CQ : Ctx := ⟨G0, fnTab T1, afTab R0, qTab Q0⟩
theorem ctxQ : CtxOK CQ P := by
 have z : CtxOK ⟨G0, fnTab T1, afTab R0, qTab []⟩ P := ⟨ctxB.1, ctxB.2.1, by intro f F h; cases h⟩
 exact ctx_consq (two2_ok C ctx (fun _ => rfl) rfl) z
theorem chC : ChC CQ := ⟨rfl, rfl, rfl, rfl, rfl, rfl, rfl⟩
theorem clC : ClC CQ := ⟨rfl, rfl, rfl, rfl, rfl, rfl, rfl, rfl, rfl, rfl⟩
theorem ofC : OfC CQ := ⟨rfl, rfl⟩
noncomputable def R1 : List (Nat × AFun) := (66, afun CQ 4 r_proof_signer_chain a_proof_signer_chain) :: (34, afun CQ 5 r_proof_signer_climb a_proof_signer_climb) :: (67, afun CQ 2 r_lms_Signer_Last a_lms_Signer_Last) :: (29, afun CQ 2 r_proof_of a_proof_of) :: R0
noncomputable def CO : Ctx := ⟨G0, fnTab T1, afTab R1, qTab Q0⟩
theorem ctxO : CtxOK CO P := by
 have z0 := ctx_consr (m_proof_of CQ ctxQ) ctxQ
 have z1 := ctx_consr (m_lms_Signer_Last CQ ctxQ) z0
 have z2 := ctx_consr (m_proof_signer_climb CQ ctxQ) z1
 exact ctx_consr (m_proof_signer_chain CQ ctxQ) z2
theorem onC : OnC CO CQ CQ := ⟨rfl, rfl, rfl, rfl, rfl, rfl, rfl, rfl, rfl, rfl, rfl, rfl, rfl, rfl, rfl, rfl, chC, rfl, rfl⟩
noncomputable def R2 : List (Nat × AFun) := (35, afun CO 4 r_proof_signer_once a_proof_signer_once) :: R1
noncomputable def CE : Ctx := ⟨G0, fnTab T1, afTab R2, qTab Q0⟩
theorem ctxE : CtxOK CE P := ctx_consr (m_proof_signer_once CO ctxO) ctxO
theorem exC : ExC CE CQ CQ CO CQ CQ := ⟨rfl, rfl, ofC, rfl, rfl, rfl, rfl, rfl, rfl, rfl, rfl, clC, rfl, rfl, onC⟩
theorem layC : LayC CE C C := ⟨rfl, rfl, lmC, rfl, rfl, lmS, rfl, rfl⟩
theorem vaC : VaC CE CQ := ⟨rfl, rfl, rfl, ofC, rfl, rfl⟩
noncomputable def T3 : List (Nat × Fn) := (13, fRight7) :: (16, fVal7) :: T1
noncomputable def R4 : List (Nat × AFun) := (11, afun CE 4 r_proof_Extract a_proof_Extract) :: (8, afun CE 3 r_law07_lay a_law07_lay) :: R2
noncomputable def CW : Ctx := ⟨G0, fnTab T3, afTab R4, qTab Q0⟩
theorem ctxW : CtxOK CW P := by
 have c1 := ctx_cons (val7_ok CE CQ ctxE vaC) ctxE
 have c2 := ctx_cons (right7_ok _ c1 rfl rfl rfl rfl) c1
 have c3 := ctx_consr (m_law07_lay CE ctxE) c2
 exact ctx_consr (m_proof_Extract CE ctxE) c3
theorem lawW : LawC CW C C CQ CQ CO CQ CQ CE := ⟨rfl, rfl, layC, rfl, rfl, exC, rfl, rfl⟩
noncomputable def CL : Ctx := ⟨G0, fnTab ((7, fAwakeP) :: T3), afTab R4, qTab Q0⟩
theorem ctxL : CtxOK CL P := ctx_cons (awakep_ok CW C C CQ CQ CO CQ CQ CE ctxW lawW) ctxW
theorem lawL : LawC CL C C CQ CQ CO CQ CQ CE := ⟨rfl, rfl, layC, rfl, rfl, exC, rfl, rfl⟩
theorem CL_types : CL.glob 0 = some (D.agg (.ar typesZ.length SPar) (typesZ.map triD)) := rfl
theorem CL_first : CL.glob 1 = some (numsD .u32 firstZ) := rfl
theorem CL_rounds : CL.glob 2 = some (numsD .u32 roundsZ) := rfl
theorem CL_glob_none (g : Nat) (h : ¬ g = 0) (h0 : ¬ g = 1) (h1 : ¬ g = 2) : CL.glob g = none := G0_none g h h0 h1
end Job
end Go.Am
namespace Go.Am
set_option linter.unusedSimpArgs false
set_option linter.unusedVariables false
attribute [local congr] bnd_congr kCond_congr kGd_congr kPick_congr kCall_congr kIdx_congr kSlice_congr kLoop_congr cond_congr' aBin_congr aBounds_congr aApp_congr aCopy_congr kFn_congr
namespace Job
open Go.Am.F
set_option maxRecDepth 10000
theorem lst_ix (ms : List D) (ex : Bool) (i : Nat) (h : i < ms.length) (rows : Rows) (k : D → Rows → Prop) : kIdx .ref (i : Int) rows k (.lst .ref ms ex) = k (.cptr ms[i]) rows := by
 have h1 : (0 : Int) ≤ (i : Int) := by omega
 have h2 : (i : Int) < (ms.length : Int) := by omega
 simp only [kIdx, Int.toNat_natCast, List.getElem?_eq_getElem h, bnd, h1, h2, true_and]
theorem valO_len (V : SgV) (x : List (BitVec 8)) (p : Plc) : (valO V x p).length = 32 := by
 unfold valO
 cases thereQ V p with
 | true => exact chS_len _ _ _ _ _ _ (stepS_len _ _ _ _ _)
 | false => rfl
structure ValC (C : Ctx) : Prop where
 aw : C.fn 7 = some fAwakeP
 cut : C.fn 9 = some fCut
 val : C.fn 16 = some fVal7
 rig : C.fn 13 = some fRight7
 sam : C.fn 17 = some fSame
 sum : C.fn 18 = some fRSum
 stp : C.fn 19 = some fRStep
 kno : C.fn 20 = some fKnows
set_option maxHeartbeats 8000000 in
theorem values_law (C CT CS CF CC CO CH CL CY : Ctx) (H : LawC C CT CS CF CC CO CH CL CY) (HV : ValC C)
  (t : BitVec 8) (seed a0 w0 : List (BitVec 8)) (ms : List D) (p : Plc) (hsd : seed.length = 32) (ha : a0.length ≤ 9223372036854775807) (hb : w0.length ≤ 9223372036854775807) (hml : ms.length ≤ 9223372036854775807) (hms : ∀ d ∈ ms, ∃ b : List (BitVec 8), IsBs d b ∧ b.length ≤ 9223372036854775807) :
  afun C 6 r_law07_ProofValues a_law07_ProofValues [.raw (u8 t), .agg (.ar 32 L8) (bs seed), .lst .ref ms false, plcD p, .lst L8 (bs a0) false, .lst L8 (bs w0) false] [] (fun d rows => d = .raw (.bool true)) := by
 refine afun_mk rfl ?_
 unfold a_law07_ProofValues r_law07_ProofValues
 have kca := fun rows k => kCut rows k (.lst L8 (bs a0) false) a0 60 (.inr ⟨false, rfl⟩) ha (by rw [List.length_take]; omega)
 have ha60 : (a0.take (60 : Int).toNat).length ≤ 60 := by rw [List.length_take]; exact Nat.min_le_left _ _
 have kcw := fun rows k => kCut rows k (.lst L8 (bs w0) false) w0 60 (.inr ⟨false, rfl⟩) hb (by rw [List.length_take]; omega)
 have hw60 : (w0.take (60 : Int).toNat).length ≤ 60 := by rw [List.length_take]; exact Nat.min_le_left _ _
 generalize a0.take (60 : Int).toNat = a at kca ha60
 generalize w0.take (60 : Int).toNat = w at kcw hw60
 obtain ⟨pq, pi, pj⟩ := p
 simp only [z32_eq, plcD]
 simp only [↓amD, amU, simprocAttr, zipEnv, amR, HV.aw, kAwakeP, Bool.not_true, H.ly0, H.ly1]
 refine lay7_run CY CT CS H.lyC (t := t) (seed := seed) hsd (ms := ms) (dms := .lst .ref ms false) rfl (fun i h => lst_ix ms false i h) hml hms ?_
 intro R1 r L S ml hY _ hK
 have hP := hY.ps
 have hS := hY.sgn
 have hsdS := hY.sd
 have hoS : S.o = layO t := hY.o
 have r0 := hK 0 _ rfl
 have r1 := hK 1 _ rfl
 have A0 := fun L' => live_app r0 L'
 have A1 := fun L' => live_app r1 L'
 have hok := hP.w.ok
 have hlv := hP.lv
 have hsoT : okSO (some (S.v L)) = true := by simp only [okSO, hok, hP.okO, Bool.and_self]
 have hvo : (S.v L).o = S.o := rfl
 rw [← hoS]
 clear hK
 subst hsdS
 have kV := fun k => kVal7 (rows := R1) hS.rd.so hsoT k S.seed hP.w.sd ⟨pq, pi, pj⟩
 have hvl := valO_len (S.v L) S.seed ⟨pq, pi, pj⟩
 unfold outV d32D plcD at kV
 simp only [↓amD, amU, simprocAttr, zipEnv, amR, r0, A0, r1, A1, HV.val, kV]
 have ht : thereQ (S.v L) ⟨pq, pi, pj⟩ = true ↔ pq < 2#32 ∧ 0 ≤ pi ∧ pi < (pT S.o.toNat : Int) ∧ 0 ≤ pj ∧ pj < ((2 ^ wT S.o.toNat : Nat) : Int) := by
  unfold thereQ
  rw [hlv, Bool.and_eq_true, Bool.and_eq_true, inI_eq, inI_eq, decide_eq_true_eq, BitVec.lt_def, hvo]
  simp only
  constructor
  ·rintro ⟨h1, ⟨h2, h3⟩, h4, h5⟩; exact ⟨h1, h2, h3, h4, h5⟩
  ·rintro ⟨h1, h2, h3, h4, h5⟩; exact ⟨h1, ⟨h2, h3⟩, h4, h5⟩
 have hv0 : thereQ (S.v L) ⟨pq, pi, pj⟩ = false → valO (S.v L) S.seed ⟨pq, pi, pj⟩ = z32 := fun h => by unfold valO; rw [h]; rfl
 have hv1 : thereQ (S.v L) ⟨pq, pi, pj⟩ = true → valO (S.v L) S.seed ⟨pq, pi, pj⟩ = valP S.id S.seed ⟨pq, pi, pj⟩ := fun h => by unfold valO; rw [h]; rfl
 have hrU : ∀ y, rightV (some (S.v L)) S.seed ⟨2, [], [], ⟨pq, pi, pj⟩, y⟩ = (thereQ (S.v L) ⟨pq, pi, pj⟩ && (decide (valO (S.v L) S.seed ⟨pq, pi, pj⟩ = y) && !knB (S.v L) ⟨pq, pi, pj⟩)) := fun y => rfl
 have hr0 : rightV (some (S.v L)) S.seed ⟨0, [], [], ⟨0#32, 0, 0⟩, z32⟩ = false := rfl
 have hr1 : rightV (some (S.v L)) S.seed ⟨1, a, w, ⟨0#32, 0, 0⟩, z32⟩ = (!decide (a = w) && decide (sumS a = sumS w)) := rfl
 generalize hvv : valO (S.v L) S.seed ⟨pq, pi, pj⟩ = v at *
 generalize htt : thereQ (S.v L) ⟨pq, pi, pj⟩ = tt at *
 have gv : (bs v)[3]? = some (.raw (u8 (v.getD 3 0#8))) := bs_get (by omega)
 have gvs := bs_set v 3 (v.getD 3 0#8 ^^^ 1#8)
 have hps0 : plcD ⟨0#32, 0, 0⟩ = .agg SPlc [.raw (u32 0#32), .raw (it 0), .raw (it 0)] := rfl
 have f1 : ∀ (rows : Rows) (x y : Nat), live rows x = some ⟨L8, bs a⟩ → live rows y = some ⟨L8, bs w⟩ → FdIn rows (.agg SFd [.raw (it 1), .sl L8 x [] 0 a.length false, .sl L8 y [] 0 w.length false, .agg SPlc [.raw (u32 0#32), .raw (it 0), .raw (it 0)], .agg (.ar 32 L8) (bs z32)]) 1 a w ⟨0#32, 0, 0⟩ z32 := fun rows x y hx hy => ⟨⟨_, _, rfl, .inr ⟨_, _, rfl, hx⟩, .inr ⟨_, _, rfl, hy⟩⟩, rfl, by omega, by omega⟩
 have f0 : ∀ (rows : Rows), FdIn rows (.agg SFd [.raw (it 0), .raw (.slice none 0 0), .raw (.slice none 0 0), .agg SPlc [.raw (u32 0#32), .raw (it 0), .raw (it 0)], .agg (.ar 32 L8) (bs z32)]) 0 [] [] ⟨0#32, 0, 0⟩ z32 := fun rows => ⟨⟨_, _, rfl, .inl ⟨rfl, rfl⟩, .inl ⟨rfl, rfl⟩⟩, rfl, by simp, by simp⟩
 have f2 : ∀ (rows : Rows) (y : List (BitVec 8)), y.length = 32 → FdIn rows (.agg SFd [.raw (it 2), .raw (.slice none 0 0), .raw (.slice none 0 0), .agg SPlc [.raw (u32 pq), .raw (it pi), .raw (it pj)], .agg (.ar 32 L8) (bs y)]) 2 [] [] ⟨pq, pi, pj⟩ y := fun rows y hy => ⟨⟨_, _, rfl, .inl ⟨rfl, rfl⟩, .inl ⟨rfl, rfl⟩⟩, hy, by simp, by simp⟩
 have kR0 := fun L' k' => kRightS (rows := R1 ++ L') (hS.push L') hP (f0 _) k'
 have kR2 := fun y hy L' k' => kRightS (rows := R1 ++ L') (hS.push L') hP (f2 _ y hy) k'
 rw [hr0] at kR0
 simp only [hrU] at kR2
 have b3 : ((0 : Int) ≤ 3) = True := eq_true (by decide)
 have b32 : ((3 : Int) < 32) = True := eq_true (by decide)
 have hc : (tt = true ∧ (pq < 2#32) = True ∧ (0 ≤ pi) = True ∧ (pi < (pT S.o.toNat : Int)) = True ∧ (0 ≤ pj) = True ∧ (pj < ((2 ^ wT S.o.toNat : Nat) : Int)) = True) ∨ (tt = false ∧ (((pq < 2#32) = False) ∨ ((pq < 2#32) = True ∧ (0 ≤ pi) = False) ∨ ((pq < 2#32) = True ∧ (0 ≤ pi) = True ∧ (pi < (pT S.o.toNat : Int)) = False) ∨ ((pq < 2#32) = True ∧ (0 ≤ pi) = True ∧ (pi < (pT S.o.toNat : Int)) = True ∧ (0 ≤ pj) = False) ∨ ((pq < 2#32) = True ∧ (0 ≤ pi) = True ∧ (pi < (pT S.o.toNat : Int)) = True ∧ (0 ≤ pj) = True ∧ (pj < ((2 ^ wT S.o.toNat : Nat) : Int)) = False))) := by
  simp only [eq_iff_iff, iff_true, iff_false]
  cases tt with
  | true => exact .inl ⟨rfl, ht.1 rfl⟩
  | false =>
   refine .inr ⟨rfl, ?_⟩
   have hn : ¬ _ := fun h => Bool.noConfusion (ht.2 h)
   by_cases c1 : pq < 2#32
   ·by_cases c2 : 0 ≤ pi
    ·by_cases c3 : pi < (pT S.o.toNat : Int)
     ·by_cases c4 : 0 ≤ pj
      ·exact .inr (.inr (.inr (.inr ⟨c1, c2, c3, c4, fun c5 => hn ⟨c1, c2, c3, c4, c5⟩⟩)))
      ·exact .inr (.inr (.inr (.inl ⟨c1, c2, c3, c4⟩)))
     ·exact .inr (.inr (.inl ⟨c1, c2, c3⟩))
    ·exact .inr (.inl ⟨c1, c2⟩)
   ·exact .inl c1
 have eqS := eqA_d32 (sumS a) (sumS w) (sumS_len _) (sumS_len _)
 have eqS' : eqL (bs (sumS a)) (bs (sumS w)) = some (decide (sumS a = sumS w)) := eqS
 have ez : tt = false → eqL (bs v) (bs z32) = some true := fun h => by
  rw [hv0 h]
  exact (eqA_d32 z32 z32 rfl rfl).trans (by rw [decide_eq_true rfl])
 rcases hc with ⟨htt', h⟩ | ⟨htt', h | h | h | h | h⟩
 rotate_left
 all_goals
  simp only [↓amD, amU, simprocAttr, zipEnv, amR, h, htt', r0, A0, r1, A1, decide_true, decide_false, beq_self_eq_true, Bool.not_true, HV.cut, kca, kcw, HV.rig]
  refine Eq.mpr (kRightS (hS.push _) hP (f1 _ _ _ (by rw [lv_appk]; rfl) (by rw [lv_appk]; rfl)) _) ?_
  rw [hr1]
  simp only [↓amD, amU, simprocAttr, zipEnv, amR, HV.sam]
  refine Eq.mpr (kSame _ _ _ _ a w (BsIn.own (by rw [lv_appk]; rfl) _ rfl) (BsIn.own (by rw [lv_appk]; rfl) _ rfl) (by omega) (by omega)) ?_
  by_cases cw : a = w
  rw [decide_eq_true cw]
  simp only [↓amD, amU, simprocAttr, zipEnv, amR, htt', Bool.not_true, Bool.not_false, Bool.true_and, Bool.false_and, beq_self_eq_true, r0, A0, r1, A1, HV.rig, kR0, kR2 v hvl, gv, gvs, b3, b32, ez]
  rotate_left
  rw [decide_eq_false cw]
  simp only [↓amD, amU, simprocAttr, zipEnv, amR, Bool.not_false, Bool.true_and, HV.sum]
  refine Eq.mpr (kRSum _ _ _ a (BsIn.own (by rw [lv_appk]; rfl) _ rfl) (by omega)) ?_
  simp only [↓amD, amU, simprocAttr, zipEnv, amR, HV.sum]
  refine Eq.mpr (kRSum _ _ _ w (BsIn.own (by rw [lv_appk]; rfl) _ rfl) (by omega)) ?_
  simp only [↓amD, amU, simprocAttr, zipEnv, amR, eqS', htt', Bool.not_true, Bool.not_false, Bool.true_and, Bool.false_and, beq_self_eq_true, r0, A0, r1, A1, HV.rig, kR0, kR2 v hvl, gv, gvs, b3, b32, ez]
 all_goals
  obtain ⟨h1, h2, h3, h4, h5⟩ := h
  have h2' := of_eq_true h2
  have h4' := of_eq_true h4
  have h3' := of_eq_true h3
  have h5' := of_eq_true h5
  clear h1 h2 h3 h4 h5 kca kcw ht
  obtain ⟨I, rfl⟩ := Int.eq_ofNat_of_zero_le h2'
  obtain ⟨J, rfl⟩ := Int.eq_ofNat_of_zero_le h4'
  have hpt : pT S.o.toNat ≤ 265 := (parT_ok hP.okO).2.2.1
  have hpw : 2 ^ wT S.o.toNat ≤ 256 := pow_le (parT_ok hP.okO).1
  have hI : I < 65536 := by omega
  have hJ : J < 256 := by omega
  have hsdl : S.seed.length = 32 := hP.w.sd
  have kRS : ∀ (j : Nat) (x : List (BitVec 8)) (rows : Rows) (k : D → Rows → Prop), j < 256 → x.length = 32 → kCall fRStep rows k [.agg (.ar 16 L8) (.raw (u8 8#8) :: List.replicate 15 (.raw (u8 0#8))), .raw (u32 pq), .raw (it (I : Int)), .raw (it (j : Int)), .agg (.ar 32 L8) (bs x)] = k (.agg (.ar 32 L8) (bs (stepS id8 pq I j x))) rows := fun j x rows k hj hx => kRStep rows k id8 pq I j x rfl hI hj hx
  have kR5 : ∀ (rows : Rows) (k : D → Rows → Prop), kCall fRStep rows k [.agg (.ar 16 L8) (.raw (u8 8#8) :: List.replicate 15 (.raw (u8 0#8))), .raw (u32 pq), .raw (it (I : Int)), .raw (it 255), .agg (.ar 32 L8) (bs S.seed)] = k (.agg (.ar 32 L8) (bs (secS id8 pq I S.seed))) rows := fun rows k => kRStep rows k id8 pq I 255 S.seed rfl hI (by decide) hsdl
  simp only [List.replicate_succ, List.replicate_zero] at kRS kR5
  have hvE : v = chS id8 pq I J 0 (secS id8 pq I S.seed) := by
   have := hv1 htt'
   rw [hY.id] at this
   simpa [valP] using this
  have hxl : ∀ j, (chS id8 pq I j 0 (secS id8 pq I S.seed)).length = 32 := fun j => chS_len _ _ _ _ _ _ (stepS_len _ _ _ _ _)
  have hsn : ∀ j, chS id8 pq I (j + 1) 0 (secS id8 pq I S.seed) = stepS id8 pq I j (chS id8 pq I j 0 (secS id8 pq I S.seed)) := fun j => by
   rw [chS_add, Nat.zero_add]; rfl
  have x0 : secS id8 pq I S.seed = chS id8 pq I 0 0 (secS id8 pq I S.seed) := rfl
  simp only [↓amD, amU, simprocAttr, zipEnv, amR, r0, A0, r1, A1, HV.stp, kR5]
  refine kLoop_up J (fun j env rs => has env [(22, .raw (it (j : Int))), (21, .ptr (.ar 32 L8) (R1.length + 5) [0]), (9, .ptr SPlc 1 [0]), (16, .ptr (.ar 32 L8) R1.length [0]), (13, .ptr SSig L.r [0]), (7, .ptr (.ar 32 L8) 0 [0]), (19, .ptr SFd (R1.length + 3) [0]), (20, .ptr SFd (R1.length + 4) [0])] ∧
   rs = R1 ++ [some ⟨.ar 32 L8, [.agg (.ar 32 L8) (bs v)]⟩, some ⟨L8, bs a⟩, some ⟨L8, bs w⟩, some ⟨SFd, [.agg SFd [.raw (it 2), .raw (.slice none 0 0), .raw (.slice none 0 0), .agg SPlc [.raw (u32 pq), .raw (it (I : Int)), .raw (it (J : Int))], .agg (.ar 32 L8) (bs v)]]⟩,
    some ⟨SFd, [.agg SFd [.raw (it 2), .raw (.slice none 0 0), .raw (.slice none 0 0), .agg SPlc [.raw (u32 pq), .raw (it (I : Int)), .raw (it (J : Int))], .agg (.ar 32 L8) (bs (v.set 3 (v.getD 3 0#8 ^^^ 1#8)))]]⟩, some ⟨.ar 32 L8, [.agg (.ar 32 L8) (bs (chS id8 pq I j 0 (secS id8 pq I S.seed)))]⟩]) ?_ ?_ ⟨?_, rfl⟩
  ·rintro j hj env rs ⟨hh, rfl⟩ R hR
   simp only [has] at hh
   have g0 : ((j : Int) < (J : Int)) = True := eq_true (by omega)
   have g1 := wz_succ j (by omega)
   have kRj := fun rows k => kRS j (chS id8 pq I j 0 (secS id8 pq I S.seed)) rows k (by omega) (hxl j)
   rw [← hsn j] at kRj
   simp only [↓amD, amU, simprocAttr, zipEnv, amR, hh, g0, g1, r0, A0, r1, A1, HV.stp, kRj]
   exact hR _ _ ⟨by simp only [has, ↓amD, amU, simprocAttr, zipEnv, hh], rfl⟩
  ·rintro env rs ⟨hh, rfl⟩ R
   simp only [has] at hh
   have g0 : ((J : Int) < (J : Int)) = False := eq_false (by omega)
   rw [← hvE]
   have ev : eqL (bs v) (bs v) = some true := (eqA_d32 v v hvl hvl).trans (by rw [decide_eq_true rfl])
   have hxr : ∀ x : BitVec 8, x ≠ x ^^^ 1#8 := fun x h => by
    have := congrArg (fun y => y.getLsbD 0) h
    simp at this
   have hne : (v = v.set 3 (v.getD 3 0#8 ^^^ 1#8)) = False := eq_false fun h => by
    have := congrArg (fun l => l.getD 3 0#8) h
    simp only [List.getD, List.getElem?_set_self (show 3 < v.length by omega), Option.getD_some] at this
    exact hxr _ this
   have hsl : (v.set 3 (v.getD 3 0#8 ^^^ 1#8)).length = 32 := by rw [List.length_set]; exact hvl
   have kKn := fun L' k' => kKnowsV (R1 ++ L') k' (.ptr SSig L.r [0]) (S.v L) ⟨pq, (I : Int), (J : Int)⟩ (hS.push L').rd hok hP.okO (hP.tmS _)
   have kR3 := kR2 _ hsl
   have kR4 := kR2 _ hvl
   simp only [htt', hne, decide_false, Bool.false_and, Bool.and_false] at kR3
   simp only [htt', decide_true, Bool.true_and] at kR4
   simp only [↓amD, amU, simprocAttr, zipEnv, amR, hh, g0, r0, A0, r1, A1, ev, HV.rig, kR4, HV.kno, kKn, beq_self_eq_true, kR3, Bool.not_false]
  ·simp only [has, ↓amD, amU, simprocAttr, zipEnv]
end Job
end Go.Am
namespace Go.Proofs.YtpepmhbdblldeaaDoor.values
open Go.Am Go.Am.Job Go.Am.F
open Go.ChangeShapes Go.WideShapes Go.ChangeAt Go.RowKit
set_option linter.unusedVariables false
set_option linter.unusedSimpArgs false
def K : TKs := .cons (.int .u8) (.cons (.arr 32 (.int .u8)) (.cons (.slice (.slice (.int .u8))) (.cons (.struct (.cons (.int .u32) (.cons (.int .i64) (.cons (.int .i64) .nil)))) (.cons (.slice (.int .u8)) (.cons (.slice (.int .u8)) .nil)))))
noncomputable def triT : TypeId := (Tryd.prog.globals[0]?.map (·.type)).getD 0
noncomputable def triE : TypeId := match Tryd.prog.underlying triT with | some (.array _ e) => e | _ => 0
noncomputable def triF : Array Field := match Tryd.prog.underlying triE with | some (.struct fs) => fs | _ => #[]
theorem dk_plc (d : D) (h : DK (.struct (.cons (.int .u32) (.cons (.int .i64) (.cons (.int .i64) .nil)))) d) : ∃ p : Plc, d = plcD p := by
 simp only [DK] at h
 obtain ⟨ds, rfl, h0⟩ := h
 rcases ds with _ | ⟨e0, _ | ⟨e1, _ | ⟨e2, _ | ⟨e3, l⟩⟩⟩⟩
 ·exact h0.elim
 ·exact h0.2.elim
 ·exact h0.2.2.elim
 ·obtain ⟨h1, h2, h3, -⟩ := h0
  unfold DK at h1 h2 h3
  obtain ⟨q, rfl⟩ := h1
  obtain ⟨a, -, rfl⟩ := h2
  obtain ⟨b, -, rfl⟩ := h3
  exact ⟨⟨q, a, b⟩, rfl⟩
 ·exact h0.2.2.2.elim
theorem own : ownKnob Tryd.prog.godebug = none := by kernel_rfl
theorem laid : laidOutB Tryd.prog = true := by kernel_rfl
theorem law (dd : List D) (h : DNs K dd) : afun CL 6 r_law07_ProofValues a_law07_ProofValues dd [] (fun d _ => d = .raw (.bool true)) := by
 rcases dd with _ | ⟨d0, _ | ⟨d1, _ | ⟨d2, _ | ⟨d3, _ | ⟨d4, _ | ⟨d5, _ | ⟨d6, l⟩⟩⟩⟩⟩⟩⟩
 ·exact h.elim
 ·exact h.2.elim
 ·exact h.2.2.elim
 ·exact h.2.2.2.elim
 ·exact h.2.2.2.2.elim
 ·exact h.2.2.2.2.2.elim
 ·obtain ⟨h1, h2, h3, h4, h5, h6, -⟩ := h
  unfold DN DK at h1
  obtain ⟨t, rfl⟩ := h1
  obtain ⟨seed, rfl, hsd⟩ := dk_arr8 h2
  obtain ⟨ms, rfl, hml, hms⟩ := h3
  have hms' : ∀ d ∈ ms, ∃ b : List (BitVec 8), IsBs d b ∧ b.length ≤ 9223372036854775807 := fun d hd => by
   obtain ⟨b, q1, -, q2⟩ := dk_bs (hms d hd)
   unfold maxLen at q2
   exact ⟨b, q1, by omega⟩
  obtain ⟨p, rfl⟩ := dk_plc _ h4
  obtain ⟨a, rfl, ha, -⟩ := dn_bs h5
  obtain ⟨w, rfl, hw, -⟩ := dn_bs h6
  unfold maxLen at ha hml hw
  exact values_law CL C C CQ CQ CO CQ CQ CE lawL ⟨rfl, rfl, rfl, rfl, rfl, rfl, rfl, rfl⟩ t seed a w ms p hsd (by omega) (by omega) (by omega) hms'
 ·exact h.2.2.2.2.2.2.elim
theorem globs {W : World} (hL : laidMetH Tryd.prog Rows.proofValuesRow.laid W) (g : Nat) (d : D) (h : CL.glob g = some d) : LR noPl W (old W) (.cptr d) (.pointer (some ⟨g, 0, none⟩)) := by
 have hL' : laidMet Tryd.prog Rows.proofValuesRow.laid W := hL
 by_cases h0 : g = 1
 ·subst h0
  have e : numsD .u32 firstZ = d := Option.some.inj ((CL_first : CL.glob 1 = some (numsD .u32 firstZ)).symm.trans h)
  subst e
  exact laid_glob (P := Tryd.prog) (t := (Tryd.prog.globals[1]?.map (·.type)).getD 0) (e := match Tryd.prog.underlying ((Tryd.prog.globals[1]?.map (·.type)).getD 0) with | some (.array _ e) => e | _ => 0) (n := firstZ.length) (name := (Rows.proofValuesRow.laid.getD 0 ("", .nil)).1) hL' (List.mem_of_getElem? (i := 0) rfl) (by kernel_rfl) (by kernel_rfl) (by kernel_rfl) (by kernel_rfl) (by kernel_rfl) (by kernel_rfl) (by decide)
 by_cases h1 : g = 2
 ·subst h1
  have e : numsD .u32 roundsZ = d := Option.some.inj ((CL_rounds : CL.glob 2 = some (numsD .u32 roundsZ)).symm.trans h)
  subst e
  exact laid_glob (P := Tryd.prog) (t := (Tryd.prog.globals[2]?.map (·.type)).getD 0) (e := match Tryd.prog.underlying ((Tryd.prog.globals[2]?.map (·.type)).getD 0) with | some (.array _ e) => e | _ => 0) (n := roundsZ.length) (name := (Rows.proofValuesRow.laid.getD 1 ("", .nil)).1) hL' (List.mem_of_getElem? (i := 1) rfl) (by kernel_rfl) (by kernel_rfl) (by kernel_rfl) (by kernel_rfl) (by kernel_rfl) (by kernel_rfl) (by decide)
 by_cases h2 : g = 0
 ·subst h2
  have e : D.agg (.ar typesZ.length SPar) (typesZ.map triD) = d := Option.some.inj ((CL_types : CL.glob 0 = some (D.agg (.ar typesZ.length SPar) (typesZ.map triD))).symm.trans h)
  subst e
  exact laid_triG (P := Tryd.prog) (t := triT) (e := triE) (n := typesZ.length) (fs := triF) (f0 := triF.toList.getD 0 default) (f1 := triF.toList.getD 1 default) (f2 := triF.toList.getD 2 default) (zs := typesZ) (name := (Rows.proofValuesRow.laid.getD 2 ("", .nil)).1) hL' (List.mem_of_getElem? (i := 2) rfl) (by kernel_rfl) (by kernel_rfl) (by kernel_rfl) (by kernel_rfl) (by kernel_rfl) (by kernel_rfl) (by kernel_rfl) (by kernel_rfl) (by kernel_rfl) (by kernel_rfl) (by kernel_rfl) (by kernel_rfl) (by kernel_rfl) (by kernel_rfl) (by kernel_rfl) (by kernel_rfl) (by decide)
 ·exact absurd h (by rw [CL_glob_none g h2 h0 h1]; exact nofun)
def lay0 : Obj → Obj
 | .cells _ t frozen => .cells (firstZ.map fun z => Value.int .u32 z).toArray t frozen
 | o => o
def lay1 : Obj → Obj
 | .cells _ t frozen => .cells (roundsZ.map fun z => Value.int .u32 z).toArray t frozen
 | o => o
def lay2 : Obj → Obj
 | .cells _ t frozen => .cells (typesZ.flatMap fun z => [Value.int .i64 z.1, Value.int .i64 z.2.1, Value.int .i64 z.2.2]).toArray t frozen
 | o => o
noncomputable def laidWorld (os : Os) : World := { World.holding Tryd.prog os ⟨#[], #[], []⟩ with heap := ((((World.holding Tryd.prog os ⟨#[], #[], []⟩).heap.modify 1 lay0).modify 2 lay1).modify 0 lay2) }
theorem laid_met (os : Os) : laidMet Tryd.prog Rows.proofValuesRow.laid ((laidWorld os).forCall (fun _ _ => 0) ⟨#[], #[.int .u8 0, .agg (Array.replicate 32 (Value.int .u8 0)), .slice none 0 0, .agg #[.int .u32 0, .int .i64 0, .int .i64 0], .slice none 0 0, .slice none 0 0], []⟩).memory :=
 laidMet_of_run' 8 (by kernel_rfl) (by kernel_rfl)
theorem reads (os : Os) {H : Type} (enc : TypeId × Value → H) : ∃ places, DataW.whole enc Tryd.prog ((laidWorld os).forCall (fun _ _ => 0) ⟨#[], #[.int .u8 0, .agg (Array.replicate 32 (Value.int .u8 0)), .slice none 0 0, .agg #[.int .u32 0, .int .i64 0, .int .i64 0], .slice none 0 0, .slice none 0 0], []⟩).memory Tryd.f5.params.toList Rows.proofValuesSpec.vars false #[.int .u8 0, .agg (Array.replicate 32 (Value.int .u8 0)), .slice none 0 0, .agg #[.int .u32 0, .int .i64 0, .int .i64 0], .slice none 0 0, .slice none 0 0].toList 8 = some ([.lit (.int .u8 0), .agg (List.replicate 32 (.lit (.int .u8 0))), .nil, .agg [.lit (.int .u32 0), .lit (.int .i64 0), .lit (.int .i64 0)], .nil, .nil], [], places) :=
 ⟨[], by kernel_rfl⟩
set_option maxRecDepth 100000 in
theorem lifted (os : Os) (started : os.Started) (H : Type) (enc : TypeId × Value → H) (F : Stop.Interp) :
  ReturnsInHanded {} Tryd.checked os 5 .any ((OpenSpec.ofChange Rows.proofValuesSpec).preRow enc Tryd.prog Tryd.f5 Rows.proofValuesRow.domain false Rows.proofValuesRow.laid) (((OpenSpec.ofChange Rows.proofValuesSpec).at F).post enc Tryd.prog Tryd.f5 false true false false) := by
 obtain ⟨places, hx⟩ := reads os enc
 refine returnsInHanded_of_row (C := Tryd.checked) (s := (OpenSpec.ofChange Rows.proofValuesSpec)) own started (by kernel_rfl) Tryd.func5
  (witness_row_at (enc := enc) (C := Tryd.checked) false (laidWorld os) #[.int .u8 0, .agg (Array.replicate 32 (Value.int .u8 0)), .slice none 0 0, .agg #[.int .u32 0, .int .i64 0, .int .i64 0], .slice none 0 0, .slice none 0 0] rfl (by kernel_rfl) (by kernel_rfl) (by kernel_rfl)
   (OpenSpec.preRow_of_cond 8 hx (by kernel_rfl) (fun k hk => by cases hk) (by kernel_rfl) (laid_met os))) ?_
 intro W base args ds gs before hval hW _ _ _ hL _ _
 exact row_law (m_law07_ProofValues CL ctxL) laid (n := 9) (ks := K) (tb := Tryd.f5.resultTypes.getD 0 0) (by kernel_rfl) (by kernel_rfl) rfl (by kernel_rfl) (by kernel_rfl) (fun ds h => by match ds, h with | [_, _, _, _, _, _], _ => rfl) (fun dd h _ => law dd h) hval hW (fun g d h => globs hL g d h)
theorem over : Rows.ProofValuesSaid :=
 OpenClaim.holds_of_cond 5 Tryd.f5 rfl rfl rfl rfl rfl rfl rfl ⟨rfl, rfl, rfl, rfl, rfl⟩ rfl rfl rfl rfl rfl (by kernel_rfl) Tryd.func5 (by kernel_rfl)
  (of_decide_eq_true (by kernel_rfl)) (by unfold Func.isWrapper; first | (rw [if_pos (by decide +kernel)]; kernel_rfl) | (rw [if_neg (by decide +kernel)]; exact ⟨rfl, rfl⟩))
  (fun os started H enc _ F => by rw [OpenClaim.pre_eq_preRow]; exact lifted os started H enc F)
theorem plain (f : FuncId) (fn : Func) (hf : Tryd.pinned.checked.prog.funcNamed Rows.proofValuesRow.func = some f) (hfn : Tryd.pinned.checked.prog.funcs[f]? = some fn) :
  false = Tryd.pinned.checked.prog.looks [] ∧ ∀ (j : Nat) t, fn.params[j]? = some t → Tryd.pinned.checked.prog.wantsStandIn t = false := by
 obtain rfl : f = 5 := (Option.some.inj ((show Tryd.prog.funcNamed Rows.proofValuesRow.func = some 5 by kernel_rfl).symm.trans hf)).symm
 obtain rfl : fn = Tryd.f5 := (Option.some.inj (Tryd.func5.symm.trans hfn)).symm
 refine ⟨by kernel_rfl, fun j t ht => ?_⟩
 have hall : (Tryd.f5.params.toList.all fun t => !Tryd.prog.wantsStandIn t) = true := by kernel_rfl
 have := List.all_eq_true.1 hall t (by simpa using Array.mem_of_getElem? ht)
 exact (by simpa using this : Tryd.prog.wantsStandIn t = false)
theorem proved : Rows.ProofValuesCardSaid :=
 Claim7.holds_tied_plain_at .later [] _ _ _ _ over (fun _ h => by cases h) (by kernel_rfl) (fun _ h => by cases h) proofValues_row_tie rfl ⟨rfl, rfl⟩ (by kernel_rfl) rfl plain (by kernel_rfl)
end Go.Proofs.YtpepmhbdblldeaaDoor.values
