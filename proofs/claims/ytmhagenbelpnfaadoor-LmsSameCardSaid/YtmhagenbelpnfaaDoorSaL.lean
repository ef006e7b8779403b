/- 'LmsSame' returns true for every input: a proof of the given card; its condition: the listed package variables hold what the program's text lays (tied by the card). -/
import Derived.Test.YtmhagenbelpnfaaDoorSa24
import Derived.Test.YtmhagenbelpnfaaDoorCards
import Derived.Test.YtmhagenbelpnfaaDoorTie
import Derived.WalkKit
import Derived.ProofKit
import Derived.OpenShut
import Derived.Deep.DeepHandedRow
namespace Go.Am
set_option linter.unusedSimpArgs false
set_option linter.unusedVariables false
attribute [local congr] bnd_congr kCond_congr kGd_congr kPick_congr kCall_congr kIdx_congr kSlice_congr kLoop_congr cond_congr' aBin_congr aBounds_congr aApp_congr aCopy_congr kFn_congr
namespace Job
open Go.Am.F
set_option maxRecDepth 10000
noncomputable def fAwakeL : Fn
  | [], [] => some (.raw (.bool true), [])
  | _, _ => none
theorem kAwakeL (rows : Rows) (k : D → Rows → Prop) : kCall fAwakeL rows k [] = k (.raw (.bool true)) rows := by
  refine (kCall_val rfl (r := (.raw (.bool true), [])) rfl).trans ?_
  simp [shift, shiftRows]
theorem sd1_eq : (bs z32).set 0 (.raw (u8 1#8)) = bs seed1 := rfl
theorem id9_len : id9.length = 16 := rfl
theorem sd1_len : seed1.length = 32 := rfl
theorem id9_eq : (List.replicate 16 (D.raw (u8 0#8))).set 0 (.raw (u8 9#8)) = bs id9 := rfl
theorem Sgn.els {rows : Rows} {L : At4} {s : Sg} (h : Sgn rows L s) {q : Nat} {l : List D} (hq : live rows q = some ⟨L8, l⟩) : Else rows L s q :=
  ⟨(ne_sh h.a hq (by decide)).symm, (ne_sh h.n hq (by decide)).symm, (ne_sh h.m hq (by decide)).symm, (ne_sh h.t hq (by decide)).symm, own_neA h.l hq (by decide)⟩
theorem new_whole {R : Rows} {L : At4} {t o : BitVec 32} {id seed : List (BitVec 8)} (h : Sgn R L (sgNew t o id seed (nodesL o id seed (hH t)))) (ht : okH t.toNat = true) (h10 : hT t.toNat ≤ 10) (ho : okT o.toNat = true) (hid : id.length = 16) (hsd : seed.length = 32) : Whole ((sgNew t o id seed (nodesL o id seed (hH t))).v L) :=
  ⟨ht, h10, ho, hid, hsd, rfl, Sg.ld_noref h⟩
theorem next_whole {R' : Rows} {L : At4} {s : Sg} {d : D} {c m : List (BitVec 8)} (h : Whole (s.v L)) (h' : Sgn R' (L.next d) (s.next c m)) : Whole ((s.next c m).v (L.next d)) :=
  ⟨h.t, h.t10, h.o, h.id, h.sd, h.ns, Sg.ld_noref h'⟩
set_option maxHeartbeats 400000 in
theorem awakel_ok (C CT : Ctx) (hC : CtxOK C P) (hN : LmC CT) (hSg : LmS CT) (n1 : C.fn 24 = none) (r1 : C.fnr 24 = some (afun CT 4 r_lms_New a_lms_New)) (n2 : C.fn 29 = none) (r2 : C.fnr 29 = some (afun CT 3 r_lms_Signer_Sign a_lms_Signer_Sign))
    (h1 : C.fn 30 = some fLeft) (h2 : C.fn 17 = some fPublicK) (h3 : C.fn 19 = some fVerify) : Meets C.glob P 9 (Fn.run fAwakeL) := by
  refine fn_meets (m_law06_awake C hC) fun ds rows r h => ?_
  unfold fAwakeL at h
  split at h
  · cases h
    refine ⟨rfl, afun_mk rfl ?_⟩
    unfold a_law06_awake r_law06_awake
    simp only [z32_eq]
    simp only [↓amD, amU, Nat.reduceBEq, Nat.reduceAdd, Nat.reduceSub, Nat.reduceMul, Nat.reduceMod, Nat.reducePow, Nat.reduceLT, Nat.reduceDiv, Int.reduceToNat, BitVec.reduceToNat, zipEnv, Int.reduceLE, Int.reduceLT, Int.reduceNeg, BitVec.reduceEq, Int.reduceAdd, Int.reduceSub, Int.reduceMul, Nat.reduceLeDiff, Int.reduceEq, n1, r1, id9_eq, sd1_eq]
    have e1 : okH (3758096385#32).toNat = true := by decide
    have e2 : hT (3758096385#32).toNat ≤ 10 := by decide
    have e3 : okT (3#32).toNat = true := by decide
    refine newL_run CT hN (t := 3758096385#32) (o := 3#32) (id := id9) (seed := seed1) e1 e2 e3 id9_len sd1_len ?_
    intro R1 L hS hK hr hn hm ht hd
    have hw0 := new_whole hS e1 e2 e3 id9_len sd1_len
    have hs0 : AwS ((sgNew 3758096385#32 3#32 id9 seed1 (nodesL 3#32 id9 seed1 (hH 3758096385#32))).v L) := ⟨hw0, rfl, rfl, rfl, rfl⟩
    have hx0 : (sgNew 3758096385#32 3#32 id9 seed1 (nodesL 3#32 id9 seed1 (hH 3758096385#32))).nx = 0#32 := rfl
    have hl0 : (sgNew 3758096385#32 3#32 id9 seed1 (nodesL 3#32 id9 seed1 (hH 3758096385#32))).last = [] := rfl
    generalize sgNew 3758096385#32 3#32 id9 seed1 (nodesL 3#32 id9 seed1 (hH 3758096385#32)) = S0 at *
    clear hK hr hn hm ht
    have hH2 : hH S0.t = 2 := by have := hs0.t; rw [show S0.t = 3758096385#32 from this]; rfl
    have hlv0 : lvN (S0.v L) = 2 := hw0.lv.trans hH2
    have hso : okT S0.o.toNat = true := hw0.o
    have kL := fun k' => kLeftV R1 k' _ _ hS.rd hw0.ok
    have hle : ((lvN (S0.v L) : Int) - ((S0.v L).nx.toNat : Int)) = 2 := by
      rw [hlv0, show (S0.v L).nx = 0#32 from hx0]; rfl
    rw [hle] at kL
    simp only [↓amD, amU, Nat.reduceBEq, Nat.reduceAdd, Nat.reduceSub, Nat.reduceMul, Nat.reduceMod, Nat.reducePow, Nat.reduceLT, Nat.reduceDiv, Int.reduceToNat, BitVec.reduceToNat, zipEnv, Int.reduceLE, Int.reduceLT, Int.reduceNeg, BitVec.reduceEq, Int.reduceAdd, Int.reduceSub, Int.reduceMul, Nat.reduceLeDiff, Int.reduceEq, amR, h1, kL, n2, r2, z32_eq]
    refine sign_run CT hSg (L := L) (s := S0) (d := .sl L8 R1.length [] 0 1 true) (c := z32) (m := [97#8]) (hS.push _) hw0.ok hso rfl (.inr ⟨R1.length, true, rfl, by rw [lv_app0]; rfl⟩) (by decide) (by rw [hlv0, hx0]; decide) (by rw [hl0]; decide) ?_
    intro R2 d2 q2 hS2 hq2 hb2 hf2 hdl2 hln2
    have hw1 := next_whole hw0 hS2
    have hs1 : AwS ((S0.next z32 [97#8]).v (L.next d2)) := ⟨hw1, hs0.t, hs0.o, hs0.id, hs0.sd⟩
    have hx1 : (S0.next z32 [97#8]).nx = 1#32 := by show S0.nx + 1#32 = _; rw [hx0]; rfl
    have hl1 : (S0.next z32 [97#8]).last.length = 1 := by show (S0.last ++ [_]).length = 1; rw [hl0]; rfl
    have hlv1 : lvN ((S0.next z32 [97#8]).v (L.next d2)) = 2 := hw1.lv.trans hH2
    have hso1 : okT (S0.next z32 [97#8]).o.toNat = true := hw0.o
    have hsg1 : sigF (S0.v L) S0.nx z32 [97#8] = sigF ((S0.next z32 [97#8]).v (L.next d2)) 0#32 z32 [97#8] := by rw [hx0]; rfl
    have hL1 : 44 + 32 * pT S0.o.toNat + 32 * pathN (S0.v L) S0.nx.toNat = 2220 := by
      rw [hw0.pn (by rw [show hH (S0.v L).t = hH S0.t from rfl, hH2, hx0]; decide), show S0.o = 3#32 from hs0.o, hs0.t]
      rfl
    rw [hL1]
    simp only [↓amD, amU, Nat.reduceBEq, Nat.reduceAdd, Nat.reduceSub, Nat.reduceMul, Nat.reduceMod, Nat.reducePow, Nat.reduceLT, Nat.reduceDiv, Int.reduceToNat, BitVec.reduceToNat, zipEnv, Int.reduceLE, Int.reduceLT, Int.reduceNeg, BitVec.reduceEq, Int.reduceAdd, Int.reduceSub, Int.reduceMul, Nat.reduceLeDiff, Int.reduceEq, amR, n2, r2]
    refine sign_run CT hSg (L := L.next d2) (s := S0.next z32 [97#8]) (d := .sl L8 R2.length [] 0 1 true) (c := z32) (m := [98#8]) (hS2.push _) hw1.ok hso1 rfl (.inr ⟨R2.length, true, rfl, by rw [lv_app0]; rfl⟩) (by decide) (by rw [hlv1, hx1]; decide) (by rw [hl1]; decide) ?_
    intro R3 d3 q3 hS3 hq3 hb3 hf3 hdl3 hln3
    have hw2 := next_whole hw1 hS3
    have hL2 : 44 + 32 * pT (S0.next z32 [97#8]).o.toNat + 32 * pathN ((S0.next z32 [97#8]).v (L.next d2)) (S0.next z32 [97#8]).nx.toNat = 2220 := by
      rw [hw1.pn (by rw [show hH ((S0.next z32 [97#8]).v (L.next d2)).t = hH S0.t from rfl, hH2, hx1]; decide), show (S0.next z32 [97#8]).o = 3#32 from hs0.o, hs1.t]
      rfl
    rw [hL2]
    have hq23 := hf3 _ _ (live_push hq2) (Sgn.els (hS2.push _) (live_push hq2))
    have hs2 : AwS (((S0.next z32 [97#8]).next z32 [98#8]).v ((L.next d2).next d3)) := ⟨hw2, hs0.t, hs0.o, hs0.id, hs0.sd⟩
    have hx2 : ((S0.next z32 [97#8]).next z32 [98#8]).nx = 2#32 := by show S0.nx + 1#32 + 1#32 = _; rw [hx0]; rfl
    have hlv2 : lvN (((S0.next z32 [97#8]).next z32 [98#8]).v ((L.next d2).next d3)) = 2 := hw2.lv.trans hH2
    have hsg1 : sigF (S0.v L) S0.nx z32 [97#8] = sigF (((S0.next z32 [97#8]).next z32 [98#8]).v ((L.next d2).next d3)) 0#32 z32 [97#8] := by rw [hx0]; rfl
    have hsg2 : sigF ((S0.next z32 [97#8]).v (L.next d2)) (S0.next z32 [97#8]).nx z32 [98#8] = sigF (((S0.next z32 [97#8]).next z32 [98#8]).v ((L.next d2).next d3)) 1#32 z32 [98#8] := by rw [hx1]; rfl
    have hlen : ∀ q : BitVec 32, q.toNat < 2 → ∀ m, (sigF (((S0.next z32 [97#8]).next z32 [98#8]).v ((L.next d2).next d3)) q z32 m).length = 2220 := fun q hq m => by
      rw [sigF_len hw2.ok (by rw [hlv2]; exact hq) z32 m rfl, hw2.pn (by rw [show hH (((S0.next z32 [97#8]).next z32 [98#8]).v ((L.next d2).next d3)).t = hH S0.t from rfl, hH2]; exact hq), hs2.o, hs2.t]
      rfl
    rw [hsg1] at hq23
    rw [hsg2] at hq3
    clear hsg1 hsg2 hL1 hL2 hq2
    have hLr : ((L.next d2).next d3).r = L.r := rfl
    generalize (S0.next z32 [97#8]).next z32 [98#8] = S2 at *
    generalize (L.next d2).next d3 = L2 at *
    simp only [↓amD, amU, Nat.reduceBEq, Nat.reduceAdd, Nat.reduceSub, Nat.reduceMul, Nat.reduceMod, Nat.reducePow, Nat.reduceLT, Nat.reduceDiv, Int.reduceToNat, BitVec.reduceToNat, zipEnv, Int.reduceLE, Int.reduceLT, Int.reduceNeg, BitVec.reduceEq, Int.reduceAdd, Int.reduceSub, Int.reduceMul, Nat.reduceLeDiff, Int.reduceEq, amR, n2, r2]
    rw [← hLr]
    refine sign_none CT hSg (L := L2) (s := S2) (d := .sl L8 R3.length [] 0 1 true) (c := z32) (hS3.push _) hw2.ok rfl (by rw [hx2, hlv2]; rfl) ?_
    intro more
    have hS4 := (hS3.push [some ⟨L8, [.raw (u8 99#8)]⟩]).push more
    have q24 := live_app (live_app hq23 [some ⟨L8, [.raw (u8 99#8)]⟩]) more
    have q34 := live_app (live_app hq3 [some ⟨L8, [.raw (u8 99#8)]⟩]) more
    generalize (R3 ++ [some (⟨L8, [.raw (u8 99#8)]⟩ : Row)]) ++ more = R4 at *
    have kP0 := fun k' => kPublicV R4 k' _ _ hS4.rd hw2.ok
    have kP := fun L' k' => kPublicV (R4 ++ L') k' _ _ (hS4.push L').rd hw2.ok
    have hpl := pubSg_len hw2.ok
    have l2 := hlen 0#32 (by decide) [97#8]
    have l3 := hlen 1#32 (by decide) [98#8]
    have v1 : verE (pubSg (S2.v L2)) [97#8] (sigF (S2.v L2) 0#32 z32 [97#8]) = 0 := by
      rw [ver_own hw2 hw2 rfl rfl rfl (by rw [← hw2.lv, hlv2]; decide) z32 [97#8] rfl, if_pos rfl]
    have v2 : verE (pubSg (S2.v L2)) [98#8] (sigF (S2.v L2) 1#32 z32 [98#8]) = 0 := by
      rw [ver_own hw2 hw2 rfl rfl rfl (by rw [← hw2.lv, hlv2]; decide) z32 [98#8] rfl, if_pos rfl]
    have v3 := aw_other hs2
    generalize sigF (S2.v L2) 0#32 z32 [97#8] = A at *
    generalize sigF (S2.v L2) 1#32 z32 [98#8] = B at *
    generalize pubSg (S2.v L2) = PB at *
    simp only [↓amD, amU, Nat.reduceBEq, Nat.reduceAdd, Nat.reduceSub, Nat.reduceMul, Nat.reduceMod, Nat.reducePow, Nat.reduceLT, Nat.reduceDiv, Int.reduceToNat, BitVec.reduceToNat, zipEnv, Int.reduceLE, Int.reduceLT, Int.reduceNeg, BitVec.reduceEq, Int.reduceAdd, Int.reduceSub, Int.reduceMul, Nat.reduceLeDiff, Int.reduceEq, amR, h2, kP, kP0, h3]
    refine Eq.mpr (kVerify _ _ _ _ _ PB [97#8] A (BsIn.own (by rw [lv_app0]; rfl) _ hpl.symm) (BsIn.own (by rw [lv_appk]; rfl) _ rfl) (BsIn.own (live_app q24 _) _ l2.symm) (by omega) (by decide) (by omega)) ?_
    simp only [↓amD, amU, Nat.reduceBEq, Nat.reduceAdd, Nat.reduceSub, Nat.reduceMul, Nat.reduceMod, Nat.reducePow, Nat.reduceLT, Nat.reduceDiv, Int.reduceToNat, BitVec.reduceToNat, zipEnv, Int.reduceLE, Int.reduceLT, Int.reduceNeg, BitVec.reduceEq, Int.reduceAdd, Int.reduceSub, Int.reduceMul, Nat.reduceLeDiff, Int.reduceEq, amR, v1, h2, kP, h3]
    refine Eq.mpr (kVerify _ _ _ _ _ PB [98#8] B (BsIn.own (by rw [lv_appk]; rfl) _ hpl.symm) (BsIn.own (by rw [lv_appk]; rfl) _ rfl) (BsIn.own (live_app q34 _) _ l3.symm) (by omega) (by decide) (by omega)) ?_
    simp only [↓amD, amU, Nat.reduceBEq, Nat.reduceAdd, Nat.reduceSub, Nat.reduceMul, Nat.reduceMod, Nat.reducePow, Nat.reduceLT, Nat.reduceDiv, Int.reduceToNat, BitVec.reduceToNat, zipEnv, Int.reduceLE, Int.reduceLT, Int.reduceNeg, BitVec.reduceEq, Int.reduceAdd, Int.reduceSub, Int.reduceMul, Nat.reduceLeDiff, Int.reduceEq, amR, v2, h2, kP, h3]
    refine Eq.mpr (kVerify _ _ _ _ _ PB [97#8] B (BsIn.own (by rw [lv_appk]; rfl) _ hpl.symm) (BsIn.own (by rw [lv_appk]; rfl) _ rfl) (BsIn.own (live_app q34 _) _ l3.symm) (by omega) (by decide) (by omega)) ?_
    simp only [↓amD, amU, Nat.reduceBEq, Nat.reduceAdd, Nat.reduceSub, Nat.reduceMul, Nat.reduceMod, Nat.reducePow, Nat.reduceLT, Nat.reduceDiv, Int.reduceToNat, BitVec.reduceToNat, zipEnv, Int.reduceLE, Int.reduceLT, Int.reduceNeg, BitVec.reduceEq, Int.reduceAdd, Int.reduceSub, Int.reduceMul, Nat.reduceLeDiff, Int.reduceEq, amR, v3]
    exact .val _ rfl
  · cases h
structure LW (C CL CT : Ctx) : Prop where
  new : LmC CT
  sgn : LmS CT
  ln : CL.fn 24 = none
  lr : CL.fnr 24 = some (afun CT 4 r_lms_New a_lms_New)
  n1 : C.fn 24 = none
  r1 : C.fnr 24 = some (afun CT 4 r_lms_New a_lms_New)
  n2 : C.fn 29 = none
  r2 : C.fnr 29 = some (afun CT 3 r_lms_Signer_Sign a_lms_Signer_Sign)
  n3 : C.fn 10 = none
  r3 : C.fnr 10 = some (afun CL 4 r_law06_lay a_law06_lay)
  awake : C.fn 9 = some fAwakeL
  cut : C.fn 12 = some fCut
  same : C.fn 16 = some fSame
  join : C.fn 13 = some fJoin
  table : C.fn 31 = some fTable
  alld : C.fn 32 = some fAllD
  rmash : C.fn 33 = some fRMash
  kno : C.fn 34 = some fKnows
  las : C.fn 35 = some fLast0
  sid : C.fn 36 = some fSigned
  lef : C.fn 30 = some fLeft
  frc : C.fn 11 = some fForce
  pub : C.fn 17 = some fPublicK
  pat : C.fn 25 = some fPath
  ver : C.fn 19 = some fVerify
  roo : C.fn 18 = some fRoot
  par : C.fn 14 = some fParts
  cla : C.fn 21 = some fClaim
  opub : C.fn 26 = some fPublic
  clm : C.fn 22 = some fClimb
  rha : C.fn 23 = some fRHash
  lea : C.fn 27 = some fLeaf
  nod : C.fn 28 = some fNode
end Job
end Go.Am

namespace Go.Am
set_option linter.unusedSimpArgs false
set_option linter.unusedVariables false
attribute [local congr] bnd_congr kCond_congr kGd_congr kPick_congr kCall_congr kIdx_congr kSlice_congr kLoop_congr cond_congr' aBin_congr aBounds_congr aApp_congr aCopy_congr kFn_congr
namespace Job
open Go.Am.F
set_option maxRecDepth 10000
structure LP (C CL CT CP : Ctx) : Prop where
  w : LW C CL CT
  n4 : C.fn 15 = none
  r4 : C.fnr 15 = some (afun CP 1 r_ref06_Parts a_ref06_Parts)
  val : CP.fn 20 = some fValue
  tab : CP.fn 31 = some fTable
  hei : CP.fn 46 = some fRHeight
end Job
end Go.Am
namespace Go.Am
namespace Job
open Go.Am.F
set_option linter.unusedVariables false
set_option linter.unusedSimpArgs false
set_option maxRecDepth 100000
def typesZ : List (Int × Int × Int) := [(1, 265, 7), (2, 133, 6), (4, 67, 4), (8, 34, 0)]
def G0 : Nat → Option D := fun g => if g = 0 then some typesD else if g = 1 then some (h8D firstL) else if g = 2 then some (w64D roundsL) else none
noncomputable def T0 : List (Nat × Fn) := [(35, fLast0), (36, fSigned), (34, fKnows), (11, fForce), (25, fPath), (17, fPublicK), (30, fLeft), (39, fSite), (37, fLeaves), (22, fClimb), (46, fRHeight), (23, fRHash), (28, fNode), (27, fLeaf), (57, fHash), (40, fFour), (41, fNoneP), (47, fReadK), (45, fHeight), (44, fLNum), (16, fSame), (32, fAllD), (58, fRDig), (59, fBits), (21, fClaim), (48, fSplit), (38, fSign), (26, fPublic), (49, fDigits), (61, fCoef), (52, fEnd), (31, fTable), (43, fParams), (53, fFold), (33, fRMash), (50, fMash), (51, fChain), (56, fSecret), (66, fStep), (63, fFront), (60, fFour), (62, fTwo), (65, fStSum), (64, fFeed), (68, fNew), (71, fPad), (70, fDigest), (54, fRSum), (67, fPressR), (69, fPress), (74, fSpread), (13, fJoin), (55, fNumS), (12, fCut), (20, fValue), (73, fRoots), (72, fTurn), (76, fWord), (75, fRot)]
noncomputable def C : Ctx := ⟨G0, fnTab T0, fun _ => none⟩
theorem G0_none (g : Nat) (h : ¬ g = 0) (h0 : ¬ g = 1) (h1 : ¬ g = 2) : G0 g = none := by
  unfold G0
  rw [if_neg h, if_neg h0, if_neg h1]
def firstZ : List Int := firstL.map fun x => (x.toNat : Int)
def roundsZ : List Int := roundsL.map fun x => (x.toNat : Int)
theorem ctx : CtxOK C P := by
  have c0 := ctx_nil (G := G0) (P := P)
  have c1 := ctx_cons (rot_ok _ c0) c0
  have c2 := ctx_cons (word_ok _ c1) c1
  have c3 := ctx_cons (turn_ok _ c2) c2
  have c4 := ctx_cons (roots_ok _ c3) c3
  have c5 := ctx_cons (value_ok _ c4) c4
  have c6 := ctx_cons (cut_ok _ c5) c5
  have c7 := ctx_cons (num_sl _ c6) c6
  have c8 := ctx_cons (join_ok _ c7) c7
  have c9 := ctx_cons (spread_ok _ c8 rfl rfl) c8
  have c10 := ctx_cons (press_ok _ c9 rfl rfl rfl) c9
  have c11 := ctx_cons (pressR_ok _ c10 rfl rfl rfl) c10
  have c12 := ctx_cons (rsum_ok _ c11 rfl rfl rfl) c11
  have c13 := ctx_cons (digest_ok _ c12) c12
  have c14 := ctx_cons (pad_ok _ c13) c13
  have c15 := ctx_cons (new_ok _ c14 rfl) c14
  have c16 := ctx_cons (feed_meets _ c15 rfl) c15
  have c17 := ctx_cons (stsum_ok _ c16 rfl rfl rfl) c16
  have c18 := ctx_cons (two_ok _ c17) c17
  have c19 := ctx_cons (four_ok _ c18) c18
  have c20 := ctx_cons (front_ok _ c19 rfl rfl rfl) c19
  have c21 := ctx_cons (step_ok _ c20 rfl rfl rfl rfl) c20
  have c22 := ctx_cons (secret_ok _ c21 rfl) c21
  have c23 := ctx_cons (chain_ok _ c22 rfl) c22
  have c24 := ctx_cons (mash_ok _ c23 rfl rfl rfl rfl) c23
  have c25 := ctx_cons (rmash_ok _ c24 rfl rfl rfl) c24
  have c26 := ctx_cons (fold_ok _ c25 rfl rfl rfl rfl) c25
  have c27 := ctx_cons (params_ok _ c26 rfl) c26
  have c28 := ctx_cons (table_ok _ c27) c27
  have c29 := ctx_cons (end_ok _ c28) c28
  have c30 := ctx_cons (coef_ok _ c29) c29
  have c31 := ctx_cons (digits_ok _ c30 rfl rfl rfl rfl) c30
  have c32 := ctx_cons (public_ok _ c31 rfl rfl rfl rfl rfl) c31
  have c33 := ctx_cons (sign_ok _ c32 rfl rfl rfl rfl rfl rfl) c32
  have c34 := ctx_cons (split_ok _ c33 rfl) c33
  have c35 := ctx_cons (claim_ok _ c34 rfl rfl rfl rfl rfl rfl rfl) c34
  have c36 := ctx_cons (bits_ok _ c35) c35
  have c37 := ctx_cons (rdig_ok _ c36) c36
  have c38 := ctx_cons (alld_ok _ c37 rfl rfl rfl rfl rfl) c37
  have c39 := ctx_cons (same_ok _ c38) c38
  have c40 := ctx_cons (lnum_ok _ c39) c39
  have c41 := ctx_cons (height_ok _ c40) c40
  have c42 := ctx_cons (readK_ok _ c41 rfl rfl rfl) c41
  have c43 := ctx_cons (nonep_ok _ c42) c42
  have c44 := ctx_cons (lfour_ok _ c43) c43
  have c45 := ctx_cons (hash_ok _ c44 rfl rfl rfl rfl) c44
  have c46 := ctx_cons (leaf_ok _ c45 rfl) c45
  have c47 := ctx_cons (node_ok _ c46 rfl) c46
  have c48 := ctx_cons (rhash_ok _ c47 rfl rfl rfl) c47
  have c49 := ctx_cons (rheight_ok _ c48) c48
  have c50 := ctx_cons (climb_ok _ c49 rfl) c49
  have c51 := ctx_cons (leaves_ok _ c50) c50
  have c52 := ctx_cons (site_ok _ c51) c51
  have c53 := ctx_cons (left_ok _ c52 rfl) c52
  have c54 := ctx_cons (publicK_ok _ c53 rfl) c53
  have c55 := ctx_cons (path_ok _ c54 rfl) c54
  have c56 := ctx_cons (force_ok _ c55 rfl rfl rfl rfl rfl) c55
  have c57 := ctx_cons (knows_ok _ c56 rfl) c56
  have c58 := ctx_cons (signed_ok _ c57) c57
  exact ctx_cons (last0_ok _ c58) c58
noncomputable def R0 : List (Nat × AFun) := [(24, afun C 4 r_lms_New a_lms_New), (29, afun C 3 r_lms_Signer_Sign a_lms_Signer_Sign), (42, afun C 2 r_lms_take a_lms_take)]
noncomputable def CA : Ctx := ⟨G0, fnTab T0, afTab R0⟩
theorem ctxA : CtxOK CA P := by
  have z : CtxOK ⟨G0, fnTab T0, afTab []⟩ P := ⟨ctx.1, (ctx_nilr (G := G0) (P := P)).2⟩
  have z0 := ctx_consr (m_lms_take C ctx) z
  have z1 := ctx_consr (m_lms_Signer_Sign C ctx) z0
  exact ctx_consr (m_lms_New C ctx) z1
theorem lmC : LmC C := ⟨rfl, rfl, rfl, rfl, rfl, rfl, rfl⟩
theorem lmS : LmS C := ⟨rfl, rfl, rfl, rfl, rfl⟩
noncomputable def T1 : List (Nat × Fn) := (19, fVerify) :: (18, fRoot) :: (14, fParts) :: T0
noncomputable def CB : Ctx := ⟨G0, fnTab T1, afTab R0⟩
theorem ctxB : CtxOK CB P := by
  have c1 := ctx_cons (parts_ok CA C ctxA rfl rfl rfl rfl rfl rfl) ctxA
  have c2 := ctx_cons (root_ok _ c1 rfl rfl rfl rfl rfl rfl) c1
  exact ctx_cons (verify_ok _ c2 rfl rfl) c2
noncomputable def R1 : List (Nat × AFun) := (15, afun CA 1 r_ref06_Parts a_ref06_Parts) :: (10, afun CA 4 r_law06_lay a_law06_lay) :: R0
noncomputable def CL : Ctx := ⟨G0, fnTab ((9, fAwakeL) :: T1), afTab R1⟩
theorem ctxL : CtxOK CL P := by
  have c1 := ctx_cons (awakel_ok CB C ctxB lmC lmS rfl rfl rfl rfl rfl rfl rfl) ctxB
  have c2 := ctx_consr (m_law06_lay CA ctxA) c1
  exact ctx_consr (m_ref06_Parts CA ctxA) c2
theorem lwL : LW CL CA C := ⟨lmC, lmS, rfl, rfl, rfl, rfl, rfl, rfl, rfl, rfl, rfl, rfl, rfl, rfl, rfl, rfl, rfl, rfl, rfl, rfl, rfl, rfl, rfl, rfl, rfl, rfl, rfl, rfl, rfl, rfl, rfl, rfl, rfl⟩
theorem CL_types : CL.glob 0 = some (D.agg (.ar typesZ.length SPar) (typesZ.map triD)) := rfl
theorem CL_first : CL.glob 1 = some (numsD .u32 firstZ) := rfl
theorem CL_rounds : CL.glob 2 = some (numsD .u32 roundsZ) := rfl
theorem CL_glob_none (g : Nat) (h : ¬ g = 0) (h0 : ¬ g = 1) (h1 : ¬ g = 2) : CL.glob g = none := G0_none g h h0 h1
end Job
end Go.Am
namespace Go.Am
set_option linter.unusedSimpArgs false
set_option linter.unusedVariables false
attribute [local congr] bnd_congr kCond_congr kGd_congr kPick_congr kCall_congr kIdx_congr kSlice_congr kLoop_congr cond_congr' aBin_congr aBounds_congr aApp_congr aCopy_congr kFn_congr
namespace Job
open Go.Am.F
set_option maxRecDepth 10000
theorem Sgn.other {rows rows' : Rows} {LA LB : At4} {sa sb : Sg} (ha : Sgn rows LA sa) (hb : Sgn rows LB sb) (hd : LB.dl = .raw (.slice none 0 0)) (n1 : LA.r ≠ LB.r) (n2 : LA.nr ≠ LB.nr) (n3 : LA.ms ≠ LB.ms) (n4 : LA.mt ≠ LB.mt)
    (hk : ∀ q row, live rows q = some row → Else rows LA sa q → live rows' q = some row) : Sgn rows' LB sb := by
  refine ⟨hk _ _ hb.a ⟨n1.symm, ne_sh hb.a ha.n (by decide), ne_sh hb.a ha.m (by decide), ne_sh hb.a ha.t (by decide), own_neA ha.l hb.a (by decide)⟩,
    hk _ _ hb.n ⟨ne_sh hb.n ha.a (by decide), n2.symm, ne_sh hb.n ha.m (by decide), ne_sh hb.n ha.t (by decide), own_neA ha.l hb.n (by decide)⟩,
    hk _ _ hb.m ⟨ne_sh hb.m ha.a (by decide), ne_sh hb.m ha.n (by decide), n3.symm, ne_sh hb.m ha.t (by decide), own_neA ha.l hb.m (by decide)⟩,
    hk _ _ hb.t ⟨ne_sh hb.t ha.a (by decide), ne_sh hb.t ha.n (by decide), ne_sh hb.t ha.m (by decide), n4.symm, own_neA ha.l hb.t (by decide)⟩, ?_⟩
  rcases hb.l with h | ⟨r, ex, e, hl⟩
  · exact .inl h
  · rw [hd] at e; cases e
theorem sigF_of {s z : SgV} (h1 : s.t = z.t) (h2 : s.o = z.o) (h3 : s.id = z.id) (h4 : s.seed = z.seed) (h5 : s.ns = z.ns) (q : BitVec 32) (c m : List (BitVec 8)) : sigF s q c m = sigF z q c m := by
  cases s; cases z; cases h1; cases h2; cases h3; cases h4; cases h5; rfl
theorem pubSg_iff {s z : SgV} (h1 : s.t = z.t) (h2 : s.o = z.o) (h3 : s.id = z.id) : pubSg s = pubSg z ↔ s.ns.getD 1 [] = z.ns.getD 1 [] := by
  unfold pubSg
  rw [h1, h2, h3]
  exact List.append_right_inj _
structure SaI (S : Sg) (LA : At4) (i : Nat) (rs : Rows) (L : At4) (T : Sg) : Prop where
  g : Sgn rs L T
  r : L.r = LA.r
  nr : L.nr = LA.nr
  ms : L.ms = LA.ms
  mt : L.mt = LA.mt
  nx : T.nx = BitVec.ofNat 32 i
  w : Whole (T.v L)
  t : T.t = S.t
  o : T.o = S.o
  id : T.id = S.id
  seed : T.seed = S.seed
  ns : T.ns = S.ns
  ll : T.last.length = i
set_option maxHeartbeats 2000000 in
theorem same_law (C CL CT : Ctx) (H : LW C CL CT) (id seed other c m0 : List (BitVec 8)) (hid : id.length = 16) (hsd : seed.length = 32) (hot : other.length = 32) (hc : c.length = 32) (hm0 : m0.length ≤ 9223372036854775807) :
    afun C 5 r_law06_LmsSame a_law06_LmsSame [.agg (.ar 16 L8) (bs id), .agg (.ar 32 L8) (bs seed), .agg (.ar 32 L8) (bs other), .agg (.ar 32 L8) (bs c), .lst L8 (bs m0) false] [] (fun d rows => d = .raw (.bool true)) := by
  refine afun_mk rfl ?_
  unfold a_law06_LmsSame r_law06_LmsSame
  have e1 : okH (3758096385#32).toNat = true := by decide
  have e2 : hT (3758096385#32).toNat ≤ 10 := by decide
  have e3 : okT (3#32).toNat = true := by decide
  have kc := fun rows k => kCut rows k (.lst L8 (bs m0) false) m0 60 (.inr ⟨false, rfl⟩) hm0 (by rw [List.length_take]; omega)
  have hml : (m0.take (60 : Int).toNat).length ≤ 60 := by rw [List.length_take]; exact Nat.min_le_left _ _
  generalize m0.take (60 : Int).toNat = m at kc hml
  simp only [↓amD, amU, Nat.reduceBEq, Nat.reduceAdd, Nat.reduceSub, Nat.reduceMul, Nat.reduceMod, Nat.reducePow, Nat.reduceLT, Nat.reduceDiv, Int.reduceToNat, BitVec.reduceToNat, zipEnv, Int.reduceLE, Int.reduceLT, Int.reduceNeg, BitVec.reduceEq, Int.reduceAdd, Int.reduceSub, Int.reduceMul, Nat.reduceLeDiff, Int.reduceEq, amR, H.awake, kAwakeL, Bool.not_true, H.cut, kc, H.n1, H.r1]
  refine newL_run CT H.new (t := 3758096385#32) (o := 3#32) e1 e2 e3 hid hsd ?_
  intro R1 LA hA kA a1 a2 a3 a4 ad
  have r0 := kA 0 _ rfl
  have r1 := kA 1 _ rfl
  have r2 := kA 2 _ rfl
  have r3 := kA 3 _ rfl
  have r4 := kA 4 _ rfl
  have wA := new_whole hA e1 e2 e3 hid hsd
  simp only [↓amD, amU, Nat.reduceBEq, Nat.reduceAdd, Nat.reduceSub, Nat.reduceMul, Nat.reduceMod, Nat.reducePow, Nat.reduceLT, Nat.reduceDiv, Int.reduceToNat, BitVec.reduceToNat, zipEnv, Int.reduceLE, Int.reduceLT, Int.reduceNeg, BitVec.reduceEq, Int.reduceAdd, Int.reduceSub, Int.reduceMul, Nat.reduceLeDiff, Int.reduceEq, amR, r0, r1, H.n1, H.r1]
  refine newL_run CT H.new (t := 3758096385#32) (o := 3#32) e1 e2 e3 hid hsd ?_
  intro R2 LB hB kB b1 b2 b3 b4 bd
  have wB := new_whole hB e1 e2 e3 hid hsd
  have fA : (sgNew 3758096385#32 3#32 id seed (nodesL 3#32 id seed (hH 3758096385#32))).t = 3758096385#32 ∧ (sgNew 3758096385#32 3#32 id seed (nodesL 3#32 id seed (hH 3758096385#32))).o = 3#32 ∧ (sgNew 3758096385#32 3#32 id seed (nodesL 3#32 id seed (hH 3758096385#32))).nx = 0#32 ∧ (sgNew 3758096385#32 3#32 id seed (nodesL 3#32 id seed (hH 3758096385#32))).last = [] ∧ (sgNew 3758096385#32 3#32 id seed (nodesL 3#32 id seed (hH 3758096385#32))).id = id := ⟨rfl, rfl, rfl, rfl, rfl⟩
  generalize sgNew 3758096385#32 3#32 id seed (nodesL 3#32 id seed (hH 3758096385#32)) = S at *
  obtain ⟨ft, fo, fx, fl, fi⟩ := fA
  have r0 := kB _ _ r0
  have r2 := kB _ _ r2
  simp only [↓amD, amU, Nat.reduceBEq, Nat.reduceAdd, Nat.reduceSub, Nat.reduceMul, Nat.reduceMod, Nat.reducePow, Nat.reduceLT, Nat.reduceDiv, Int.reduceToNat, BitVec.reduceToNat, zipEnv, Int.reduceLE, Int.reduceLT, Int.reduceNeg, BitVec.reduceEq, Int.reduceAdd, Int.reduceSub, Int.reduceMul, Nat.reduceLeDiff, Int.reduceEq, amR, r0, r2, H.n1, H.r1]
  refine newL_run CT H.new (t := 3758096385#32) (o := 3#32) e1 e2 e3 hid hot ?_
  intro R3 LC hC kC c1 c2 c3 c4 cd
  have wC := new_whole hC e1 e2 e3 hid hot
  have r3 := kC _ _ (kB _ _ r3)
  have r4 := kC _ _ (kB _ _ r4)
  have nB : LA.r ≠ LB.r ∧ LA.nr ≠ LB.nr ∧ LA.ms ≠ LB.ms ∧ LA.mt ≠ LB.mt := by
    have i1 := live_lt hA.a; have i2 := live_lt hA.n; have i3 := live_lt hA.m; have i4 := live_lt hA.t
    exact ⟨by omega, by omega, by omega, by omega⟩
  have nC : LA.r ≠ LC.r ∧ LA.nr ≠ LC.nr ∧ LA.ms ≠ LC.ms ∧ LA.mt ≠ LC.mt := by
    have i1 := live_lt (kB _ _ hA.a); have i2 := live_lt (kB _ _ hA.n); have i3 := live_lt (kB _ _ hA.m); have i4 := live_lt (kB _ _ hA.t)
    exact ⟨by omega, by omega, by omega, by omega⟩
  have n3 : 3 ≠ LA.nr := by simp at a2; omega
  have hA := (hA.keep kB).keep kC
  have hB := hB.keep kC
  clear kA kB kC a1 a2 a3 a4 b1 b2 b3 b4 c1 c2 c3 c4 r0 r1 r2
  have fC : (sgNew 3758096385#32 3#32 id other (nodesL 3#32 id other (hH 3758096385#32))).t = 3758096385#32 ∧ (sgNew 3758096385#32 3#32 id other (nodesL 3#32 id other (hH 3758096385#32))).o = 3#32 ∧ (sgNew 3758096385#32 3#32 id other (nodesL 3#32 id other (hH 3758096385#32))).id = id := ⟨rfl, rfl, rfl⟩
  generalize sgNew 3758096385#32 3#32 id other (nodesL 3#32 id other (hH 3758096385#32)) = Z at *
  obtain ⟨gt, go, gi⟩ := fC
  have h2 : hH S.t = 2 := by rw [ft]; rfl
  have hlB : lvN (S.v LB) = 2 := wB.lv.trans h2
  have hlC : lvN (Z.v LC) = 2 := wC.lv.trans (by show hH Z.t = 2; rw [gt]; rfl)
  have pA := pubSg_len wA.ok
  have pB := pubSg_len wB.ok
  have pE : pubSg (S.v LA) = pubSg (S.v LB) := (pubSg_iff rfl rfl rfl).2 rfl
  have kPA := fun rows h k' => kPublicV rows k' (.ptr SSig LA.r [0]) (S.v LA) h wA.ok
  have kPB := fun rows h k' => kPublicV rows k' (.ptr SSig LB.r [0]) (S.v LB) h wB.ok
  have A4 := fun L' => live_app r4 L'
  have A3 := fun L' => live_app r3 L'
  simp only [↓amD, amU, Nat.reduceBEq, Nat.reduceAdd, Nat.reduceSub, Nat.reduceMul, Nat.reduceMod, Nat.reducePow, Nat.reduceLT, Nat.reduceDiv, Int.reduceToNat, BitVec.reduceToNat, zipEnv, Int.reduceLE, Int.reduceLT, Int.reduceNeg, BitVec.reduceEq, Int.reduceAdd, Int.reduceSub, Int.reduceMul, Nat.reduceLeDiff, Int.reduceEq, amR, H.pub, kPA _ hA.rd, kPB _ (hB.push _).rd, H.same]
  refine Eq.mpr (kSame _ _ _ _ (pubSg (S.v LA)) (pubSg (S.v LB)) (BsIn.own (by rw [lv_app0]; rfl) _ pA.symm) (BsIn.own (by rw [lv_appk]; rfl) _ pB.symm) (by omega) (by omega)) ?_
  rw [pE, decide_eq_true rfl]
  simp only [↓amD, amU, Nat.reduceBEq, Nat.reduceAdd, Nat.reduceSub, Nat.reduceMul, Nat.reduceMod, Nat.reducePow, Nat.reduceLT, Nat.reduceDiv, Int.reduceToNat, BitVec.reduceToNat, zipEnv, Int.reduceLE, Int.reduceLT, Int.reduceNeg, BitVec.reduceEq, Int.reduceAdd, Int.reduceSub, Int.reduceMul, Nat.reduceLeDiff, Int.reduceEq, amR, Bool.not_true]
  refine kLoop_up 2 (fun i env rs => has env [(64, .raw (u32 (BitVec.ofNat 32 i))), (11, .ptr SSig LA.r [0]), (13, .ptr SSig LB.r [0]), (15, .ptr SSig LC.r [0]), (8, .ptr (.ar 32 L8) 3 [0]), (4, .sl L8 4 [] 0 m.length false)] ∧ (∃ L T, SaI S LA i rs L T) ∧ Sgn rs LB S ∧ Sgn rs LC Z ∧ live rs 3 = some ⟨.ar 32 L8, [.agg (.ar 32 L8) (bs c)]⟩ ∧ live rs 4 = some ⟨L8, bs m⟩) ?_ ?_
    ⟨?_, ⟨LA, S, hA.push _, rfl, rfl, rfl, rfl, fx, wA, rfl, rfl, rfl, rfl, rfl, by rw [fl]; rfl⟩, hB.push _, hC.push _, A3 _, A4 _⟩
  · rintro i hi env rs ⟨hw, ⟨L, T, hI⟩, jB, jC, j3, j4⟩ R hR
    simp only [has] at hw
    have i2 : i = 0 ∨ i = 1 := by omega
    have f0 : (BitVec.ofNat 32 i < 2#32) = True := eq_true (by rcases i2 with rfl | rfl <;> decide)
    have f1 : BitVec.ofNat 32 i + 1#32 = BitVec.ofNat 32 (i + 1) := by rcases i2 with rfl | rfl <;> rfl
    have hq2 : (BitVec.ofNat 32 i).toNat = i := by rw [BitVec.toNat_ofNat]; omega
    have hlT : lvN (T.v L) = 2 := hI.w.lv.trans (by show hH T.t = 2; rw [hI.t]; exact h2)
    have hT := hI.g
    simp only [↓amD, amU, Nat.reduceBEq, Nat.reduceAdd, Nat.reduceSub, Nat.reduceMul, Nat.reduceMod, Nat.reducePow, Nat.reduceLT, Nat.reduceDiv, Int.reduceToNat, BitVec.reduceToNat, zipEnv, Int.reduceLE, Int.reduceLT, Int.reduceNeg, BitVec.reduceEq, Int.reduceAdd, Int.reduceSub, Int.reduceMul, Nat.reduceLeDiff, Int.reduceEq, amR, hw, f0, j3, H.n2, H.r2]
    rw [← hI.r]
    refine sign_run CT H.sgn (L := L) (s := T) (d := .sl L8 4 [] 0 m.length false) (c := c) (m := m) hT hI.w.ok (by rw [hI.o, fo]; exact e3) hc (.inr ⟨4, false, rfl, j4⟩) (by omega) (by rw [hlT, hI.nx, hq2]; exact hi) (by rw [hI.ll]; omega) ?_
    intro R4 d4 q4 hT4 hq4 hb4 hf4 hd4 hn4
    have jB4 := Sgn.other hT jB bd (by rw [hI.r]; exact nB.1) (by rw [hI.nr]; exact nB.2.1) (by rw [hI.ms]; exact nB.2.2.1) (by rw [hI.mt]; exact nB.2.2.2) hf4
    have jC4 := Sgn.other hT jC cd (by rw [hI.r]; exact nC.1) (by rw [hI.nr]; exact nC.2.1) (by rw [hI.ms]; exact nC.2.2.1) (by rw [hI.mt]; exact nC.2.2.2) hf4
    have k3 := hf4 _ _ j3 ⟨ne_sh j3 hT.a (by decide), by rw [hI.nr]; exact n3, ne_sh j3 hT.m (by decide), ne_sh j3 hT.t (by decide), own_neA hT.l j3 (by decide)⟩
    have k4 := hf4 _ _ j4 (Sgn.els hT j4)
    have w4 := next_whole hI.w hT4
    have hsg : sigF (T.v L) T.nx c m = sigF (S.v LB) (BitVec.ofNat 32 i) c m := by rw [hI.nx]; exact sigF_of hI.t hI.o hI.id hI.seed hI.ns _ _ _
    have l1 := sigF_len hI.w.ok (q := T.nx) (by rw [hlT, hI.nx, hq2]; exact hi) c m hc
    have l2 := sigF_len wB.ok (q := BitVec.ofNat 32 i) (by rw [hlB, hq2]; exact hi) c m hc
    have l3 := sigF_len wC.ok (q := BitVec.ofNat 32 i) (by rw [hlC, hq2]; exact hi) c m hc
    have oB : okT (S.v LB).o.toNat = true := by show okT S.o.toNat = true; rw [fo]; exact e3
    have oC : okT (Z.v LC).o.toNat = true := by show okT Z.o.toNat = true; rw [go]; exact e3
    have kFB := fun k' => kForceV R4 k' (.ptr SSig LB.r [0]) (.sl L8 4 [] 0 m.length false) (S.v LB) (BitVec.ofNat 32 i) c m jB4.rd (BsIn.own k4 _ rfl) wB.ok oB hc (by omega) (by rw [hlB, hq2]; exact hi)
    have kFC := fun rows h h' k' => kForceV rows k' (.ptr SSig LC.r [0]) (.sl L8 4 [] 0 m.length false) (Z.v LC) (BitVec.ofNat 32 i) c m h (BsIn.own h' _ rfl) wC.ok oC hc (by omega) (by rw [hlC, hq2]; exact hi)
    have K3 := fun L' => live_app k3 L'
    have K4 := fun L' => live_app k4 L'
    simp only [↓amD, amU, Nat.reduceBEq, Nat.reduceAdd, Nat.reduceSub, Nat.reduceMul, Nat.reduceMod, Nat.reducePow, Nat.reduceLT, Nat.reduceDiv, Int.reduceToNat, BitVec.reduceToNat, zipEnv, Int.reduceLE, Int.reduceLT, Int.reduceNeg, BitVec.reduceEq, Int.reduceAdd, Int.reduceSub, Int.reduceMul, Nat.reduceLeDiff, Int.reduceEq, amR, hw, k3, K3, H.frc, kFB, kFC _ (jC4.push _).rd (K4 _), H.same]
    have oT : okT T.o.toNat = true := by rw [hI.o, fo]; exact e3
    have p1 : pT T.o.toNat ≤ 265 := (parT_ok oT).2.2.1
    have p2 : pT (S.v LB).o.toNat ≤ 265 := (parT_ok oB).2.2.1
    have p3 : pT (Z.v LC).o.toNat ≤ 265 := (parT_ok oC).2.2.1
    have t1 := pathN_le hI.w.ok (q := T.nx.toNat) (by rw [hlT, hI.nx, hq2]; exact hi)
    have t2 := pathN_le wB.ok (q := (BitVec.ofNat 32 i).toNat) (by rw [hlB, hq2]; exact hi)
    have t3 := pathN_le wC.ok (q := (BitVec.ofNat 32 i).toNat) (by rw [hlC, hq2]; exact hi)
    have l1 : 44 + (32 * pT T.o.toNat + 32 * pathN (T.v L) T.nx.toNat) = (sigF (T.v L) T.nx c m).length := by rw [l1, Nat.add_assoc]; rfl
    have l2' := l2
    have l3' := l3
    rw [Nat.add_assoc] at l2' l3'
    refine Eq.mpr (kSame _ _ _ _ (sigF (T.v L) T.nx c m) (sigF (S.v LB) (BitVec.ofNat 32 i) c m) (BsIn.own (live_app hq4 _) _ l1) (BsIn.own (by rw [lv_app0]; rfl) _ l2'.symm) (by omega) (by omega)) ?_
    rw [hsg, decide_eq_true rfl]
    have rd4 : ∀ more, RdIn (R4 ++ more) (rdOf sgV) (.ptr SSig LA.r [0]) ((T.next c m).v (L.next d4)) := fun more => by rw [← hI.r]; exact (hT4.push more).rd
    have kPA := fun more k' => kPublicV (R4 ++ more) k' (.ptr SSig LA.r [0]) _ (rd4 more) w4.ok
    have kPC := fun more k' => kPublicV (R4 ++ more) k' (.ptr SSig LC.r [0]) _ (jC4.push more).rd wC.ok
    have g1 : ((T.next c m).v (L.next d4)).t = (Z.v LC).t := hI.t.trans (ft.trans gt.symm)
    have g2 : ((T.next c m).v (L.next d4)).o = (Z.v LC).o := hI.o.trans (fo.trans go.symm)
    have g3 : ((T.next c m).v (L.next d4)).id = (Z.v LC).id := hI.id.trans (fi.trans gi.symm)
    have hv := ver_own wC w4 g1 g2 g3 (q := BitVec.ofNat 32 i) (by rw [← wC.lv, hlC, hq2]; exact hi) c m hc
    have hpi := pubSg_iff g1.symm g2.symm g3.symm
    have z1 := pubSg_len w4.ok
    have z2 := pubSg_len wC.ok
    have hT5 := hT4.push
    have hnx : (T.next c m).nx = BitVec.ofNat 32 (i + 1) := by show T.nx + 1#32 = _; rw [hI.nx]; exact f1
    have hns : (T.next c m).ns = S.ns := hI.ns
    have hll : (T.next c m).last.length = i + 1 := by show (T.last ++ [_]).length = _; rw [List.length_append, hI.ll]; rfl
    simp only [↓amD, amU, Nat.reduceBEq, Nat.reduceAdd, Nat.reduceSub, Nat.reduceMul, Nat.reduceMod, Nat.reducePow, Nat.reduceLT, Nat.reduceDiv, Int.reduceToNat, BitVec.reduceToNat, zipEnv, Int.reduceLE, Int.reduceLT, Int.reduceNeg, BitVec.reduceEq, Int.reduceAdd, Int.reduceSub, Int.reduceMul, Nat.reduceLeDiff, Int.reduceEq, amR, hw, Bool.not_true, H.pub, kPA, H.ver]
    refine Eq.mpr (kVerify _ _ _ _ _ (pubSg ((T.next c m).v (L.next d4))) m (sigF (Z.v LC) (BitVec.ofNat 32 i) c m) (BsIn.own (by rw [lv_appk]; rfl) _ z1.symm) (BsIn.own (K4 _) _ rfl) (BsIn.own (by rw [lv_appk]; rfl) _ l3'.symm) (by omega) (by omega) (by omega)) ?_
    rw [hv]
    obtain ⟨v, b, ev, ed, hvb⟩ : ∃ (v : Int) (b : Bool), (if (Z.v LC).ns.getD 1 [] = ((T.next c m).v (L.next d4)).ns.getD 1 [] then (0 : Int) else 5) = v ∧ decide (pubSg (Z.v LC) = pubSg ((T.next c m).v (L.next d4))) = b ∧ (v = 0 ∧ b = true ∨ v = 5 ∧ b = false) := by
      refine ⟨_, _, rfl, rfl, ?_⟩
      by_cases cr : (Z.v LC).ns.getD 1 [] = ((T.next c m).v (L.next d4)).ns.getD 1 []
      · exact .inl ⟨if_pos cr, decide_eq_true (hpi.2 cr)⟩
      · exact .inr ⟨if_neg cr, decide_eq_false fun h => cr (hpi.1 h)⟩
    rw [ev]
    rcases hvb with ⟨rfl, rfl⟩ | ⟨rfl, rfl⟩
    all_goals
      simp only [↓amD, amU, Nat.reduceBEq, Nat.reduceAdd, Nat.reduceSub, Nat.reduceMul, Nat.reduceMod, Nat.reducePow, Nat.reduceLT, Nat.reduceDiv, Int.reduceToNat, BitVec.reduceToNat, zipEnv, Int.reduceLE, Int.reduceLT, Int.reduceNeg, BitVec.reduceEq, Int.reduceAdd, Int.reduceSub, Int.reduceMul, Nat.reduceLeDiff, Int.reduceEq, amR, hw, H.pub, kPA, kPC, H.same]
      refine Eq.mpr (kSame _ _ _ _ (pubSg (Z.v LC)) (pubSg ((T.next c m).v (L.next d4))) (BsIn.own (by rw [lv_appk]; rfl) _ z2.symm) (BsIn.own (by rw [lv_appk]; rfl) _ z1.symm) (by omega) (by omega)) ?_
      rw [ed]
      simp only [↓amD, amU, Nat.reduceBEq, Nat.reduceAdd, Nat.reduceSub, Nat.reduceMul, Nat.reduceMod, Nat.reducePow, Nat.reduceLT, Nat.reduceDiv, Int.reduceToNat, BitVec.reduceToNat, zipEnv, Int.reduceLE, Int.reduceLT, Int.reduceNeg, BitVec.reduceEq, Int.reduceAdd, Int.reduceSub, Int.reduceMul, Nat.reduceLeDiff, Int.reduceEq, amR, hw, f1, beq_self_eq_true]
      exact hR _ _ ⟨by simp only [has, ↓amD, amU, Nat.reduceBEq, Nat.reduceAdd, Nat.reduceSub, Nat.reduceMul, Nat.reduceMod, Nat.reducePow, Nat.reduceLT, Nat.reduceDiv, Int.reduceToNat, BitVec.reduceToNat, zipEnv, Int.reduceLE, Int.reduceLT, Int.reduceNeg, BitVec.reduceEq, Int.reduceAdd, Int.reduceSub, Int.reduceMul, Nat.reduceLeDiff, Int.reduceEq, hw], ⟨L.next d4, T.next c m, hT5 _, hI.r, hI.nr, hI.ms, hI.mt, hnx, w4, hI.t, hI.o, hI.id, hI.seed, hns, hll⟩, jB4.push _, jC4.push _, K3 _, K4 _⟩
  · rintro env rs ⟨hw, ⟨L, T, hI⟩, jB, jC, j3, j4⟩ R
    simp only [has] at hw
    have f0 : (BitVec.ofNat 32 2 < 2#32) = False := eq_false (by decide)
    have hlT : lvN (T.v L) = 2 := hI.w.lv.trans (by show hH T.t = 2; rw [hI.t]; exact h2)
    have rdT : RdIn rs (rdOf sgV) (.ptr SSig LA.r [0]) (T.v L) := by rw [← hI.r]; exact hI.g.rd
    have kT := fun k' => kLeftV rs k' _ _ rdT hI.w.ok
    have kB := fun k' => kLeftV rs k' _ _ jB.rd wB.ok
    have y1 : (lvN (T.v L) : Int) - ((T.v L).nx.toNat : Int) = 0 := by rw [hlT, show (T.v L).nx = 2#32 from hI.nx]; rfl
    have y2 : (lvN (S.v LB) : Int) - ((S.v LB).nx.toNat : Int) = 2 := by rw [hlB, show (S.v LB).nx = 0#32 from fx]; rfl
    rw [y1] at kT
    rw [y2] at kB
    simp only [↓amD, amU, Nat.reduceBEq, Nat.reduceAdd, Nat.reduceSub, Nat.reduceMul, Nat.reduceMod, Nat.reducePow, Nat.reduceLT, Nat.reduceDiv, Int.reduceToNat, BitVec.reduceToNat, zipEnv, Int.reduceLE, Int.reduceLT, Int.reduceNeg, BitVec.reduceEq, Int.reduceAdd, Int.reduceSub, Int.reduceMul, Nat.reduceLeDiff, Int.reduceEq, amR, hw, f0, H.lef, kT, kB]
  · simp only [has, ↓amD, amU, Nat.reduceBEq, Nat.reduceAdd, Nat.reduceSub, Nat.reduceMul, Nat.reduceMod, Nat.reducePow, Nat.reduceLT, Nat.reduceDiv, Int.reduceToNat, BitVec.reduceToNat, zipEnv, Int.reduceLE, Int.reduceLT, Int.reduceNeg, BitVec.reduceEq, Int.reduceAdd, Int.reduceSub, Int.reduceMul, Nat.reduceLeDiff, Int.reduceEq]
end Job
end Go.Am
namespace Go.Proofs.YtmhagenbelpnfaaDoor.same
open Go.Am Go.Am.Job Go.Am.F
open Go.ChangeShapes Go.WideShapes Go.ChangeAt Go.RowKit
set_option linter.unusedVariables false
set_option linter.unusedSimpArgs false
def K : TKs := .cons (.arr 16 (.int .u8)) (.cons (.arr 32 (.int .u8)) (.cons (.arr 32 (.int .u8)) (.cons (.arr 32 (.int .u8)) (.cons (.slice (.int .u8)) .nil))))
noncomputable def triT : TypeId := (Tryd.prog.globals[0]?.map (·.type)).getD 0
noncomputable def triE : TypeId := match Tryd.prog.underlying triT with | some (.array _ e) => e | _ => 0
noncomputable def triF : Array Field := match Tryd.prog.underlying triE with | some (.struct fs) => fs | _ => #[]
theorem own : ownKnob Tryd.prog.godebug = none := by kernel_rfl
theorem laid : laidOutB Tryd.prog = true := by kernel_rfl
theorem law (dd : List D) (h : DNs K dd) : afun CL 5 r_law06_LmsSame a_law06_LmsSame dd [] (fun d _ => d = .raw (.bool true)) := by
  rcases dd with _ | ⟨d0, _ | ⟨d1, _ | ⟨d2, _ | ⟨d3, _ | ⟨d4, _ | ⟨d5, l⟩⟩⟩⟩⟩⟩
  · exact h.elim
  · exact h.2.elim
  · exact h.2.2.elim
  · exact h.2.2.2.elim
  · exact h.2.2.2.2.elim
  · obtain ⟨h1, h2, h3, h4, h5, -⟩ := h
    obtain ⟨id, rfl, hid⟩ := dk_arr8 h1
    obtain ⟨seed, rfl, hsd⟩ := dk_arr8 h2
    obtain ⟨other, rfl, hot⟩ := dk_arr8 h3
    obtain ⟨c, rfl, hc⟩ := dk_arr8 h4
    obtain ⟨m, rfl, hm, -⟩ := dn_bs h5
    unfold maxLen at hm
    exact same_law CL CA C lwL id seed other c m hid hsd hot hc (by omega)
  · exact h.2.2.2.2.2.elim
theorem globs {W : World} (hL : laidMetH Tryd.prog Rows.lmsSameRow.laid W) (g : Nat) (d : D) (h : CL.glob g = some d) : LR noPl W (old W) (.cptr d) (.pointer (some ⟨g, 0, none⟩)) := by
  have hL' : laidMet Tryd.prog Rows.lmsSameRow.laid W := hL
  by_cases h0 : g = 1
  · subst h0
    have e : numsD .u32 firstZ = d := Option.some.inj ((CL_first : CL.glob 1 = some (numsD .u32 firstZ)).symm.trans h)
    subst e
    exact laid_glob (P := Tryd.prog) (t := (Tryd.prog.globals[1]?.map (·.type)).getD 0) (e := match Tryd.prog.underlying ((Tryd.prog.globals[1]?.map (·.type)).getD 0) with | some (.array _ e) => e | _ => 0) (n := firstZ.length) (name := (Rows.lmsSameRow.laid.getD 0 ("", .nil)).1) hL' (List.mem_of_getElem? (i := 0) rfl) (by kernel_rfl) (by kernel_rfl) (by kernel_rfl) (by kernel_rfl) (by kernel_rfl) (by kernel_rfl) (by decide)
  by_cases h1 : g = 2
  · subst h1
    have e : numsD .u32 roundsZ = d := Option.some.inj ((CL_rounds : CL.glob 2 = some (numsD .u32 roundsZ)).symm.trans h)
    subst e
    exact laid_glob (P := Tryd.prog) (t := (Tryd.prog.globals[2]?.map (·.type)).getD 0) (e := match Tryd.prog.underlying ((Tryd.prog.globals[2]?.map (·.type)).getD 0) with | some (.array _ e) => e | _ => 0) (n := roundsZ.length) (name := (Rows.lmsSameRow.laid.getD 1 ("", .nil)).1) hL' (List.mem_of_getElem? (i := 1) rfl) (by kernel_rfl) (by kernel_rfl) (by kernel_rfl) (by kernel_rfl) (by kernel_rfl) (by kernel_rfl) (by decide)
  by_cases h2 : g = 0
  · subst h2
    have e : D.agg (.ar typesZ.length SPar) (typesZ.map triD) = d := Option.some.inj ((CL_types : CL.glob 0 = some (D.agg (.ar typesZ.length SPar) (typesZ.map triD))).symm.trans h)
    subst e
    exact laid_triG (P := Tryd.prog) (t := triT) (e := triE) (n := typesZ.length) (fs := triF) (f0 := triF.toList.getD 0 default) (f1 := triF.toList.getD 1 default) (f2 := triF.toList.getD 2 default) (zs := typesZ) (name := (Rows.lmsSameRow.laid.getD 2 ("", .nil)).1) hL' (List.mem_of_getElem? (i := 2) rfl) (by kernel_rfl) (by kernel_rfl) (by kernel_rfl) (by kernel_rfl) (by kernel_rfl) (by kernel_rfl) (by kernel_rfl) (by kernel_rfl) (by kernel_rfl) (by kernel_rfl) (by kernel_rfl) (by kernel_rfl) (by kernel_rfl) (by kernel_rfl) (by kernel_rfl) (by kernel_rfl) (by decide)
  · exact absurd h (by rw [CL_glob_none g h2 h0 h1]; exact nofun)
def lay0 : Obj → Obj
  | .cells _ t frozen => .cells (firstZ.map fun z => Value.int .u32 z).toArray t frozen
  | o => o
def lay1 : Obj → Obj
  | .cells _ t frozen => .cells (roundsZ.map fun z => Value.int .u32 z).toArray t frozen
  | o => o
def lay2 : Obj → Obj
  | .cells _ t frozen => .cells (typesZ.flatMap fun z => [Value.int .i64 z.1, Value.int .i64 z.2.1, Value.int .i64 z.2.2]).toArray t frozen
  | o => o
noncomputable def laidWorld (os : Os) : World := { World.holding Tryd.prog os ⟨#[], #[], []⟩ with heap := ((((World.holding Tryd.prog os ⟨#[], #[], []⟩).heap.modify 1 lay0).modify 2 lay1).modify 0 lay2) }
theorem laid_met (os : Os) : laidMet Tryd.prog Rows.lmsSameRow.laid ((laidWorld os).forCall (fun _ _ => 0) ⟨#[], #[.agg (Array.replicate 16 (Value.int .u8 0)), .agg (Array.replicate 32 (Value.int .u8 0)), .agg (Array.replicate 32 (Value.int .u8 0)), .agg (Array.replicate 32 (Value.int .u8 0)), .slice none 0 0], []⟩).memory :=
  laidMet_of_run' 8 (by kernel_rfl) (by kernel_rfl)
theorem reads (os : Os) {H : Type} (enc : TypeId × Value → H) : ∃ places, DataW.whole enc Tryd.prog ((laidWorld os).forCall (fun _ _ => 0) ⟨#[], #[.agg (Array.replicate 16 (Value.int .u8 0)), .agg (Array.replicate 32 (Value.int .u8 0)), .agg (Array.replicate 32 (Value.int .u8 0)), .agg (Array.replicate 32 (Value.int .u8 0)), .slice none 0 0], []⟩).memory Tryd.f6.params.toList Rows.lmsSameSpec.vars false #[.agg (Array.replicate 16 (Value.int .u8 0)), .agg (Array.replicate 32 (Value.int .u8 0)), .agg (Array.replicate 32 (Value.int .u8 0)), .agg (Array.replicate 32 (Value.int .u8 0)), .slice none 0 0].toList 8 = some ([.agg (List.replicate 16 (.lit (.int .u8 0))), .agg (List.replicate 32 (.lit (.int .u8 0))), .agg (List.replicate 32 (.lit (.int .u8 0))), .agg (List.replicate 32 (.lit (.int .u8 0))), .nil], [], places) :=
  ⟨[], by kernel_rfl⟩
set_option maxRecDepth 100000 in
theorem lifted (os : Os) (started : os.Started) (H : Type) (enc : TypeId × Value → H) (F : Stop.Interp) :
    ReturnsInHanded {} Tryd.checked os 6 .any ((OpenSpec.ofChange Rows.lmsSameSpec).preRow enc Tryd.prog Tryd.f6 Rows.lmsSameRow.domain false Rows.lmsSameRow.laid) (((OpenSpec.ofChange Rows.lmsSameSpec).at F).post enc Tryd.prog Tryd.f6 false true false false) := by
  obtain ⟨places, hx⟩ := reads os enc
  refine returnsInHanded_of_row (C := Tryd.checked) (s := (OpenSpec.ofChange Rows.lmsSameSpec)) own started (by kernel_rfl) Tryd.func6
    (witness_row_at (enc := enc) (C := Tryd.checked) false (laidWorld os) #[.agg (Array.replicate 16 (Value.int .u8 0)), .agg (Array.replicate 32 (Value.int .u8 0)), .agg (Array.replicate 32 (Value.int .u8 0)), .agg (Array.replicate 32 (Value.int .u8 0)), .slice none 0 0] rfl (by kernel_rfl) (by kernel_rfl) (by kernel_rfl)
      (OpenSpec.preRow_of_cond 8 hx (by kernel_rfl) (fun k hk => by cases hk) (by kernel_rfl) (laid_met os))) ?_
  intro W base args ds gs before hval hW _ _ _ hL _ _
  exact row_law (m_law06_LmsSame CL ctxL) laid (n := 9) (ks := K) (tb := Tryd.f6.resultTypes.getD 0 0) (by kernel_rfl) (by kernel_rfl) rfl (by kernel_rfl) (by kernel_rfl) (fun ds h => by match ds, h with | [_, _, _, _, _], _ => rfl) (fun dd h _ => law dd h) hval hW (fun g d h => globs hL g d h)
theorem over : Rows.LmsSameSaid :=
  OpenClaim.holds_of_cond 6 Tryd.f6 rfl rfl rfl rfl rfl rfl rfl ⟨rfl, rfl, rfl, rfl, rfl⟩ rfl rfl rfl rfl rfl (by kernel_rfl) Tryd.func6 (by kernel_rfl)
    (of_decide_eq_true (by kernel_rfl)) (by unfold Func.isWrapper; first | (rw [if_pos (by decide +kernel)]; kernel_rfl) | (rw [if_neg (by decide +kernel)]; exact ⟨rfl, rfl⟩))
    (fun os started H enc _ F => by rw [OpenClaim.pre_eq_preRow]; exact lifted os started H enc F)
theorem plain (f : FuncId) (fn : Func) (hf : Tryd.pinned.checked.prog.funcNamed Rows.lmsSameRow.func = some f) (hfn : Tryd.pinned.checked.prog.funcs[f]? = some fn) :
    false = Tryd.pinned.checked.prog.looks [] ∧ ∀ (j : Nat) t, fn.params[j]? = some t → Tryd.pinned.checked.prog.wantsStandIn t = false := by
  obtain rfl : f = 6 := (Option.some.inj ((show Tryd.prog.funcNamed Rows.lmsSameRow.func = some 6 by kernel_rfl).symm.trans hf)).symm
  obtain rfl : fn = Tryd.f6 := (Option.some.inj (Tryd.func6.symm.trans hfn)).symm
  refine ⟨by kernel_rfl, fun j t ht => ?_⟩
  have hall : (Tryd.f6.params.toList.all fun t => !Tryd.prog.wantsStandIn t) = true := by kernel_rfl
  have := List.all_eq_true.1 hall t (by simpa using Array.mem_of_getElem? ht)
  exact (by simpa using this : Tryd.prog.wantsStandIn t = false)
theorem proved : Rows.LmsSameCardSaid :=
  Claim7.holds_tied_plain_at .later [] _ _ _ _ over (fun _ h => by cases h) (by kernel_rfl) (fun _ h => by cases h) lmsSame_row_tie rfl ⟨rfl, rfl⟩ (by kernel_rfl) rfl plain (by kernel_rfl)
end Go.Proofs.YtmhagenbelpnfaaDoor.same
