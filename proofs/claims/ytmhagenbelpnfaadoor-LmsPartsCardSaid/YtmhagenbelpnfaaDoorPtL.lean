/- 'LmsParts' returns true for every input: a proof of the given card; its condition: the listed package variables hold what the program's text lays (tied by the card). -/
import Derived.Test.YtmhagenbelpnfaaDoorPt24
import Derived.Test.YtmhagenbelpnfaaDoorCards
import Derived.Test.YtmhagenbelpnfaaDoorTie
import Derived.WalkKit
import Derived.ProofKit
import Derived.OpenShut
import Derived.Deep.DeepHandedRow
namespace Go.Am
set_option linter.unusedSimpArgs false
set_option linter.unusedVariables false
attribute [local congr] bnd_congr kCond_congr kGd_congr kPick_congr kCall_congr kIdx_congr kSlice_congr kLoop_congr cond_congr' aBin_congr aBounds_congr aApp_congr aCopy_congr kFn_congr
namespace Job
open Go.Am.F
set_option maxRecDepth 10000
noncomputable def fAwakeL : Fn
  | [], [] => some (.raw (.bool true), [])
  | _, _ => none
theorem kAwakeL (rows : Rows) (k : D → Rows → Prop) : kCall fAwakeL rows k [] = k (.raw (.bool true)) rows := by
  refine (kCall_val rfl (r := (.raw (.bool true), [])) rfl).trans ?_
  simp [shift, shiftRows]
theorem sd1_eq : (bs z32).set 0 (.raw (u8 1#8)) = bs seed1 := rfl
theorem id9_len : id9.length = 16 := rfl
theorem sd1_len : seed1.length = 32 := rfl
theorem id9_eq : (List.replicate 16 (D.raw (u8 0#8))).set 0 (.raw (u8 9#8)) = bs id9 := rfl
theorem Sgn.els {rows : Rows} {L : At4} {s : Sg} (h : Sgn rows L s) {q : Nat} {l : List D} (hq : live rows q = some ⟨L8, l⟩) : Else rows L s q :=
  ⟨(ne_sh h.a hq (by decide)).symm, (ne_sh h.n hq (by decide)).symm, (ne_sh h.m hq (by decide)).symm, (ne_sh h.t hq (by decide)).symm, own_neA h.l hq (by decide)⟩
theorem new_whole {R : Rows} {L : At4} {t o : BitVec 32} {id seed : List (BitVec 8)} (h : Sgn R L (sgNew t o id seed (nodesL o id seed (hH t)))) (ht : okH t.toNat = true) (h10 : hT t.toNat ≤ 10) (ho : okT o.toNat = true) (hid : id.length = 16) (hsd : seed.length = 32) : Whole ((sgNew t o id seed (nodesL o id seed (hH t))).v L) :=
  ⟨ht, h10, ho, hid, hsd, rfl, Sg.ld_noref h⟩
theorem next_whole {R' : Rows} {L : At4} {s : Sg} {d : D} {c m : List (BitVec 8)} (h : Whole (s.v L)) (h' : Sgn R' (L.next d) (s.next c m)) : Whole ((s.next c m).v (L.next d)) :=
  ⟨h.t, h.t10, h.o, h.id, h.sd, h.ns, Sg.ld_noref h'⟩
set_option maxHeartbeats 400000 in
theorem awakel_ok (C CT : Ctx) (hC : CtxOK C P) (hN : LmC CT) (hSg : LmS CT) (n1 : C.fn 24 = none) (r1 : C.fnr 24 = some (afun CT 4 r_lms_New a_lms_New)) (n2 : C.fn 29 = none) (r2 : C.fnr 29 = some (afun CT 3 r_lms_Signer_Sign a_lms_Signer_Sign))
    (h1 : C.fn 30 = some fLeft) (h2 : C.fn 17 = some fPublicK) (h3 : C.fn 19 = some fVerify) : Meets C.glob P 9 (Fn.run fAwakeL) := by
  refine fn_meets (m_law06_awake C hC) fun ds rows r h => ?_
  unfold fAwakeL at h
  split at h
  · cases h
    refine ⟨rfl, afun_mk rfl ?_⟩
    unfold a_law06_awake r_law06_awake
    simp only [z32_eq]
    simp only [↓amD, amU, Nat.reduceBEq, Nat.reduceAdd, Nat.reduceSub, Nat.reduceMul, Nat.reduceMod, Nat.reducePow, Nat.reduceLT, Nat.reduceDiv, Int.reduceToNat, BitVec.reduceToNat, zipEnv, Int.reduceLE, Int.reduceLT, Int.reduceNeg, BitVec.reduceEq, Int.reduceAdd, Int.reduceSub, Int.reduceMul, Nat.reduceLeDiff, Int.reduceEq, n1, r1, id9_eq, sd1_eq]
    have e1 : okH (3758096385#32).toNat = true := by decide
    have e2 : hT (3758096385#32).toNat ≤ 10 := by decide
    have e3 : okT (3#32).toNat = true := by decide
    refine newL_run CT hN (t := 3758096385#32) (o := 3#32) (id := id9) (seed := seed1) e1 e2 e3 id9_len sd1_len ?_
    intro R1 L hS hK hr hn hm ht hd
    have hw0 := new_whole hS e1 e2 e3 id9_len sd1_len
    have hs0 : AwS ((sgNew 3758096385#32 3#32 id9 seed1 (nodesL 3#32 id9 seed1 (hH 3758096385#32))).v L) := ⟨hw0, rfl, rfl, rfl, rfl⟩
    have hx0 : (sgNew 3758096385#32 3#32 id9 seed1 (nodesL 3#32 id9 seed1 (hH 3758096385#32))).nx = 0#32 := rfl
    have hl0 : (sgNew 3758096385#32 3#32 id9 seed1 (nodesL 3#32 id9 seed1 (hH 3758096385#32))).last = [] := rfl
    generalize sgNew 3758096385#32 3#32 id9 seed1 (nodesL 3#32 id9 seed1 (hH 3758096385#32)) = S0 at *
    clear hK hr hn hm ht
    have hH2 : hH S0.t = 2 := by have := hs0.t; rw [show S0.t = 3758096385#32 from this]; rfl
    have hlv0 : lvN (S0.v L) = 2 := hw0.lv.trans hH2
    have hso : okT S0.o.toNat = true := hw0.o
    have kL := fun k' => kLeftV R1 k' _ _ hS.rd hw0.ok
    have hle : ((lvN (S0.v L) : Int) - ((S0.v L).nx.toNat : Int)) = 2 := by
      rw [hlv0, show (S0.v L).nx = 0#32 from hx0]; rfl
    rw [hle] at kL
    simp only [↓amD, amU, Nat.reduceBEq, Nat.reduceAdd, Nat.reduceSub, Nat.reduceMul, Nat.reduceMod, Nat.reducePow, Nat.reduceLT, Nat.reduceDiv, Int.reduceToNat, BitVec.reduceToNat, zipEnv, Int.reduceLE, Int.reduceLT, Int.reduceNeg, BitVec.reduceEq, Int.reduceAdd, Int.reduceSub, Int.reduceMul, Nat.reduceLeDiff, Int.reduceEq, amR, h1, kL, n2, r2, z32_eq]
    refine sign_run CT hSg (L := L) (s := S0) (d := .sl L8 R1.length [] 0 1 true) (c := z32) (m := [97#8]) (hS.push _) hw0.ok hso rfl (.inr ⟨R1.length, true, rfl, by rw [lv_app0]; rfl⟩) (by decide) (by rw [hlv0, hx0]; decide) (by rw [hl0]; decide) ?_
    intro R2 d2 q2 hS2 hq2 hb2 hf2 hdl2 hln2
    have hw1 := next_whole hw0 hS2
    have hs1 : AwS ((S0.next z32 [97#8]).v (L.next d2)) := ⟨hw1, hs0.t, hs0.o, hs0.id, hs0.sd⟩
    have hx1 : (S0.next z32 [97#8]).nx = 1#32 := by show S0.nx + 1#32 = _; rw [hx0]; rfl
    have hl1 : (S0.next z32 [97#8]).last.length = 1 := by show (S0.last ++ [_]).length = 1; rw [hl0]; rfl
    have hlv1 : lvN ((S0.next z32 [97#8]).v (L.next d2)) = 2 := hw1.lv.trans hH2
    have hso1 : okT (S0.next z32 [97#8]).o.toNat = true := hw0.o
    have hsg1 : sigF (S0.v L) S0.nx z32 [97#8] = sigF ((S0.next z32 [97#8]).v (L.next d2)) 0#32 z32 [97#8] := by rw [hx0]; rfl
    have hL1 : 44 + 32 * pT S0.o.toNat + 32 * pathN (S0.v L) S0.nx.toNat = 2220 := by
      rw [hw0.pn (by rw [show hH (S0.v L).t = hH S0.t from rfl, hH2, hx0]; decide), show S0.o = 3#32 from hs0.o, hs0.t]
      rfl
    rw [hL1]
    simp only [↓amD, amU, Nat.reduceBEq, Nat.reduceAdd, Nat.reduceSub, Nat.reduceMul, Nat.reduceMod, Nat.reducePow, Nat.reduceLT, Nat.reduceDiv, Int.reduceToNat, BitVec.reduceToNat, zipEnv, Int.reduceLE, Int.reduceLT, Int.reduceNeg, BitVec.reduceEq, Int.reduceAdd, Int.reduceSub, Int.reduceMul, Nat.reduceLeDiff, Int.reduceEq, amR, n2, r2]
    refine sign_run CT hSg (L := L.next d2) (s := S0.next z32 [97#8]) (d := .sl L8 R2.length [] 0 1 true) (c := z32) (m := [98#8]) (hS2.push _) hw1.ok hso1 rfl (.inr ⟨R2.length, true, rfl, by rw [lv_app0]; rfl⟩) (by decide) (by rw [hlv1, hx1]; decide) (by rw [hl1]; decide) ?_
    intro R3 d3 q3 hS3 hq3 hb3 hf3 hdl3 hln3
    have hw2 := next_whole hw1 hS3
    have hL2 : 44 + 32 * pT (S0.next z32 [97#8]).o.toNat + 32 * pathN ((S0.next z32 [97#8]).v (L.next d2)) (S0.next z32 [97#8]).nx.toNat = 2220 := by
      rw [hw1.pn (by rw [show hH ((S0.next z32 [97#8]).v (L.next d2)).t = hH S0.t from rfl, hH2, hx1]; decide), show (S0.next z32 [97#8]).o = 3#32 from hs0.o, hs1.t]
      rfl
    rw [hL2]
    have hq23 := hf3 _ _ (live_push hq2) (Sgn.els (hS2.push _) (live_push hq2))
    have hs2 : AwS (((S0.next z32 [97#8]).next z32 [98#8]).v ((L.next d2).next d3)) := ⟨hw2, hs0.t, hs0.o, hs0.id, hs0.sd⟩
    have hx2 : ((S0.next z32 [97#8]).next z32 [98#8]).nx = 2#32 := by show S0.nx + 1#32 + 1#32 = _; rw [hx0]; rfl
    have hlv2 : lvN (((S0.next z32 [97#8]).next z32 [98#8]).v ((L.next d2).next d3)) = 2 := hw2.lv.trans hH2
    have hsg1 : sigF (S0.v L) S0.nx z32 [97#8] = sigF (((S0.next z32 [97#8]).next z32 [98#8]).v ((L.next d2).next d3)) 0#32 z32 [97#8] := by rw [hx0]; rfl
    have hsg2 : sigF ((S0.next z32 [97#8]).v (L.next d2)) (S0.next z32 [97#8]).nx z32 [98#8] = sigF (((S0.next z32 [97#8]).next z32 [98#8]).v ((L.next d2).next d3)) 1#32 z32 [98#8] := by rw [hx1]; rfl
    have hlen : ∀ q : BitVec 32, q.toNat < 2 → ∀ m, (sigF (((S0.next z32 [97#8]).next z32 [98#8]).v ((L.next d2).next d3)) q z32 m).length = 2220 := fun q hq m => by
      rw [sigF_len hw2.ok (by rw [hlv2]; exact hq) z32 m rfl, hw2.pn (by rw [show hH (((S0.next z32 [97#8]).next z32 [98#8]).v ((L.next d2).next d3)).t = hH S0.t from rfl, hH2]; exact hq), hs2.o, hs2.t]
      rfl
    rw [hsg1] at hq23
    rw [hsg2] at hq3
    clear hsg1 hsg2 hL1 hL2 hq2
    have hLr : ((L.next d2).next d3).r = L.r := rfl
    generalize (S0.next z32 [97#8]).next z32 [98#8] = S2 at *
    generalize (L.next d2).next d3 = L2 at *
    simp only [↓amD, amU, Nat.reduceBEq, Nat.reduceAdd, Nat.reduceSub, Nat.reduceMul, Nat.reduceMod, Nat.reducePow, Nat.reduceLT, Nat.reduceDiv, Int.reduceToNat, BitVec.reduceToNat, zipEnv, Int.reduceLE, Int.reduceLT, Int.reduceNeg, BitVec.reduceEq, Int.reduceAdd, Int.reduceSub, Int.reduceMul, Nat.reduceLeDiff, Int.reduceEq, amR, n2, r2]
    rw [← hLr]
    refine sign_none CT hSg (L := L2) (s := S2) (d := .sl L8 R3.length [] 0 1 true) (c := z32) (hS3.push _) hw2.ok rfl (by rw [hx2, hlv2]; rfl) ?_
    intro more
    have hS4 := (hS3.push [some ⟨L8, [.raw (u8 99#8)]⟩]).push more
    have q24 := live_app (live_app hq23 [some ⟨L8, [.raw (u8 99#8)]⟩]) more
    have q34 := live_app (live_app hq3 [some ⟨L8, [.raw (u8 99#8)]⟩]) more
    generalize (R3 ++ [some (⟨L8, [.raw (u8 99#8)]⟩ : Row)]) ++ more = R4 at *
    have kP0 := fun k' => kPublicV R4 k' _ _ hS4.rd hw2.ok
    have kP := fun L' k' => kPublicV (R4 ++ L') k' _ _ (hS4.push L').rd hw2.ok
    have hpl := pubSg_len hw2.ok
    have l2 := hlen 0#32 (by decide) [97#8]
    have l3 := hlen 1#32 (by decide) [98#8]
    have v1 : verE (pubSg (S2.v L2)) [97#8] (sigF (S2.v L2) 0#32 z32 [97#8]) = 0 := by
      rw [ver_own hw2 hw2 rfl rfl rfl (by rw [← hw2.lv, hlv2]; decide) z32 [97#8] rfl, if_pos rfl]
    have v2 : verE (pubSg (S2.v L2)) [98#8] (sigF (S2.v L2) 1#32 z32 [98#8]) = 0 := by
      rw [ver_own hw2 hw2 rfl rfl rfl (by rw [← hw2.lv, hlv2]; decide) z32 [98#8] rfl, if_pos rfl]
    have v3 := aw_other hs2
    generalize sigF (S2.v L2) 0#32 z32 [97#8] = A at *
    generalize sigF (S2.v L2) 1#32 z32 [98#8] = B at *
    generalize pubSg (S2.v L2) = PB at *
    simp only [↓amD, amU, Nat.reduceBEq, Nat.reduceAdd, Nat.reduceSub, Nat.reduceMul, Nat.reduceMod, Nat.reducePow, Nat.reduceLT, Nat.reduceDiv, Int.reduceToNat, BitVec.reduceToNat, zipEnv, Int.reduceLE, Int.reduceLT, Int.reduceNeg, BitVec.reduceEq, Int.reduceAdd, Int.reduceSub, Int.reduceMul, Nat.reduceLeDiff, Int.reduceEq, amR, h2, kP, kP0, h3]
    refine Eq.mpr (kVerify _ _ _ _ _ PB [97#8] A (BsIn.own (by rw [lv_app0]; rfl) _ hpl.symm) (BsIn.own (by rw [lv_appk]; rfl) _ rfl) (BsIn.own (live_app q24 _) _ l2.symm) (by omega) (by decide) (by omega)) ?_
    simp only [↓amD, amU, Nat.reduceBEq, Nat.reduceAdd, Nat.reduceSub, Nat.reduceMul, Nat.reduceMod, Nat.reducePow, Nat.reduceLT, Nat.reduceDiv, Int.reduceToNat, BitVec.reduceToNat, zipEnv, Int.reduceLE, Int.reduceLT, Int.reduceNeg, BitVec.reduceEq, Int.reduceAdd, Int.reduceSub, Int.reduceMul, Nat.reduceLeDiff, Int.reduceEq, amR, v1, h2, kP, h3]
    refine Eq.mpr (kVerify _ _ _ _ _ PB [98#8] B (BsIn.own (by rw [lv_appk]; rfl) _ hpl.symm) (BsIn.own (by rw [lv_appk]; rfl) _ rfl) (BsIn.own (live_app q34 _) _ l3.symm) (by omega) (by decide) (by omega)) ?_
    simp only [↓amD, amU, Nat.reduceBEq, Nat.reduceAdd, Nat.reduceSub, Nat.reduceMul, Nat.reduceMod, Nat.reducePow, Nat.reduceLT, Nat.reduceDiv, Int.reduceToNat, BitVec.reduceToNat, zipEnv, Int.reduceLE, Int.reduceLT, Int.reduceNeg, BitVec.reduceEq, Int.reduceAdd, Int.reduceSub, Int.reduceMul, Nat.reduceLeDiff, Int.reduceEq, amR, v2, h2, kP, h3]
    refine Eq.mpr (kVerify _ _ _ _ _ PB [97#8] B (BsIn.own (by rw [lv_appk]; rfl) _ hpl.symm) (BsIn.own (by rw [lv_appk]; rfl) _ rfl) (BsIn.own (live_app q34 _) _ l3.symm) (by omega) (by decide) (by omega)) ?_
    simp only [↓amD, amU, Nat.reduceBEq, Nat.reduceAdd, Nat.reduceSub, Nat.reduceMul, Nat.reduceMod, Nat.reducePow, Nat.reduceLT, Nat.reduceDiv, Int.reduceToNat, BitVec.reduceToNat, zipEnv, Int.reduceLE, Int.reduceLT, Int.reduceNeg, BitVec.reduceEq, Int.reduceAdd, Int.reduceSub, Int.reduceMul, Nat.reduceLeDiff, Int.reduceEq, amR, v3]
    exact .val _ rfl
  · cases h
structure LW (C CL CT : Ctx) : Prop where
  new : LmC CT
  sgn : LmS CT
  ln : CL.fn 24 = none
  lr : CL.fnr 24 = some (afun CT 4 r_lms_New a_lms_New)
  n1 : C.fn 24 = none
  r1 : C.fnr 24 = some (afun CT 4 r_lms_New a_lms_New)
  n2 : C.fn 29 = none
  r2 : C.fnr 29 = some (afun CT 3 r_lms_Signer_Sign a_lms_Signer_Sign)
  n3 : C.fn 10 = none
  r3 : C.fnr 10 = some (afun CL 4 r_law06_lay a_law06_lay)
  awake : C.fn 9 = some fAwakeL
  cut : C.fn 12 = some fCut
  same : C.fn 16 = some fSame
  join : C.fn 13 = some fJoin
  table : C.fn 31 = some fTable
  alld : C.fn 32 = some fAllD
  rmash : C.fn 33 = some fRMash
  kno : C.fn 34 = some fKnows
  las : C.fn 35 = some fLast0
  sid : C.fn 36 = some fSigned
  lef : C.fn 30 = some fLeft
  frc : C.fn 11 = some fForce
  pub : C.fn 17 = some fPublicK
  pat : C.fn 25 = some fPath
  ver : C.fn 19 = some fVerify
  roo : C.fn 18 = some fRoot
  par : C.fn 14 = some fParts
  cla : C.fn 21 = some fClaim
  opub : C.fn 26 = some fPublic
  clm : C.fn 22 = some fClimb
  rha : C.fn 23 = some fRHash
  lea : C.fn 27 = some fLeaf
  nod : C.fn 28 = some fNode
abbrev SSg : Sh := S1
def sgZ : D := .agg SSg [.raw (u32 0#32), .raw (.slice none 0 0), .raw (u32 0#32), .raw (.slice none 0 0)]
set_option maxHeartbeats 4000000 in
theorem rparts_run (C : Ctx) (h1 : C.fn 20 = some fValue) (h2 : C.fn 31 = some fTable) (h3 : C.fn 46 = some fRHeight) {rows : Rows} {r : Nat} {e : Bool} {p : List (BitVec 8)} (hr : live rows r = some ⟨L8, bs p⟩) (hp : p.length ≤ 1099511627776) {K : D → Rows → Prop}
    (hk0 : partsE p = 0 → ∀ rows' rp e1 e2, KeptL rows rows' → rows.length ≤ rp → live rows' rp = some ⟨.ar 32 L8, (pathS p (lhS p)).map d32D⟩ → K (.tup [.agg SSg [.raw (u32 (lqS p)), .sl L8 r [] 4 (36 + 32 * lpS p) e1, .raw (u32 (ltS p)), .sl (.ar 32 L8) rp [] 0 (lhS p) e2], .raw (it 0)]) rows')
    (hk1 : partsE p ≠ 0 → ∀ more, K (.tup [sgZ, .raw (it (partsE p))]) (rows ++ more)) :
    afun C 1 r_ref06_Parts a_ref06_Parts [.sl L8 r [] 0 p.length e] rows K := by
  refine afun_mk rfl ?_
  unfold a_ref06_Parts r_ref06_Parts
  unfold sgZ at hk1
  have fz : (D.agg SSg [.raw (u32 0#32), .raw (.slice none 0 0), .raw (u32 0#32), .raw (.slice none 0 0)]).fits SSg = true := rfl
  by_cases h8 : p.length < 8
  · have hE : partsE p = 2 := by unfold partsE; rw [if_pos h8]
    have c1 : ((p.length : Int) < 8) = True := eq_true (by omega)
    have hk := hk1 (by rw [hE]; decide)
    rw [hE] at hk
    simp only [↓amD, amU, Nat.reduceBEq, Nat.reduceAdd, Nat.reduceSub, Nat.reduceMul, Nat.reduceMod, Nat.reducePow, Nat.reduceLT, Nat.reduceDiv, Int.reduceToNat, BitVec.reduceToNat, zipEnv, Int.reduceLE, Int.reduceLT, Int.reduceNeg, BitVec.reduceEq, Int.reduceAdd, Int.reduceSub, Int.reduceMul, Nat.reduceLeDiff, Int.reduceEq, amR, c1, fz]
    exact hk _
  have c1 : ((p.length : Int) < 8) = False := eq_false (by omega)
  have hv4 : ∀ q : List (BitVec 8), 4 ≤ q.length → ∃ v : BitVec 64, (q.take 4).foldl (fun n b => 256#64 * n + b.setWidth 64) 0#64 = v ∧ v.setWidth 32 = numS q := fun q hq => ⟨_, rfl, val4 q hq⟩
  obtain ⟨vo, ho1, ho2⟩ := hv4 (p.drop 4) (by rw [List.length_drop]; omega)
  have hlo : numS (p.drop 4) = loS p := rfl
  rw [hlo] at ho2
  have kT := fun rows k => kTable rows k (loS p)
  have hlp : pT (loS p).toNat = lpS p := rfl
  rw [hlp] at kT
  simp only [↓amD, amU, Nat.reduceBEq, Nat.reduceAdd, Nat.reduceSub, Nat.reduceMul, Nat.reduceMod, Nat.reducePow, Nat.reduceLT, Nat.reduceDiv, Int.reduceToNat, BitVec.reduceToNat, zipEnv, Int.reduceLE, Int.reduceLT, Int.reduceNeg, BitVec.reduceEq, Int.reduceAdd, Int.reduceSub, Int.reduceMul, Nat.reduceLeDiff, Int.reduceEq, amR, c1, fz, h1]
  refine ⟨by omega, Eq.mpr (kValue _ _ _ ((p.drop 4).take 4) (BsIn.sub (live_app hr _) (by omega)) (by rw [List.length_take]; omega)) ?_⟩
  rw [ho1]
  cases hoT : okT (loS p).toNat
  · have hw : wT (loS p).toNat = 0 := by
      unfold okT at hoT
      unfold wT
      simp only [Bool.and_eq_false_iff, decide_eq_false_iff_not] at hoT
      rw [if_neg (by omega), if_neg (by omega), if_neg (by omega), if_neg (by omega)]
    have hE : partsE p = 6 := by unfold partsE; rw [if_neg h8, if_pos hoT]
    have hk := hk1 (by rw [hE]; decide)
    rw [hE] at hk
    simp only [↓amD, amU, Nat.reduceBEq, Nat.reduceAdd, Nat.reduceSub, Nat.reduceMul, Nat.reduceMod, Nat.reducePow, Nat.reduceLT, Nat.reduceDiv, Int.reduceToNat, BitVec.reduceToNat, zipEnv, Int.reduceLE, Int.reduceLT, Int.reduceNeg, BitVec.reduceEq, Int.reduceAdd, Int.reduceSub, Int.reduceMul, Nat.reduceLeDiff, Int.reduceEq, amR, ho2, h2, kT, hw, fz]
    exact hk _
  have hpo := parT_ok hoT
  have hw : ((wT (loS p).toNat : Int) = 0) = False := eq_false (by
    have : wT (loS p).toNat = 1 ∨ wT (loS p).toNat = 2 ∨ wT (loS p).toNat = 4 ∨ wT (loS p).toNat = 8 := w4_eq.1 hpo.1
    omega)
  have hlp2 : lpS p ≤ 265 := hpo.2.2.1
  have z1 : wz (32 * (lpS p : Int)) = ((32 * lpS p : Nat) : Int) := by rw [wz_id (by omega)]; omega
  have z2 : wz (40 + ((32 * lpS p : Nat) : Int)) = ((40 + 32 * lpS p : Nat) : Int) := by rw [wz_id (by omega)]; omega
  have z3 : wz (((40 + 32 * lpS p : Nat) : Int) + 4) = ((44 + 32 * lpS p : Nat) : Int) := by rw [wz_id (by omega)]; omega
  by_cases h3' : p.length < 44 + 32 * lpS p
  · have hE : partsE p = 2 := by unfold partsE; rw [if_neg h8, if_neg (by rw [hoT]; decide), if_pos h3']
    have c2 : ((p.length : Int) < ((44 + 32 * lpS p : Nat) : Int)) = True := eq_true (by omega)
    have hk := hk1 (by rw [hE]; decide)
    rw [hE] at hk
    simp only [↓amD, amU, Nat.reduceBEq, Nat.reduceAdd, Nat.reduceSub, Nat.reduceMul, Nat.reduceMod, Nat.reducePow, Nat.reduceLT, Nat.reduceDiv, Int.reduceToNat, BitVec.reduceToNat, zipEnv, Int.reduceLE, Int.reduceLT, Int.reduceNeg, BitVec.reduceEq, Int.reduceAdd, Int.reduceSub, Int.reduceMul, Nat.reduceLeDiff, Int.reduceEq, amR, ho2, h2, kT, hw, fz, z1, z2, z3, c2]
    exact hk _
  have c2 : ((p.length : Int) < ((44 + 32 * lpS p : Nat) : Int)) = False := eq_false (by omega)
  obtain ⟨vq, hq1, hq2⟩ := hv4 p (by omega)
  obtain ⟨vt, ht1, ht2⟩ := hv4 (p.drop (40 + 32 * lpS p)) (by rw [List.length_drop]; omega)
  have hlq : numS p = lqS p := rfl
  have hlt : numS (p.drop (40 + 32 * lpS p)) = ltS p := rfl
  rw [hlq] at hq2
  rw [hlt] at ht2
  simp only [↓amD, amU, Nat.reduceBEq, Nat.reduceAdd, Nat.reduceSub, Nat.reduceMul, Nat.reduceMod, Nat.reducePow, Nat.reduceLT, Nat.reduceDiv, Int.reduceToNat, BitVec.reduceToNat, zipEnv, Int.reduceLE, Int.reduceLT, Int.reduceNeg, BitVec.reduceEq, Int.reduceAdd, Int.reduceSub, Int.reduceMul, Nat.reduceLeDiff, Int.reduceEq, amR, ho2, h2, kT, hw, fz, z1, z2, z3, c2, h1]
  refine ⟨by omega, Eq.mpr (kValue _ _ _ (p.take 4) (by have := BsIn.sub (off := 0) (len := 4) (ex := exOf none 4 p.length p.length e) (live_app hr [some ⟨SSg, [.agg SSg [.raw (u32 0#32), .raw (.slice none 0 0), .raw (u32 0#32), .raw (.slice none 0 0)]]⟩]) (by omega); rw [List.drop_zero] at this; exact this) (by rw [List.length_take]; omega)) ?_⟩
  rw [hq1]
  simp only [↓amD, amU, Nat.reduceBEq, Nat.reduceAdd, Nat.reduceSub, Nat.reduceMul, Nat.reduceMod, Nat.reducePow, Nat.reduceLT, Nat.reduceDiv, Int.reduceToNat, BitVec.reduceToNat, zipEnv, Int.reduceLE, Int.reduceLT, Int.reduceNeg, BitVec.reduceEq, Int.reduceAdd, Int.reduceSub, Int.reduceMul, Nat.reduceLeDiff, Int.reduceEq, amR, hq2, fz, z1, z2, z3, h1]
  refine ⟨by omega, by omega, by omega, by omega, by omega, ?_⟩
  have n1 : 44 + 32 * lpS p - (40 + 32 * lpS p) = 4 := by omega
  have n2 : 40 + 32 * lpS p - 4 = 36 + 32 * lpS p := by omega
  simp only [Int.toNat_natCast, n1, n2]
  refine Eq.mpr (kValue _ _ _ ((p.drop (40 + 32 * lpS p)).take 4) (BsIn.sub (live_app hr _) (by omega)) (by rw [List.length_take]; omega)) ?_
  rw [ht1]
  have kH := fun rows k => kRHeight rows k (ltS p)
  have hlh : hT (ltS p).toNat = lhS p := rfl
  rw [hlh] at kH
  have hlh2 : lhS p ≤ 25 := hT_le _
  simp only [↓amD, amU, Nat.reduceBEq, Nat.reduceAdd, Nat.reduceSub, Nat.reduceMul, Nat.reduceMod, Nat.reducePow, Nat.reduceLT, Nat.reduceDiv, Int.reduceToNat, BitVec.reduceToNat, zipEnv, Int.reduceLE, Int.reduceLT, Int.reduceNeg, BitVec.reduceEq, Int.reduceAdd, Int.reduceSub, Int.reduceMul, Nat.reduceLeDiff, Int.reduceEq, amR, ht2, fz, h3, kH]
  have b0 : ∀ n : Nat, ((0 : Int) ≤ (n : Int)) = True := fun n => eq_true (by omega)
  cases hh : okH (ltS p).toNat
  · have hz : lhS p = 0 := by
      show hT (ltS p).toNat = 0
      simp only [okH, decide_eq_false_iff_not] at hh
      unfold hT; split
      · omega
      · split <;> omega
    have hE : partsE p = 6 := by unfold partsE; rw [if_neg h8, if_neg (by rw [hoT]; decide), if_neg h3', if_pos hh]
    have hk := hk1 (by rw [hE]; decide)
    rw [hE] at hk
    have c3 : ((lhS p : Int) = 0) = True := eq_true (by omega)
    simp only [↓amD, amU, Nat.reduceBEq, Nat.reduceAdd, Nat.reduceSub, Nat.reduceMul, Nat.reduceMod, Nat.reducePow, Nat.reduceLT, Nat.reduceDiv, Int.reduceToNat, BitVec.reduceToNat, zipEnv, Int.reduceLE, Int.reduceLT, Int.reduceNeg, BitVec.reduceEq, Int.reduceAdd, Int.reduceSub, Int.reduceMul, Nat.reduceLeDiff, Int.reduceEq, amR, c3, fz]
    exact hk _
  have hh1 : 1 ≤ lhS p := okH_pos hh
  have c3 : ((lhS p : Int) = 0) = False := eq_false (by omega)
  have z4 : wz (32 * (lhS p : Int)) = ((32 * lhS p : Nat) : Int) := by rw [wz_id (by omega)]; omega
  have z5 : wz (((44 + 32 * lpS p : Nat) : Int) + ((32 * lhS p : Nat) : Int)) = ((44 + (32 * lpS p + 32 * lhS p) : Nat) : Int) := by rw [wz_id (by omega)]; omega
  by_cases hn : p.length = 44 + 32 * lpS p + 32 * lhS p
  rotate_left
  · have hE : partsE p = 2 := by unfold partsE; rw [if_neg h8, if_neg (by rw [hoT]; decide), if_neg h3', if_neg (by rw [hh]; decide), if_pos (.inl hn)]
    have hk := hk1 (by rw [hE]; decide)
    rw [hE] at hk
    have c4 : ((p.length : Int) = ((44 + (32 * lpS p + 32 * lhS p) : Nat) : Int)) = False := eq_false (by omega)
    simp only [↓amD, amU, Nat.reduceBEq, Nat.reduceAdd, Nat.reduceSub, Nat.reduceMul, Nat.reduceMod, Nat.reducePow, Nat.reduceLT, Nat.reduceDiv, Int.reduceToNat, BitVec.reduceToNat, zipEnv, Int.reduceLE, Int.reduceLT, Int.reduceNeg, BitVec.reduceEq, Int.reduceAdd, Int.reduceSub, Int.reduceMul, Nat.reduceLeDiff, Int.reduceEq, amR, c3, c4, z3, z4, z5, fz, b0]
    exact hk _
  have c4 : ((p.length : Int) = ((44 + (32 * lpS p + 32 * lhS p) : Nat) : Int)) = True := eq_true (by omega)
  simp only [↓amD, amU, Nat.reduceBEq, Nat.reduceAdd, Nat.reduceSub, Nat.reduceMul, Nat.reduceMod, Nat.reducePow, Nat.reduceLT, Nat.reduceDiv, Int.reduceToNat, BitVec.reduceToNat, zipEnv, Int.reduceLE, Int.reduceLT, Int.reduceNeg, BitVec.reduceEq, Int.reduceAdd, Int.reduceSub, Int.reduceMul, Nat.reduceLeDiff, Int.reduceEq, amR, c3, c4, z3, z4, z5, fz, b0]
  have cqE : ((1#64 <<< lhS p ≤ (lqS p).setWidth 64)) = (¬ (lqS p).toNat >>> lhS p = 0) := by
    have hq := (lqS p).isLt
    have h2 : 2 ^ lhS p ≤ 2 ^ 25 := Nat.pow_le_pow_right (by decide) hlh2
    have e1 : (1#64 <<< lhS p).toNat = 2 ^ lhS p := by
      rw [BitVec.toNat_shiftLeft, Nat.shiftLeft_eq]
      show 1 * 2 ^ lhS p % 18446744073709551616 = _
      omega
    have e2 : ((lqS p).setWidth 64).toNat = (lqS p).toNat := by rw [BitVec.toNat_setWidth]; omega
    apply propext
    rw [BitVec.le_def, e1, e2, Nat.shiftRight_eq_div_pow, Nat.div_eq_zero_iff]
    have := Nat.two_pow_pos (lhS p)
    omega
  by_cases cq : (lqS p).toNat >>> lhS p = 0
  rotate_left
  · have hE : partsE p = 2 := by unfold partsE; rw [if_neg h8, if_neg (by rw [hoT]; decide), if_neg h3', if_neg (by rw [hh]; decide), if_pos (.inr cq)]
    have hk := hk1 (by rw [hE]; decide)
    rw [hE] at hk
    have c5 : ((1#64 <<< lhS p ≤ (lqS p).setWidth 64)) = True := eq_true (by rw [cqE]; exact cq)
    simp only [↓amD, amU, Nat.reduceBEq, Nat.reduceAdd, Nat.reduceSub, Nat.reduceMul, Nat.reduceMod, Nat.reducePow, Nat.reduceLT, Nat.reduceDiv, Int.reduceToNat, BitVec.reduceToNat, zipEnv, Int.reduceLE, Int.reduceLT, Int.reduceNeg, BitVec.reduceEq, Int.reduceAdd, Int.reduceSub, Int.reduceMul, Nat.reduceLeDiff, Int.reduceEq, amR, c5, fz, b0]
    exact hk _
  have hE : partsE p = 0 := by unfold partsE; rw [if_neg h8, if_neg (by rw [hoT]; decide), if_neg h3', if_neg (by rw [hh]; decide), if_neg (by omega)]
  have c5 : ((1#64 <<< lhS p ≤ (lqS p).setWidth 64)) = False := eq_false (by rw [cqE]; exact not_not_intro cq)
  have hk := hk0 hE
  simp only [↓amD, amU, Nat.reduceBEq, Nat.reduceAdd, Nat.reduceSub, Nat.reduceMul, Nat.reduceMod, Nat.reducePow, Nat.reduceLT, Nat.reduceDiv, Int.reduceToNat, BitVec.reduceToNat, zipEnv, Int.reduceLE, Int.reduceLT, Int.reduceNeg, BitVec.reduceEq, Int.reduceAdd, Int.reduceSub, Int.reduceMul, Nat.reduceLeDiff, Int.reduceEq, amR, c5, fz, b0]
  have hds : ∀ i, (pathS p i).map d32D ++ [.agg (.ar 32 L8) (bs (pcS p i))] = (pathS p (i + 1)).map d32D := fun i => by simp [pathS, List.range_succ, d32D]
  have hdl : ∀ i, (pathS p i).length = i := fun i => by simp [pathS]
  have hcl : ∀ i, i < lhS p → (pcS p i).length = 32 := fun i hi => by rw [pcS, List.length_take, List.length_drop]; omega
  generalize exOf none (40 + 32 * lpS p) (40 + 32 * lpS p) p.length e = ee at *
  refine kLoop_up (lhS p) (fun i env rs => has env [(9, .raw (it (lhS p : Int))), (7, .raw (it ((40 + 32 * lpS p : Nat) : Int))), (0, .sl L8 r [] 0 p.length e), (8, .ptr SSg (rows.length + 1) [0]), (2, .ptr SSg rows.length [0]), (10, .raw (it (i : Int)))] ∧
    KeptL rows rs ∧ live rs rows.length = some ⟨SSg, [.agg SSg [.raw (u32 0#32), .raw (.slice none 0 0), .raw (u32 0#32), .raw (.slice none 0 0)]]⟩ ∧ ∃ d', live rs (rows.length + 1) = some ⟨SSg, [.agg SSg [.raw (u32 (lqS p)), .sl L8 r [] 4 (36 + 32 * lpS p) ee, .raw (u32 (ltS p)), d']]⟩ ∧ Own (.ar 32 L8) d' rs ((pathS p i).map d32D) ∧ (∀ r ex n, d' = .sl (.ar 32 L8) r [] 0 n ex → rows.length + 2 ≤ r)) ?_ ?_ ⟨?_, KeptL.app _ _, by rw [lv_app0]; rfl, .raw (.slice none 0 0), by rw [lv_appk]; rfl, .inl ⟨rfl, rfl⟩, fun r ex n h => by cases h⟩
  · rintro i hi env rs ⟨hw, hK, r0, d', r1, hO, hne⟩ R hR
    simp only [has] at hw
    have g0 : ((i : Int) < (lhS p : Int)) = True := eq_true (by omega)
    have y1 : wz (32 * (i : Int)) = ((32 * i : Nat) : Int) := by rw [wz_id (by omega)]; omega
    have y2 : wz (((44 + 32 * lpS p : Nat) : Int) + ((32 * i : Nat) : Int)) = ((44 + 32 * lpS p + 32 * i : Nat) : Int) := by rw [wz_id (by omega)]; omega
    have y3 : wz (((40 + 32 * lpS p : Nat) : Int) + 36) = ((76 + 32 * lpS p : Nat) : Int) := by rw [wz_id (by omega)]; omega
    have y4 : wz (((76 + 32 * lpS p : Nat) : Int) + ((32 * i : Nat) : Int)) = ((76 + 32 * lpS p + 32 * i : Nat) : Int) := by rw [wz_id (by omega)]; omega
    have y5 := wz_succ i (by omega)
    have rr := hK _ _ hr
    have tk : List.take 32 (List.drop (44 + 32 * lpS p + 32 * i) (bs p)) = bs (pcS p i) := by rw [bs_drop, bs_take]; rfl
    have hl32 := hcl i hi
    have lt1 := live_lt r1
    simp only [↓amD, amU, Nat.reduceBEq, Nat.reduceAdd, Nat.reduceSub, Nat.reduceMul, Nat.reduceMod, Nat.reducePow, Nat.reduceLT, Nat.reduceDiv, Int.reduceToNat, BitVec.reduceToNat, zipEnv, Int.reduceLE, Int.reduceLT, Int.reduceNeg, BitVec.reduceEq, Int.reduceAdd, Int.reduceSub, Int.reduceMul, Nat.reduceLeDiff, Int.reduceEq, hw, g0, r0, r1, z3, y1, y2, y3, y4, y5, rr, b0, tk]
    refine ⟨by omega, by omega, by omega, by rw [bs_len, hl32], ?_⟩
    refine app_ownA hO.push (by rw [List.length_map, hdl]; simp [most]; omega) (by rw [List.length_map, hdl]; simp [most]; omega) fun rows' hl' hfr hlen' => ?_
    rw [hds] at hl'
    have r1' := hfr _ _ (live_push r1) (fun ex n e => by have := hne _ _ _ e; omega)
    have r0' := hfr _ _ (live_push r0) (fun ex n e => by have := hne _ _ _ e; omega)
    have hK' : KeptL rows rows' := fun q row hq => hfr q row (live_push (hK q row hq)) (fun ex n e => by have := hne _ _ _ e; have := live_lt hq; omega)
    have hlg : ∀ A : Row, (rs ++ [some A]).length = rs.length + 1 := fun A => by simp
    rw [hlg] at hl'
    simp only [↓amD, amU, Nat.reduceBEq, Nat.reduceAdd, Nat.reduceSub, Nat.reduceMul, Nat.reduceMod, Nat.reducePow, Nat.reduceLT, Nat.reduceDiv, Int.reduceToNat, BitVec.reduceToNat, zipEnv, Int.reduceLE, Int.reduceLT, Int.reduceNeg, BitVec.reduceEq, Int.reduceAdd, Int.reduceSub, Int.reduceMul, Nat.reduceLeDiff, Int.reduceEq, hw, r1', y5, hlg]
    exact hR _ _ ⟨by simp only [has, ↓amD, amU, Nat.reduceBEq, Nat.reduceAdd, Nat.reduceSub, Nat.reduceMul, Nat.reduceMod, Nat.reducePow, Nat.reduceLT, Nat.reduceDiv, Int.reduceToNat, BitVec.reduceToNat, zipEnv, Int.reduceLE, Int.reduceLT, Int.reduceNeg, BitVec.reduceEq, Int.reduceAdd, Int.reduceSub, Int.reduceMul, Nat.reduceLeDiff, Int.reduceEq, hw], hK'.set (by omega) _, by rw [live_set_ne (by omega)]; exact r0', _, live_set_eq r1', .inr ⟨rs.length + 1, false, by rw [List.length_map, hdl, hdl], by rw [live_set_ne (by omega)]; exact hl'⟩, fun r ex n e => by injection e with _ e; omega⟩
  · rintro env rs ⟨hw, hK, r0, d', r1, hO, hne⟩ R
    simp only [has] at hw
    have g0 : ((lhS p : Int) < (lhS p : Int)) = False := eq_false (by omega)
    have w0 := fun y => live_set_eq (y := y) r0
    rcases hO with ⟨h, _⟩ | ⟨rp, ex1, rfl, hlv⟩
    · have := congrArg List.length h
      rw [List.length_map, hdl, List.length_nil] at this
      omega
    · have hge := hne _ _ _ rfl
      rw [List.length_map, hdl] at r1
      simp only [↓amD, amU, Nat.reduceBEq, Nat.reduceAdd, Nat.reduceSub, Nat.reduceMul, Nat.reduceMod, Nat.reducePow, Nat.reduceLT, Nat.reduceDiv, Int.reduceToNat, BitVec.reduceToNat, zipEnv, Int.reduceLE, Int.reduceLT, Int.reduceNeg, BitVec.reduceEq, Int.reduceAdd, Int.reduceSub, Int.reduceMul, Nat.reduceLeDiff, Int.reduceEq, hw, g0, r0, r1, w0]
      exact hk _ rp ee ex1 (hK.set (Nat.le_refl _) _) (by omega) (by rw [live_set_ne (by omega)]; exact hlv)
  · simp only [has, ↓amD, amU, Nat.reduceBEq, Nat.reduceAdd, Nat.reduceSub, Nat.reduceMul, Nat.reduceMod, Nat.reducePow, Nat.reduceLT, Nat.reduceDiv, Int.reduceToNat, BitVec.reduceToNat, zipEnv, Int.reduceLE, Int.reduceLT, Int.reduceNeg, BitVec.reduceEq, Int.reduceAdd, Int.reduceSub, Int.reduceMul, Nat.reduceLeDiff, Int.reduceEq]
structure LP (C CL CT CP : Ctx) : Prop where
  w : LW C CL CT
  n4 : C.fn 15 = none
  r4 : C.fnr 15 = some (afun CP 1 r_ref06_Parts a_ref06_Parts)
  val : CP.fn 20 = some fValue
  tab : CP.fn 31 = some fTable
  hei : CP.fn 46 = some fRHeight
end Job
end Go.Am
namespace Go.Am
namespace Job
open Go.Am.F
set_option linter.unusedVariables false
set_option linter.unusedSimpArgs false
set_option maxRecDepth 100000
def typesZ : List (Int × Int × Int) := [(1, 265, 7), (2, 133, 6), (4, 67, 4), (8, 34, 0)]
def G0 : Nat → Option D := fun g => if g = 0 then some typesD else if g = 1 then some (h8D firstL) else if g = 2 then some (w64D roundsL) else none
noncomputable def T0 : List (Nat × Fn) := [(35, fLast0), (36, fSigned), (34, fKnows), (11, fForce), (25, fPath), (17, fPublicK), (30, fLeft), (39, fSite), (37, fLeaves), (22, fClimb), (46, fRHeight), (23, fRHash), (28, fNode), (27, fLeaf), (57, fHash), (40, fFour), (41, fNoneP), (47, fReadK), (45, fHeight), (44, fLNum), (16, fSame), (32, fAllD), (58, fRDig), (59, fBits), (21, fClaim), (48, fSplit), (38, fSign), (26, fPublic), (49, fDigits), (61, fCoef), (52, fEnd), (31, fTable), (43, fParams), (53, fFold), (33, fRMash), (50, fMash), (51, fChain), (56, fSecret), (66, fStep), (63, fFront), (60, fFour), (62, fTwo), (65, fStSum), (64, fFeed), (68, fNew), (71, fPad), (70, fDigest), (54, fRSum), (67, fPressR), (69, fPress), (74, fSpread), (13, fJoin), (55, fNumS), (12, fCut), (20, fValue), (73, fRoots), (72, fTurn), (76, fWord), (75, fRot)]
noncomputable def C : Ctx := ⟨G0, fnTab T0, fun _ => none⟩
theorem G0_none (g : Nat) (h : ¬ g = 0) (h0 : ¬ g = 1) (h1 : ¬ g = 2) : G0 g = none := by
  unfold G0
  rw [if_neg h, if_neg h0, if_neg h1]
def firstZ : List Int := firstL.map fun x => (x.toNat : Int)
def roundsZ : List Int := roundsL.map fun x => (x.toNat : Int)
theorem ctx : CtxOK C P := by
  have c0 := ctx_nil (G := G0) (P := P)
  have c1 := ctx_cons (rot_ok _ c0) c0
  have c2 := ctx_cons (word_ok _ c1) c1
  have c3 := ctx_cons (turn_ok _ c2) c2
  have c4 := ctx_cons (roots_ok _ c3) c3
  have c5 := ctx_cons (value_ok _ c4) c4
  have c6 := ctx_cons (cut_ok _ c5) c5
  have c7 := ctx_cons (num_sl _ c6) c6
  have c8 := ctx_cons (join_ok _ c7) c7
  have c9 := ctx_cons (spread_ok _ c8 rfl rfl) c8
  have c10 := ctx_cons (press_ok _ c9 rfl rfl rfl) c9
  have c11 := ctx_cons (pressR_ok _ c10 rfl rfl rfl) c10
  have c12 := ctx_cons (rsum_ok _ c11 rfl rfl rfl) c11
  have c13 := ctx_cons (digest_ok _ c12) c12
  have c14 := ctx_cons (pad_ok _ c13) c13
  have c15 := ctx_cons (new_ok _ c14 rfl) c14
  have c16 := ctx_cons (feed_meets _ c15 rfl) c15
  have c17 := ctx_cons (stsum_ok _ c16 rfl rfl rfl) c16
  have c18 := ctx_cons (two_ok _ c17) c17
  have c19 := ctx_cons (four_ok _ c18) c18
  have c20 := ctx_cons (front_ok _ c19 rfl rfl rfl) c19
  have c21 := ctx_cons (step_ok _ c20 rfl rfl rfl rfl) c20
  have c22 := ctx_cons (secret_ok _ c21 rfl) c21
  have c23 := ctx_cons (chain_ok _ c22 rfl) c22
  have c24 := ctx_cons (mash_ok _ c23 rfl rfl rfl rfl) c23
  have c25 := ctx_cons (rmash_ok _ c24 rfl rfl rfl) c24
  have c26 := ctx_cons (fold_ok _ c25 rfl rfl rfl rfl) c25
  have c27 := ctx_cons (params_ok _ c26 rfl) c26
  have c28 := ctx_cons (table_ok _ c27) c27
  have c29 := ctx_cons (end_ok _ c28) c28
  have c30 := ctx_cons (coef_ok _ c29) c29
  have c31 := ctx_cons (digits_ok _ c30 rfl rfl rfl rfl) c30
  have c32 := ctx_cons (public_ok _ c31 rfl rfl rfl rfl rfl) c31
  have c33 := ctx_cons (sign_ok _ c32 rfl rfl rfl rfl rfl rfl) c32
  have c34 := ctx_cons (split_ok _ c33 rfl) c33
  have c35 := ctx_cons (claim_ok _ c34 rfl rfl rfl rfl rfl rfl rfl) c34
  have c36 := ctx_cons (bits_ok _ c35) c35
  have c37 := ctx_cons (rdig_ok _ c36) c36
  have c38 := ctx_cons (alld_ok _ c37 rfl rfl rfl rfl rfl) c37
  have c39 := ctx_cons (same_ok _ c38) c38
  have c40 := ctx_cons (lnum_ok _ c39) c39
  have c41 := ctx_cons (height_ok _ c40) c40
  have c42 := ctx_cons (readK_ok _ c41 rfl rfl rfl) c41
  have c43 := ctx_cons (nonep_ok _ c42) c42
  have c44 := ctx_cons (lfour_ok _ c43) c43
  have c45 := ctx_cons (hash_ok _ c44 rfl rfl rfl rfl) c44
  have c46 := ctx_cons (leaf_ok _ c45 rfl) c45
  have c47 := ctx_cons (node_ok _ c46 rfl) c46
  have c48 := ctx_cons (rhash_ok _ c47 rfl rfl rfl) c47
  have c49 := ctx_cons (rheight_ok _ c48) c48
  have c50 := ctx_cons (climb_ok _ c49 rfl) c49
  have c51 := ctx_cons (leaves_ok _ c50) c50
  have c52 := ctx_cons (site_ok _ c51) c51
  have c53 := ctx_cons (left_ok _ c52 rfl) c52
  have c54 := ctx_cons (publicK_ok _ c53 rfl) c53
  have c55 := ctx_cons (path_ok _ c54 rfl) c54
  have c56 := ctx_cons (force_ok _ c55 rfl rfl rfl rfl rfl) c55
  have c57 := ctx_cons (knows_ok _ c56 rfl) c56
  have c58 := ctx_cons (signed_ok _ c57) c57
  exact ctx_cons (last0_ok _ c58) c58
noncomputable def R0 : List (Nat × AFun) := [(24, afun C 4 r_lms_New a_lms_New), (29, afun C 3 r_lms_Signer_Sign a_lms_Signer_Sign), (42, afun C 2 r_lms_take a_lms_take)]
noncomputable def CA : Ctx := ⟨G0, fnTab T0, afTab R0⟩
theorem ctxA : CtxOK CA P := by
  have z : CtxOK ⟨G0, fnTab T0, afTab []⟩ P := ⟨ctx.1, (ctx_nilr (G := G0) (P := P)).2⟩
  have z0 := ctx_consr (m_lms_take C ctx) z
  have z1 := ctx_consr (m_lms_Signer_Sign C ctx) z0
  exact ctx_consr (m_lms_New C ctx) z1
theorem lmC : LmC C := ⟨rfl, rfl, rfl, rfl, rfl, rfl, rfl⟩
theorem lmS : LmS C := ⟨rfl, rfl, rfl, rfl, rfl⟩
noncomputable def T1 : List (Nat × Fn) := (19, fVerify) :: (18, fRoot) :: (14, fParts) :: T0
noncomputable def CB : Ctx := ⟨G0, fnTab T1, afTab R0⟩
theorem ctxB : CtxOK CB P := by
  have c1 := ctx_cons (parts_ok CA C ctxA rfl rfl rfl rfl rfl rfl) ctxA
  have c2 := ctx_cons (root_ok _ c1 rfl rfl rfl rfl rfl rfl) c1
  exact ctx_cons (verify_ok _ c2 rfl rfl) c2
noncomputable def R1 : List (Nat × AFun) := (15, afun CA 1 r_ref06_Parts a_ref06_Parts) :: (10, afun CA 4 r_law06_lay a_law06_lay) :: R0
noncomputable def CL : Ctx := ⟨G0, fnTab ((9, fAwakeL) :: T1), afTab R1⟩
theorem ctxL : CtxOK CL P := by
  have c1 := ctx_cons (awakel_ok CB C ctxB lmC lmS rfl rfl rfl rfl rfl rfl rfl) ctxB
  have c2 := ctx_consr (m_law06_lay CA ctxA) c1
  exact ctx_consr (m_ref06_Parts CA ctxA) c2
theorem lwL : LW CL CA C := ⟨lmC, lmS, rfl, rfl, rfl, rfl, rfl, rfl, rfl, rfl, rfl, rfl, rfl, rfl, rfl, rfl, rfl, rfl, rfl, rfl, rfl, rfl, rfl, rfl, rfl, rfl, rfl, rfl, rfl, rfl, rfl, rfl, rfl⟩
theorem lpL : LP CL CA C CA := ⟨lwL, rfl, rfl, rfl, rfl, rfl⟩
theorem CL_types : CL.glob 0 = some (D.agg (.ar typesZ.length SPar) (typesZ.map triD)) := rfl
theorem CL_first : CL.glob 1 = some (numsD .u32 firstZ) := rfl
theorem CL_rounds : CL.glob 2 = some (numsD .u32 roundsZ) := rfl
theorem CL_glob_none (g : Nat) (h : ¬ g = 0) (h0 : ¬ g = 1) (h1 : ¬ g = 2) : CL.glob g = none := G0_none g h h0 h1
end Job
end Go.Am
namespace Go.Am
set_option linter.unusedSimpArgs false
set_option linter.unusedVariables false
attribute [local congr] bnd_congr kCond_congr kGd_congr kPick_congr kCall_congr kIdx_congr kSlice_congr kLoop_congr cond_congr' aBin_congr aBounds_congr aApp_congr aCopy_congr kFn_congr
namespace Job
open Go.Am.F
set_option maxRecDepth 10000
def id4 : List (BitVec 8) := 4#8 :: List.replicate 15 0#8
theorem id4_eq : (List.replicate 16 (D.raw (u8 0#8))).set 0 (.raw (u8 4#8)) = bs id4 := rfl
theorem rem16 (z : Int) (k : D → Prop) : aBin .rem (.int .i16 z) (.int .i16 40) k = k (.raw (.int .i16 (z.tmod 40))) := by simp [aBin]
set_option maxHeartbeats 2000000 in
theorem parts_law (C CL CT CP : Ctx) (H : LP C CL CT CP) (sg : List (BitVec 8)) (h t : BitVec 8) (seed : List (BitVec 8)) (z : Int) (more : List (BitVec 8)) (hsg : sg.length ≤ 9223372036854775807) (hsd : seed.length = 32) (hmo : more.length ≤ 9223372036854775807) :
    afun C 6 r_law06_LmsParts a_law06_LmsParts [.lst L8 (bs sg) false, .raw (u8 h), .raw (u8 t), .agg (.ar 32 L8) (bs seed), .raw (.int .i16 z), .lst L8 (bs more) false] [] (fun d rows => d = .raw (.bool true)) := by
  refine afun_mk rfl ?_
  unfold a_law06_LmsParts r_law06_LmsParts
  have hO := layO_ok t
  simp only [↓amD, amU, Nat.reduceBEq, Nat.reduceAdd, Nat.reduceSub, Nat.reduceMul, Nat.reduceMod, Nat.reducePow, Nat.reduceLT, Nat.reduceDiv, Int.reduceToNat, BitVec.reduceToNat, zipEnv, Int.reduceLE, Int.reduceLT, Int.reduceNeg, BitVec.reduceEq, Int.reduceAdd, Int.reduceSub, Int.reduceMul, Nat.reduceLeDiff, Int.reduceEq, amR, H.w.awake, kAwakeL, Bool.not_true, H.w.n3, H.w.r3, id4_eq]
  refine lay_run CL CT H.w.new H.w.ln H.w.lr (id := id4) rfl hsd ?_
  intro R1 L hS hK l1 l2 l3 l4 hd
  have r0 := hK 0 _ rfl
  have hw := lay_whole hS (id := id4) rfl hsd
  have hlv := hw.lv
  have hHk : hH ((layS h t id4 seed).v L).t = 2 ^ layK h := layH h
  rw [hHk] at hlv
  have hk2 : 2 ≤ 2 ^ layK h := by rcases layK_le h with e | e <;> rw [e] <;> decide
  have hrd := fun L' => (hS.push L').rd
  have hoV : okT ((layS h t id4 seed).v L).o.toNat = true := hw.o
  generalize (layS h t id4 seed).v L = V at *
  have hl1 : (1#32).toNat < lvN V := by rw [hlv]; exact hk2
  have hsl := sigF_len hw.ok hl1 seed [109#8] hsd
  have hpt : pT V.o.toNat ≤ 265 := (parT_ok hoV).2.2.1
  have hpn := pathN_le hw.ok hl1
  have kF := fun L' x k' => kForceV (R1 ++ L') k' (.ptr SSig L.r [0]) (.sl L8 R1.length [] 0 1 true) V 1#32 seed [109#8] (hrd L') (BsIn.own x 1 rfl) hw.ok hoV hsd (by decide) hl1
  have x0 : live (R1 ++ [some (⟨L8, [.raw (u8 109#8)]⟩ : Row)]) R1.length = some ⟨L8, bs [109#8]⟩ := by rw [lv_app0]; rfl
  simp only [↓amD, amU, Nat.reduceBEq, Nat.reduceAdd, Nat.reduceSub, Nat.reduceMul, Nat.reduceMod, Nat.reducePow, Nat.reduceLT, Nat.reduceDiv, Int.reduceToNat, BitVec.reduceToNat, zipEnv, Int.reduceLE, Int.reduceLT, Int.reduceNeg, BitVec.reduceEq, Int.reduceAdd, Int.reduceSub, Int.reduceMul, Nat.reduceLeDiff, Int.reduceEq, amR, r0, live_app r0, H.w.frc, kF _ x0]
  have hsl' : 44 + (32 * pT V.o.toNat + 32 * pathN V 1) = (sigF V 1#32 seed [109#8]).length := by rw [hsl, Nat.add_assoc]; rfl
  have hN : (sigF V 1#32 seed [109#8]).length ≤ 1000000 := by rw [hsl]; omega
  rw [hsl']
  clear kF hsl hsl' x0
  generalize sigF V 1#32 seed [109#8] = G at *
  have hb := Int.natAbs_tmod z 40
  rw [show (40 : Int).natAbs = 40 from rfl] at hb
  obtain ⟨b, hbe⟩ : ∃ b, z.tmod 40 = b := ⟨_, rfl⟩
  rw [hbe] at hb
  have hc : cvD .i64 (.raw (.int .i16 b)) = some (it (wz b)) := rfl
  rw [wz_id (by omega)] at hc
  have hz1 : wz ((G.length : Int) + b) = (G.length : Int) + b := wz_id (by omega)
  simp only [rem16, hbe, ↓amD, amU, Nat.reduceBEq, Nat.reduceAdd, Nat.reduceSub, Nat.reduceMul, Nat.reduceMod, Nat.reducePow, Nat.reduceLT, Nat.reduceDiv, Int.reduceToNat, BitVec.reduceToNat, zipEnv, Int.reduceLE, Int.reduceLT, Int.reduceNeg, BitVec.reduceEq, Int.reduceAdd, Int.reduceSub, Int.reduceMul, Nat.reduceLeDiff, Int.reduceEq, amR, hc, hz1, H.w.cut]
  obtain ⟨n, hn⟩ : ∃ n : Int, max ((G.length : Int) + b) 0 = n := ⟨_, rfl⟩
  rw [hn]
  refine Eq.mpr (kCutI _ _ _ G n (BsIn.own (by rw [lv_appk]; rfl) _ rfl) (by omega) (by rw [List.length_take]; omega)) ?_
  have hP2 : (G.take n.toNat).length ≤ 1000000 := by rw [List.length_take]; omega
  generalize G.take n.toNat = P2 at *
  have kS := fun rows k => kCut rows k (.lst L8 (bs sg) false) sg 100 (.inr ⟨false, rfl⟩) hsg (by rw [List.length_take]; omega)
  have hP0 : (sg.take (100 : Int).toNat).length ≤ 1000000 := by rw [List.length_take]; exact Nat.le_trans (Nat.min_le_left _ _) (by decide)
  have kM := fun rows k => kCut rows k (.lst L8 (bs more) false) more 40 (.inr ⟨false, rfl⟩) hmo (by rw [List.length_take]; omega)
  have hMO : (more.take (40 : Int).toNat).length ≤ 1000000 := by rw [List.length_take]; exact Nat.le_trans (Nat.min_le_left _ _) (by decide)
  generalize sg.take (100 : Int).toNat = P0 at *
  generalize more.take (40 : Int).toNat = MO at *
  simp only [↓amD, amU, Nat.reduceBEq, Nat.reduceAdd, Nat.reduceSub, Nat.reduceMul, Nat.reduceMod, Nat.reducePow, Nat.reduceLT, Nat.reduceDiv, Int.reduceToNat, BitVec.reduceToNat, zipEnv, Int.reduceLE, Int.reduceLT, Int.reduceNeg, BitVec.reduceEq, Int.reduceAdd, Int.reduceSub, Int.reduceMul, Nat.reduceLeDiff, Int.reduceEq, amR, H.w.cut, kS, kM, H.w.join]
  refine Eq.mpr (kJoin _ _ _ 2 _ _ [G, MO] (by rw [lv_appk]; rfl) rfl (.cons (BsIn.own (by rw [lv_appk]; rfl) _ rfl) (.cons (BsIn.own (by rw [lv_appk]; rfl) _ rfl) .nil)) (by simp) (by simp; omega)) ?_
  have hP3 : [G, MO].flatten.length ≤ 2000000 := by simp; omega
  generalize [G, MO].flatten = P3 at *
  simp only [↓amD, amU, Nat.reduceBEq, Nat.reduceAdd, Nat.reduceSub, Nat.reduceMul, Nat.reduceMod, Nat.reducePow, Nat.reduceLT, Nat.reduceDiv, Int.reduceToNat, BitVec.reduceToNat, zipEnv, Int.reduceLE, Int.reduceLT, Int.reduceNeg, BitVec.reduceEq, Int.reduceAdd, Int.reduceSub, Int.reduceMul, Nat.reduceLeDiff, Int.reduceEq, amR]
  have hE : ∀ i, i < 4 → ∃ r p, ([.sl L8 (R1.length + 3) [] 0 P0.length false, .sl L8 (R1.length + 1) [] 0 G.length false, .sl L8 (R1.length + 2) [] 0 P2.length false, .sl L8 (R1.length + 6) [] 0 P3.length false] : List D)[i]? = some (.sl L8 r [] 0 p.length false) ∧
      live (R1 ++ [some ⟨L8, [.raw (u8 109#8)]⟩, some ⟨L8, bs G⟩, some ⟨L8, bs P2⟩, some ⟨L8, bs P0⟩, some ⟨L8, bs MO⟩, some ⟨.ref, [.sl L8 (R1.length + 1) [] 0 G.length false, .sl L8 (R1.length + 4) [] 0 MO.length false]⟩, some ⟨L8, bs P3⟩, some ⟨.ref, [.sl L8 (R1.length + 3) [] 0 P0.length false, .sl L8 (R1.length + 1) [] 0 G.length false, .sl L8 (R1.length + 2) [] 0 P2.length false, .sl L8 (R1.length + 6) [] 0 P3.length false]⟩]) r = some ⟨L8, bs p⟩ ∧ p.length ≤ 2000000 := by
    intro i hi
    rcases (by omega : i = 0 ∨ i = 1 ∨ i = 2 ∨ i = 3) with rfl | rfl | rfl | rfl
    · exact ⟨_, P0, rfl, by rw [lv_appk]; rfl, by omega⟩
    · exact ⟨_, G, rfl, by rw [lv_appk]; rfl, by omega⟩
    · exact ⟨_, P2, rfl, by rw [lv_appk]; rfl, by omega⟩
    · exact ⟨_, P3, rfl, by rw [lv_appk]; rfl, by omega⟩
  have hRl : live (R1 ++ [some ⟨L8, [.raw (u8 109#8)]⟩, some ⟨L8, bs G⟩, some ⟨L8, bs P2⟩, some ⟨L8, bs P0⟩, some ⟨L8, bs MO⟩, some ⟨.ref, [.sl L8 (R1.length + 1) [] 0 G.length false, .sl L8 (R1.length + 4) [] 0 MO.length false]⟩, some ⟨L8, bs P3⟩, some ⟨.ref, [.sl L8 (R1.length + 3) [] 0 P0.length false, .sl L8 (R1.length + 1) [] 0 G.length false, .sl L8 (R1.length + 2) [] 0 P2.length false, .sl L8 (R1.length + 6) [] 0 P3.length false]⟩]) (R1.length + 7) = some ⟨.ref, [.sl L8 (R1.length + 3) [] 0 P0.length false, .sl L8 (R1.length + 1) [] 0 G.length false, .sl L8 (R1.length + 2) [] 0 P2.length false, .sl L8 (R1.length + 6) [] 0 P3.length false]⟩ := by rw [lv_appk]; rfl
  generalize R1 ++ [some ⟨L8, [.raw (u8 109#8)]⟩, some ⟨L8, bs G⟩, some ⟨L8, bs P2⟩, some ⟨L8, bs P0⟩, some ⟨L8, bs MO⟩, some ⟨.ref, [.sl L8 (R1.length + 1) [] 0 G.length false, .sl L8 (R1.length + 4) [] 0 MO.length false]⟩, some ⟨L8, bs P3⟩, some ⟨.ref, [.sl L8 (R1.length + 3) [] 0 P0.length false, .sl L8 (R1.length + 1) [] 0 G.length false, .sl L8 (R1.length + 2) [] 0 P2.length false, .sl L8 (R1.length + 6) [] 0 P3.length false]⟩] = RB at *
  generalize ([.sl L8 (R1.length + 3) [] 0 P0.length false, .sl L8 (R1.length + 1) [] 0 G.length false, .sl L8 (R1.length + 2) [] 0 P2.length false, .sl L8 (R1.length + 6) [] 0 P3.length false] : List D) = els at *
  have b0 : ∀ n : Nat, ((0 : Int) ≤ (n : Int)) = True := fun n => eq_true (by omega)
  have e32 : ∀ y : List (BitVec 8), y.length = 32 → eqA (.ar 32 L8) (.agg (.ar 32 L8) (bs y)) (.agg (.ar 32 L8) (bs y)) = some true := fun y hy => by rw [eqA_d32 y y hy hy, decide_eq_true rfl]
  refine kLoop_up 4 (fun i env rs => has env [(70, .raw (it (i : Int))), (69, .raw (it 4)), (68, .sl .ref (R1.length + 7) [] 0 4 true)] ∧ KeptL RB rs) ?_ ?_ ⟨?_, KeptL.refl _⟩
  · rintro i hi env rs ⟨hw, hK⟩ R hR
    simp only [has] at hw
    obtain ⟨r, p, hg, hr, hp⟩ := hE i hi
    have hr1 := hK _ _ hr
    have hl1 := hK _ _ hRl
    have f0 : ((i : Int) < 4) = True := eq_true (by omega)
    have f1 := wz_succ i (by omega)
    have f2 : (i < 4) = True := eq_true hi
    by_cases he : partsE p = 0
    · simp only [↓amD, amU, Nat.reduceBEq, Nat.reduceAdd, Nat.reduceSub, Nat.reduceMul, Nat.reduceMod, Nat.reducePow, Nat.reduceLT, Nat.reduceDiv, Int.reduceToNat, BitVec.reduceToNat, zipEnv, Int.reduceLE, Int.reduceLT, Int.reduceNeg, BitVec.reduceEq, Int.reduceAdd, Int.reduceSub, Int.reduceMul, Nat.reduceLeDiff, Int.reduceEq, amR, hw, f0, f2, b0, hl1, hg, H.w.par]
      refine Eq.mpr (kParts _ _ _ p (BsIn.own hr1 _ rfl) (by omega) he) ?_
      simp only [↓amD, amU, Nat.reduceBEq, Nat.reduceAdd, Nat.reduceSub, Nat.reduceMul, Nat.reduceMod, Nat.reducePow, Nat.reduceLT, Nat.reduceDiv, Int.reduceToNat, BitVec.reduceToNat, zipEnv, Int.reduceLE, Int.reduceLT, Int.reduceNeg, BitVec.reduceEq, Int.reduceAdd, Int.reduceSub, Int.reduceMul, Nat.reduceLeDiff, Int.reduceEq, amR, hw, H.n4, H.r4]
      refine rparts_run CP H.val H.tab H.hei (p := p) (live_app hr1 _) (by omega) ?_ (fun h => absurd he h)
      intro _ R2 rp x1 x2 hK2 hrp hlp
      have hpl := partsE_0 he
      have hlh : lhS p ≤ 25 := hT_le _
      have h32 := pathS_32 he
      have hol := oneS_len he
      have y0 := hK2 rs.length _ (by rw [lv_app0]; rfl)
      have y1 := hK2 (1 + rs.length) _ (by rw [Nat.add_comm, lv_appk]; rfl)
      have y2 := hK2 _ _ (live_app hr1 _)
      have hKR : KeptL RB R2 := (hK.trans (KeptL.app _ _)).trans hK2
      have hcell : live (R2 ++ [some (⟨SSg, [.agg SSg [.raw (u32 (lqS p)), .sl L8 r [] 4 (36 + 32 * lpS p) x1, .raw (u32 (ltS p)), .sl (.ar 32 L8) rp [] 0 (lhS p) x2]]⟩ : Row)]) R2.length = some ⟨SSg, [.agg SSg [.raw (u32 (lqS p)), .sl L8 r [] 4 (36 + 32 * lpS p) x1, .raw (u32 (ltS p)), .sl (.ar 32 L8) rp [] 0 (lhS p) x2]]⟩ := by rw [lv_app0]; rfl
      simp only [↓amD, amU, Nat.reduceBEq, Nat.reduceAdd, Nat.reduceSub, Nat.reduceMul, Nat.reduceMod, Nat.reducePow, Nat.reduceLT, Nat.reduceDiv, Int.reduceToNat, BitVec.reduceToNat, zipEnv, Int.reduceLE, Int.reduceLT, Int.reduceNeg, BitVec.reduceEq, Int.reduceAdd, Int.reduceSub, Int.reduceMul, Nat.reduceLeDiff, Int.reduceEq, amR, hw, H.w.same]
      refine Eq.mpr (kSame _ _ _ _ (oneS p) (oneS p) (BsIn.own (live_app y0 _) _ hol.symm) (BsIn.sub (live_app y2 _) (by omega)) (by omega) (by omega)) ?_
      rw [decide_eq_true rfl]
      have Y1 := fun L' => live_app y1 L'
      have Yp := fun L' => live_app hlp L'
      have hll : (pathS p (lhS p)).length = lhS p := pathS_len _ _
      simp only [↓amD, amU, Nat.reduceBEq, Nat.reduceAdd, Nat.reduceSub, Nat.reduceMul, Nat.reduceMod, Nat.reducePow, Nat.reduceLT, Nat.reduceDiv, Int.reduceToNat, BitVec.reduceToNat, zipEnv, Int.reduceLE, Int.reduceLT, Int.reduceNeg, BitVec.reduceEq, Int.reduceAdd, Int.reduceSub, Int.reduceMul, Nat.reduceLeDiff, Int.reduceEq, amR, hw, Bool.not_true]
      generalize pathS p (lhS p) = l at *
      refine kLoop_up (lhS p) (fun j env rs' => has env [(119, .raw (it (j : Int))), (118, .raw (it (lhS p : Int))), (24, .sl (.ar 32 L8) (1 + rs.length) [] 0 (lhS p) false), (26, .ptr SSg R2.length [0]), (70, .raw (it (i : Int))), (69, .raw (it 4)), (68, .sl .ref (R1.length + 7) [] 0 4 true)] ∧ rs' = R2 ++ [some ⟨SSg, [.agg SSg [.raw (u32 (lqS p)), .sl L8 r [] 4 (36 + 32 * lpS p) x1, .raw (u32 (ltS p)), .sl (.ar 32 L8) rp [] 0 (lhS p) x2]]⟩]) ?_ ?_ ⟨?_, rfl⟩
      · rintro j hj env rs' ⟨hw, rfl⟩ R' hR'
        simp only [has] at hw
        have f0 : ((j : Int) < (lhS p : Int)) = True := eq_true (by omega)
        have f1 := wz_succ j (by omega)
        have g : (l.map d32D)[j]? = some (.agg (.ar 32 L8) (bs l[j])) := by simp [d32D, hll, hj]
        have he := e32 l[j] (h32 _ (List.getElem_mem (by omega)))
        simp only [↓amD, amU, Nat.reduceBEq, Nat.reduceAdd, Nat.reduceSub, Nat.reduceMul, Nat.reduceMod, Nat.reducePow, Nat.reduceLT, Nat.reduceDiv, Int.reduceToNat, BitVec.reduceToNat, zipEnv, Int.reduceLE, Int.reduceLT, Int.reduceNeg, BitVec.reduceEq, Int.reduceAdd, Int.reduceSub, Int.reduceMul, Nat.reduceLeDiff, Int.reduceEq, hw, f0, f1, b0, Y1, hcell, Yp, g, he, Bool.not_true]
        exact hR' _ _ ⟨by simp only [has, ↓amD, amU, Nat.reduceBEq, Nat.reduceAdd, Nat.reduceSub, Nat.reduceMul, Nat.reduceMod, Nat.reducePow, Nat.reduceLT, Nat.reduceDiv, Int.reduceToNat, BitVec.reduceToNat, zipEnv, Int.reduceLE, Int.reduceLT, Int.reduceNeg, BitVec.reduceEq, Int.reduceAdd, Int.reduceSub, Int.reduceMul, Nat.reduceLeDiff, Int.reduceEq, hw], rfl⟩
      · rintro env rs' ⟨hw, rfl⟩ R'
        simp only [has] at hw
        have f0 : ((lhS p : Int) < (lhS p : Int)) = False := eq_false (by omega)
        simp only [↓amD, amU, Nat.reduceBEq, Nat.reduceAdd, Nat.reduceSub, Nat.reduceMul, Nat.reduceMod, Nat.reducePow, Nat.reduceLT, Nat.reduceDiv, Int.reduceToNat, BitVec.reduceToNat, zipEnv, Int.reduceLE, Int.reduceLT, Int.reduceNeg, BitVec.reduceEq, Int.reduceAdd, Int.reduceSub, Int.reduceMul, Nat.reduceLeDiff, Int.reduceEq, amR, hw, f0, f1]
        exact hR _ _ ⟨by simp only [has, ↓amD, amU, Nat.reduceBEq, Nat.reduceAdd, Nat.reduceSub, Nat.reduceMul, Nat.reduceMod, Nat.reducePow, Nat.reduceLT, Nat.reduceDiv, Int.reduceToNat, BitVec.reduceToNat, zipEnv, Int.reduceLE, Int.reduceLT, Int.reduceNeg, BitVec.reduceEq, Int.reduceAdd, Int.reduceSub, Int.reduceMul, Nat.reduceLeDiff, Int.reduceEq, hw], hKR.trans (KeptL.app _ _)⟩
      · simp only [has, ↓amD, amU, Nat.reduceBEq, Nat.reduceAdd, Nat.reduceSub, Nat.reduceMul, Nat.reduceMod, Nat.reducePow, Nat.reduceLT, Nat.reduceDiv, Int.reduceToNat, BitVec.reduceToNat, zipEnv, Int.reduceLE, Int.reduceLT, Int.reduceNeg, BitVec.reduceEq, Int.reduceAdd, Int.reduceSub, Int.reduceMul, Nat.reduceLeDiff, Int.reduceEq, hw]
    · simp only [↓amD, amU, Nat.reduceBEq, Nat.reduceAdd, Nat.reduceSub, Nat.reduceMul, Nat.reduceMod, Nat.reducePow, Nat.reduceLT, Nat.reduceDiv, Int.reduceToNat, BitVec.reduceToNat, zipEnv, Int.reduceLE, Int.reduceLT, Int.reduceNeg, BitVec.reduceEq, Int.reduceAdd, Int.reduceSub, Int.reduceMul, Nat.reduceLeDiff, Int.reduceEq, amR, hw, f0, f2, b0, hl1, hg, H.w.par]
      refine Eq.mpr (kPartsE _ _ _ p (BsIn.own hr1 _ rfl) (by omega) he) ?_
      simp only [↓amD, amU, Nat.reduceBEq, Nat.reduceAdd, Nat.reduceSub, Nat.reduceMul, Nat.reduceMod, Nat.reducePow, Nat.reduceLT, Nat.reduceDiv, Int.reduceToNat, BitVec.reduceToNat, zipEnv, Int.reduceLE, Int.reduceLT, Int.reduceNeg, BitVec.reduceEq, Int.reduceAdd, Int.reduceSub, Int.reduceMul, Nat.reduceLeDiff, Int.reduceEq, amR, hw, H.n4, H.r4]
      refine rparts_run CP H.val H.tab H.hei (p := p) hr1 (by omega) (fun h => absurd h he) ?_
      intro _ mr
      have n1 := fun rows k => kSame rows k (.raw (.slice none 0 0)) (.raw (.slice none 0 0)) [] [] (IsBs.to (.inl ⟨rfl, rfl⟩)) (IsBs.to (.inl ⟨rfl, rfl⟩)) (by decide) (by decide)
      have fz : (D.agg SSg [.raw (u32 0#32), .raw (.slice none 0 0), .raw (u32 0#32), .raw (.slice none 0 0)]).fits SSg = true := rfl
      unfold sgZ
      simp only [↓amD, amU, Nat.reduceBEq, Nat.reduceAdd, Nat.reduceSub, Nat.reduceMul, Nat.reduceMod, Nat.reducePow, Nat.reduceLT, Nat.reduceDiv, Int.reduceToNat, BitVec.reduceToNat, zipEnv, Int.reduceLE, Int.reduceLT, Int.reduceNeg, BitVec.reduceEq, Int.reduceAdd, Int.reduceSub, Int.reduceMul, Nat.reduceLeDiff, Int.reduceEq, amR, hw, fz, H.w.same, n1]
      refine kLoop_up 0 (fun i' env rs' => has env [(119, .raw (it 0)), (118, .raw (it 0)), (70, .raw (it (i : Int))), (69, .raw (it 4)), (68, .sl .ref (R1.length + 7) [] 0 4 true)] ∧ KeptL rs rs') (fun i h => absurd h (by omega)) ?_ ⟨?_, KeptL.app _ _⟩
      · rintro env rs' ⟨hw, hK'⟩ R
        simp only [has] at hw
        simp only [↓amD, amU, Nat.reduceBEq, Nat.reduceAdd, Nat.reduceSub, Nat.reduceMul, Nat.reduceMod, Nat.reducePow, Nat.reduceLT, Nat.reduceDiv, Int.reduceToNat, BitVec.reduceToNat, zipEnv, Int.reduceLE, Int.reduceLT, Int.reduceNeg, BitVec.reduceEq, Int.reduceAdd, Int.reduceSub, Int.reduceMul, Nat.reduceLeDiff, Int.reduceEq, amR, hw, f1]
        exact hR _ _ ⟨by simp only [has, ↓amD, amU, Nat.reduceBEq, Nat.reduceAdd, Nat.reduceSub, Nat.reduceMul, Nat.reduceMod, Nat.reducePow, Nat.reduceLT, Nat.reduceDiv, Int.reduceToNat, BitVec.reduceToNat, zipEnv, Int.reduceLE, Int.reduceLT, Int.reduceNeg, BitVec.reduceEq, Int.reduceAdd, Int.reduceSub, Int.reduceMul, Nat.reduceLeDiff, Int.reduceEq, hw], hK.trans hK'⟩
      · simp only [has, ↓amD, amU, Nat.reduceBEq, Nat.reduceAdd, Nat.reduceSub, Nat.reduceMul, Nat.reduceMod, Nat.reducePow, Nat.reduceLT, Nat.reduceDiv, Int.reduceToNat, BitVec.reduceToNat, zipEnv, Int.reduceLE, Int.reduceLT, Int.reduceNeg, BitVec.reduceEq, Int.reduceAdd, Int.reduceSub, Int.reduceMul, Nat.reduceLeDiff, Int.reduceEq, hw]
  · rintro env rs ⟨hw, hK⟩ R
    simp only [has] at hw
    simp only [↓amD, amU, Nat.reduceBEq, Nat.reduceAdd, Nat.reduceSub, Nat.reduceMul, Nat.reduceMod, Nat.reducePow, Nat.reduceLT, Nat.reduceDiv, Int.reduceToNat, BitVec.reduceToNat, zipEnv, Int.reduceLE, Int.reduceLT, Int.reduceNeg, BitVec.reduceEq, Int.reduceAdd, Int.reduceSub, Int.reduceMul, Nat.reduceLeDiff, Int.reduceEq, amR, hw]
  · simp only [has, ↓amD, amU, Nat.reduceBEq, Nat.reduceAdd, Nat.reduceSub, Nat.reduceMul, Nat.reduceMod, Nat.reducePow, Nat.reduceLT, Nat.reduceDiv, Int.reduceToNat, BitVec.reduceToNat, zipEnv, Int.reduceLE, Int.reduceLT, Int.reduceNeg, BitVec.reduceEq, Int.reduceAdd, Int.reduceSub, Int.reduceMul, Nat.reduceLeDiff, Int.reduceEq]
end Job
end Go.Am
namespace Go.Proofs.YtmhagenbelpnfaaDoor.parts
open Go.Am Go.Am.Job Go.Am.F
open Go.ChangeShapes Go.WideShapes Go.ChangeAt Go.RowKit
set_option linter.unusedVariables false
set_option linter.unusedSimpArgs false
def K : TKs := .cons (.slice (.int .u8)) (.cons (.int .u8) (.cons (.int .u8) (.cons (.arr 32 (.int .u8)) (.cons (.int .i16) (.cons (.slice (.int .u8)) .nil)))))
noncomputable def triT : TypeId := (Tryd.prog.globals[0]?.map (·.type)).getD 0
noncomputable def triE : TypeId := match Tryd.prog.underlying triT with | some (.array _ e) => e | _ => 0
noncomputable def triF : Array Field := match Tryd.prog.underlying triE with | some (.struct fs) => fs | _ => #[]
theorem own : ownKnob Tryd.prog.godebug = none := by kernel_rfl
theorem laid : laidOutB Tryd.prog = true := by kernel_rfl
theorem law (dd : List D) (h : DNs K dd) : afun CL 6 r_law06_LmsParts a_law06_LmsParts dd [] (fun d _ => d = .raw (.bool true)) := by
  rcases dd with _ | ⟨d0, _ | ⟨d1, _ | ⟨d2, _ | ⟨d3, _ | ⟨d4, _ | ⟨d5, _ | ⟨d6, l⟩⟩⟩⟩⟩⟩⟩
  · exact h.elim
  · exact h.2.elim
  · exact h.2.2.elim
  · exact h.2.2.2.elim
  · exact h.2.2.2.2.elim
  · exact h.2.2.2.2.2.elim
  · obtain ⟨h1, h2, h3, h4, h5, h6, -⟩ := h
    unfold DN DK at h2 h3 h5
    obtain ⟨sg, rfl, hsg, -⟩ := dn_bs h1
    obtain ⟨h0, rfl⟩ := h2
    obtain ⟨t, rfl⟩ := h3
    obtain ⟨seed, rfl, hsd⟩ := dk_arr8 h4
    obtain ⟨z, rfl, -⟩ := h5
    obtain ⟨more, rfl, hm, -⟩ := dn_bs h6
    unfold maxLen at hm hsg
    exact parts_law CL CA C CA lpL sg h0 t seed z more (by omega) hsd (by omega)
  · exact h.2.2.2.2.2.2.elim
theorem globs {W : World} (hL : laidMetH Tryd.prog Rows.lmsPartsRow.laid W) (g : Nat) (d : D) (h : CL.glob g = some d) : LR noPl W (old W) (.cptr d) (.pointer (some ⟨g, 0, none⟩)) := by
  have hL' : laidMet Tryd.prog Rows.lmsPartsRow.laid W := hL
  by_cases h0 : g = 1
  · subst h0
    have e : numsD .u32 firstZ = d := Option.some.inj ((CL_first : CL.glob 1 = some (numsD .u32 firstZ)).symm.trans h)
    subst e
    exact laid_glob (P := Tryd.prog) (t := (Tryd.prog.globals[1]?.map (·.type)).getD 0) (e := match Tryd.prog.underlying ((Tryd.prog.globals[1]?.map (·.type)).getD 0) with | some (.array _ e) => e | _ => 0) (n := firstZ.length) (name := (Rows.lmsPartsRow.laid.getD 0 ("", .nil)).1) hL' (List.mem_of_getElem? (i := 0) rfl) (by kernel_rfl) (by kernel_rfl) (by kernel_rfl) (by kernel_rfl) (by kernel_rfl) (by kernel_rfl) (by decide)
  by_cases h1 : g = 2
  · subst h1
    have e : numsD .u32 roundsZ = d := Option.some.inj ((CL_rounds : CL.glob 2 = some (numsD .u32 roundsZ)).symm.trans h)
    subst e
    exact laid_glob (P := Tryd.prog) (t := (Tryd.prog.globals[2]?.map (·.type)).getD 0) (e := match Tryd.prog.underlying ((Tryd.prog.globals[2]?.map (·.type)).getD 0) with | some (.array _ e) => e | _ => 0) (n := roundsZ.length) (name := (Rows.lmsPartsRow.laid.getD 1 ("", .nil)).1) hL' (List.mem_of_getElem? (i := 1) rfl) (by kernel_rfl) (by kernel_rfl) (by kernel_rfl) (by kernel_rfl) (by kernel_rfl) (by kernel_rfl) (by decide)
  by_cases h2 : g = 0
  · subst h2
    have e : D.agg (.ar typesZ.length SPar) (typesZ.map triD) = d := Option.some.inj ((CL_types : CL.glob 0 = some (D.agg (.ar typesZ.length SPar) (typesZ.map triD))).symm.trans h)
    subst e
    exact laid_triG (P := Tryd.prog) (t := triT) (e := triE) (n := typesZ.length) (fs := triF) (f0 := triF.toList.getD 0 default) (f1 := triF.toList.getD 1 default) (f2 := triF.toList.getD 2 default) (zs := typesZ) (name := (Rows.lmsPartsRow.laid.getD 2 ("", .nil)).1) hL' (List.mem_of_getElem? (i := 2) rfl) (by kernel_rfl) (by kernel_rfl) (by kernel_rfl) (by kernel_rfl) (by kernel_rfl) (by kernel_rfl) (by kernel_rfl) (by kernel_rfl) (by kernel_rfl) (by kernel_rfl) (by kernel_rfl) (by kernel_rfl) (by kernel_rfl) (by kernel_rfl) (by kernel_rfl) (by kernel_rfl) (by decide)
  · exact absurd h (by rw [CL_glob_none g h2 h0 h1]; exact nofun)
def lay0 : Obj → Obj
  | .cells _ t frozen => .cells (firstZ.map fun z => Value.int .u32 z).toArray t frozen
  | o => o
def lay1 : Obj → Obj
  | .cells _ t frozen => .cells (roundsZ.map fun z => Value.int .u32 z).toArray t frozen
  | o => o
def lay2 : Obj → Obj
  | .cells _ t frozen => .cells (typesZ.flatMap fun z => [Value.int .i64 z.1, Value.int .i64 z.2.1, Value.int .i64 z.2.2]).toArray t frozen
  | o => o
noncomputable def laidWorld (os : Os) : World := { World.holding Tryd.prog os ⟨#[], #[], []⟩ with heap := ((((World.holding Tryd.prog os ⟨#[], #[], []⟩).heap.modify 1 lay0).modify 2 lay1).modify 0 lay2) }
theorem laid_met (os : Os) : laidMet Tryd.prog Rows.lmsPartsRow.laid ((laidWorld os).forCall (fun _ _ => 0) ⟨#[], #[.slice none 0 0, .int .u8 0, .int .u8 0, .agg (Array.replicate 32 (Value.int .u8 0)), .int .i16 0, .slice none 0 0], []⟩).memory :=
  laidMet_of_run' 8 (by kernel_rfl) (by kernel_rfl)
theorem reads (os : Os) {H : Type} (enc : TypeId × Value → H) : ∃ places, DataW.whole enc Tryd.prog ((laidWorld os).forCall (fun _ _ => 0) ⟨#[], #[.slice none 0 0, .int .u8 0, .int .u8 0, .agg (Array.replicate 32 (Value.int .u8 0)), .int .i16 0, .slice none 0 0], []⟩).memory Tryd.f3.params.toList Rows.lmsPartsSpec.vars false #[.slice none 0 0, .int .u8 0, .int .u8 0, .agg (Array.replicate 32 (Value.int .u8 0)), .int .i16 0, .slice none 0 0].toList 8 = some ([.nil, .lit (.int .u8 0), .lit (.int .u8 0), .agg (List.replicate 32 (.lit (.int .u8 0))), .lit (.int .i16 0), .nil], [], places) :=
  ⟨[], by kernel_rfl⟩
set_option maxRecDepth 100000 in
theorem lifted (os : Os) (started : os.Started) (H : Type) (enc : TypeId × Value → H) (F : Stop.Interp) :
    ReturnsInHanded {} Tryd.checked os 3 .any ((OpenSpec.ofChange Rows.lmsPartsSpec).preRow enc Tryd.prog Tryd.f3 Rows.lmsPartsRow.domain false Rows.lmsPartsRow.laid) (((OpenSpec.ofChange Rows.lmsPartsSpec).at F).post enc Tryd.prog Tryd.f3 false true false false) := by
  obtain ⟨places, hx⟩ := reads os enc
  refine returnsInHanded_of_row (C := Tryd.checked) (s := (OpenSpec.ofChange Rows.lmsPartsSpec)) own started (by kernel_rfl) Tryd.func3
    (witness_row_at (enc := enc) (C := Tryd.checked) false (laidWorld os) #[.slice none 0 0, .int .u8 0, .int .u8 0, .agg (Array.replicate 32 (Value.int .u8 0)), .int .i16 0, .slice none 0 0] rfl (by kernel_rfl) (by kernel_rfl) (by kernel_rfl)
      (OpenSpec.preRow_of_cond 8 hx (by kernel_rfl) (fun k hk => by cases hk) (by kernel_rfl) (laid_met os))) ?_
  intro W base args ds gs before hval hW _ _ _ hL _ _
  exact row_law (m_law06_LmsParts CL ctxL) laid (n := 9) (ks := K) (tb := Tryd.f3.resultTypes.getD 0 0) (by kernel_rfl) (by kernel_rfl) rfl (by kernel_rfl) (by kernel_rfl) (fun ds h => by match ds, h with | [_, _, _, _, _, _], _ => rfl) (fun dd h _ => law dd h) hval hW (fun g d h => globs hL g d h)
theorem over : Rows.LmsPartsSaid :=
  OpenClaim.holds_of_cond 3 Tryd.f3 rfl rfl rfl rfl rfl rfl rfl ⟨rfl, rfl, rfl, rfl, rfl⟩ rfl rfl rfl rfl rfl (by kernel_rfl) Tryd.func3 (by kernel_rfl)
    (of_decide_eq_true (by kernel_rfl)) (by unfold Func.isWrapper; first | (rw [if_pos (by decide +kernel)]; kernel_rfl) | (rw [if_neg (by decide +kernel)]; exact ⟨rfl, rfl⟩))
    (fun os started H enc _ F => by rw [OpenClaim.pre_eq_preRow]; exact lifted os started H enc F)
theorem plain (f : FuncId) (fn : Func) (hf : Tryd.pinned.checked.prog.funcNamed Rows.lmsPartsRow.func = some f) (hfn : Tryd.pinned.checked.prog.funcs[f]? = some fn) :
    false = Tryd.pinned.checked.prog.looks [] ∧ ∀ (j : Nat) t, fn.params[j]? = some t → Tryd.pinned.checked.prog.wantsStandIn t = false := by
  obtain rfl : f = 3 := (Option.some.inj ((show Tryd.prog.funcNamed Rows.lmsPartsRow.func = some 3 by kernel_rfl).symm.trans hf)).symm
  obtain rfl : fn = Tryd.f3 := (Option.some.inj (Tryd.func3.symm.trans hfn)).symm
  refine ⟨by kernel_rfl, fun j t ht => ?_⟩
  have hall : (Tryd.f3.params.toList.all fun t => !Tryd.prog.wantsStandIn t) = true := by kernel_rfl
  have := List.all_eq_true.1 hall t (by simpa using Array.mem_of_getElem? ht)
  exact (by simpa using this : Tryd.prog.wantsStandIn t = false)
theorem proved : Rows.LmsPartsCardSaid :=
  Claim7.holds_tied_plain_at .later [] _ _ _ _ over (fun _ h => by cases h) (by kernel_rfl) (fun _ h => by cases h) lmsParts_row_tie rfl ⟨rfl, rfl⟩ (by kernel_rfl) rfl plain (by kernel_rfl)
end Go.Proofs.YtmhagenbelpnfaaDoor.parts
