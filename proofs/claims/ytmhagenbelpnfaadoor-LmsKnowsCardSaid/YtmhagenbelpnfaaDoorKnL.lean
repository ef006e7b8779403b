/- 'LmsKnows' returns true for every input: a proof of the given card; its condition: the listed package variables hold what the program's text lays (tied by the card). -/
import Derived.Test.YtmhagenbelpnfaaDoorKn24
import Derived.Test.YtmhagenbelpnfaaDoorCards
import Derived.Test.YtmhagenbelpnfaaDoorTie
import Derived.WalkKit
import Derived.ProofKit
import Derived.OpenShut
import Derived.Deep.DeepHandedRow
namespace Go.Am
set_option linter.unusedSimpArgs false
set_option linter.unusedVariables false
attribute [local congr] bnd_congr kCond_congr kGd_congr kPick_congr kCall_congr kIdx_congr kSlice_congr kLoop_congr cond_congr' aBin_congr aBounds_congr aApp_congr aCopy_congr kFn_congr
namespace Job
open Go.Am.F
set_option maxRecDepth 10000
noncomputable def fAwakeL : Fn
  | [], [] => some (.raw (.bool true), [])
  | _, _ => none
theorem kAwakeL (rows : Rows) (k : D → Rows → Prop) : kCall fAwakeL rows k [] = k (.raw (.bool true)) rows := by
  refine (kCall_val rfl (r := (.raw (.bool true), [])) rfl).trans ?_
  simp [shift, shiftRows]
theorem sd1_eq : (bs z32).set 0 (.raw (u8 1#8)) = bs seed1 := rfl
theorem id9_len : id9.length = 16 := rfl
theorem sd1_len : seed1.length = 32 := rfl
theorem id9_eq : (List.replicate 16 (D.raw (u8 0#8))).set 0 (.raw (u8 9#8)) = bs id9 := rfl
theorem Sgn.els {rows : Rows} {L : At4} {s : Sg} (h : Sgn rows L s) {q : Nat} {l : List D} (hq : live rows q = some ⟨L8, l⟩) : Else rows L s q :=
  ⟨(ne_sh h.a hq (by decide)).symm, (ne_sh h.n hq (by decide)).symm, (ne_sh h.m hq (by decide)).symm, (ne_sh h.t hq (by decide)).symm, own_neA h.l hq (by decide)⟩
theorem new_whole {R : Rows} {L : At4} {t o : BitVec 32} {id seed : List (BitVec 8)} (h : Sgn R L (sgNew t o id seed (nodesL o id seed (hH t)))) (ht : okH t.toNat = true) (h10 : hT t.toNat ≤ 10) (ho : okT o.toNat = true) (hid : id.length = 16) (hsd : seed.length = 32) : Whole ((sgNew t o id seed (nodesL o id seed (hH t))).v L) :=
  ⟨ht, h10, ho, hid, hsd, rfl, Sg.ld_noref h⟩
theorem next_whole {R' : Rows} {L : At4} {s : Sg} {d : D} {c m : List (BitVec 8)} (h : Whole (s.v L)) (h' : Sgn R' (L.next d) (s.next c m)) : Whole ((s.next c m).v (L.next d)) :=
  ⟨h.t, h.t10, h.o, h.id, h.sd, h.ns, Sg.ld_noref h'⟩
set_option maxHeartbeats 400000 in
theorem awakel_ok (C CT : Ctx) (hC : CtxOK C P) (hN : LmC CT) (hSg : LmS CT) (n1 : C.fn 24 = none) (r1 : C.fnr 24 = some (afun CT 4 r_lms_New a_lms_New)) (n2 : C.fn 29 = none) (r2 : C.fnr 29 = some (afun CT 3 r_lms_Signer_Sign a_lms_Signer_Sign))
    (h1 : C.fn 30 = some fLeft) (h2 : C.fn 17 = some fPublicK) (h3 : C.fn 19 = some fVerify) : Meets C.glob P 9 (Fn.run fAwakeL) := by
  refine fn_meets (m_law06_awake C hC) fun ds rows r h => ?_
  unfold fAwakeL at h
  split at h
  · cases h
    refine ⟨rfl, afun_mk rfl ?_⟩
    unfold a_law06_awake r_law06_awake
    simp only [z32_eq]
    simp only [↓amD, amU, Nat.reduceBEq, Nat.reduceAdd, Nat.reduceSub, Nat.reduceMul, Nat.reduceMod, Nat.reducePow, Nat.reduceLT, Nat.reduceDiv, Int.reduceToNat, BitVec.reduceToNat, zipEnv, Int.reduceLE, Int.reduceLT, Int.reduceNeg, BitVec.reduceEq, Int.reduceAdd, Int.reduceSub, Int.reduceMul, Nat.reduceLeDiff, Int.reduceEq, n1, r1, id9_eq, sd1_eq]
    have e1 : okH (3758096385#32).toNat = true := by decide
    have e2 : hT (3758096385#32).toNat ≤ 10 := by decide
    have e3 : okT (3#32).toNat = true := by decide
    refine newL_run CT hN (t := 3758096385#32) (o := 3#32) (id := id9) (seed := seed1) e1 e2 e3 id9_len sd1_len ?_
    intro R1 L hS hK hr hn hm ht hd
    have hw0 := new_whole hS e1 e2 e3 id9_len sd1_len
    have hs0 : AwS ((sgNew 3758096385#32 3#32 id9 seed1 (nodesL 3#32 id9 seed1 (hH 3758096385#32))).v L) := ⟨hw0, rfl, rfl, rfl, rfl⟩
    have hx0 : (sgNew 3758096385#32 3#32 id9 seed1 (nodesL 3#32 id9 seed1 (hH 3758096385#32))).nx = 0#32 := rfl
    have hl0 : (sgNew 3758096385#32 3#32 id9 seed1 (nodesL 3#32 id9 seed1 (hH 3758096385#32))).last = [] := rfl
    generalize sgNew 3758096385#32 3#32 id9 seed1 (nodesL 3#32 id9 seed1 (hH 3758096385#32)) = S0 at *
    clear hK hr hn hm ht
    have hH2 : hH S0.t = 2 := by have := hs0.t; rw [show S0.t = 3758096385#32 from this]; rfl
    have hlv0 : lvN (S0.v L) = 2 := hw0.lv.trans hH2
    have hso : okT S0.o.toNat = true := hw0.o
    have kL := fun k' => kLeftV R1 k' _ _ hS.rd hw0.ok
    have hle : ((lvN (S0.v L) : Int) - ((S0.v L).nx.toNat : Int)) = 2 := by
      rw [hlv0, show (S0.v L).nx = 0#32 from hx0]; rfl
    rw [hle] at kL
    simp only [↓amD, amU, Nat.reduceBEq, Nat.reduceAdd, Nat.reduceSub, Nat.reduceMul, Nat.reduceMod, Nat.reducePow, Nat.reduceLT, Nat.reduceDiv, Int.reduceToNat, BitVec.reduceToNat, zipEnv, Int.reduceLE, Int.reduceLT, Int.reduceNeg, BitVec.reduceEq, Int.reduceAdd, Int.reduceSub, Int.reduceMul, Nat.reduceLeDiff, Int.reduceEq, amR, h1, kL, n2, r2, z32_eq]
    refine sign_run CT hSg (L := L) (s := S0) (d := .sl L8 R1.length [] 0 1 true) (c := z32) (m := [97#8]) (hS.push _) hw0.ok hso rfl (.inr ⟨R1.length, true, rfl, by rw [lv_app0]; rfl⟩) (by decide) (by rw [hlv0, hx0]; decide) (by rw [hl0]; decide) ?_
    intro R2 d2 q2 hS2 hq2 hb2 hf2 hdl2 hln2
    have hw1 := next_whole hw0 hS2
    have hs1 : AwS ((S0.next z32 [97#8]).v (L.next d2)) := ⟨hw1, hs0.t, hs0.o, hs0.id, hs0.sd⟩
    have hx1 : (S0.next z32 [97#8]).nx = 1#32 := by show S0.nx + 1#32 = _; rw [hx0]; rfl
    have hl1 : (S0.next z32 [97#8]).last.length = 1 := by show (S0.last ++ [_]).length = 1; rw [hl0]; rfl
    have hlv1 : lvN ((S0.next z32 [97#8]).v (L.next d2)) = 2 := hw1.lv.trans hH2
    have hso1 : okT (S0.next z32 [97#8]).o.toNat = true := hw0.o
    have hsg1 : sigF (S0.v L) S0.nx z32 [97#8] = sigF ((S0.next z32 [97#8]).v (L.next d2)) 0#32 z32 [97#8] := by rw [hx0]; rfl
    have hL1 : 44 + 32 * pT S0.o.toNat + 32 * pathN (S0.v L) S0.nx.toNat = 2220 := by
      rw [hw0.pn (by rw [show hH (S0.v L).t = hH S0.t from rfl, hH2, hx0]; decide), show S0.o = 3#32 from hs0.o, hs0.t]
      rfl
    rw [hL1]
    simp only [↓amD, amU, Nat.reduceBEq, Nat.reduceAdd, Nat.reduceSub, Nat.reduceMul, Nat.reduceMod, Nat.reducePow, Nat.reduceLT, Nat.reduceDiv, Int.reduceToNat, BitVec.reduceToNat, zipEnv, Int.reduceLE, Int.reduceLT, Int.reduceNeg, BitVec.reduceEq, Int.reduceAdd, Int.reduceSub, Int.reduceMul, Nat.reduceLeDiff, Int.reduceEq, amR, n2, r2]
    refine sign_run CT hSg (L := L.next d2) (s := S0.next z32 [97#8]) (d := .sl L8 R2.length [] 0 1 true) (c := z32) (m := [98#8]) (hS2.push _) hw1.ok hso1 rfl (.inr ⟨R2.length, true, rfl, by rw [lv_app0]; rfl⟩) (by decide) (by rw [hlv1, hx1]; decide) (by rw [hl1]; decide) ?_
    intro R3 d3 q3 hS3 hq3 hb3 hf3 hdl3 hln3
    have hw2 := next_whole hw1 hS3
    have hL2 : 44 + 32 * pT (S0.next z32 [97#8]).o.toNat + 32 * pathN ((S0.next z32 [97#8]).v (L.next d2)) (S0.next z32 [97#8]).nx.toNat = 2220 := by
      rw [hw1.pn (by rw [show hH ((S0.next z32 [97#8]).v (L.next d2)).t = hH S0.t from rfl, hH2, hx1]; decide), show (S0.next z32 [97#8]).o = 3#32 from hs0.o, hs1.t]
      rfl
    rw [hL2]
    have hq23 := hf3 _ _ (live_push hq2) (Sgn.els (hS2.push _) (live_push hq2))
    have hs2 : AwS (((S0.next z32 [97#8]).next z32 [98#8]).v ((L.next d2).next d3)) := ⟨hw2, hs0.t, hs0.o, hs0.id, hs0.sd⟩
    have hx2 : ((S0.next z32 [97#8]).next z32 [98#8]).nx = 2#32 := by show S0.nx + 1#32 + 1#32 = _; rw [hx0]; rfl
    have hlv2 : lvN (((S0.next z32 [97#8]).next z32 [98#8]).v ((L.next d2).next d3)) = 2 := hw2.lv.trans hH2
    have hsg1 : sigF (S0.v L) S0.nx z32 [97#8] = sigF (((S0.next z32 [97#8]).next z32 [98#8]).v ((L.next d2).next d3)) 0#32 z32 [97#8] := by rw [hx0]; rfl
    have hsg2 : sigF ((S0.next z32 [97#8]).v (L.next d2)) (S0.next z32 [97#8]).nx z32 [98#8] = sigF (((S0.next z32 [97#8]).next z32 [98#8]).v ((L.next d2).next d3)) 1#32 z32 [98#8] := by rw [hx1]; rfl
    have hlen : ∀ q : BitVec 32, q.toNat < 2 → ∀ m, (sigF (((S0.next z32 [97#8]).next z32 [98#8]).v ((L.next d2).next d3)) q z32 m).length = 2220 := fun q hq m => by
      rw [sigF_len hw2.ok (by rw [hlv2]; exact hq) z32 m rfl, hw2.pn (by rw [show hH (((S0.next z32 [97#8]).next z32 [98#8]).v ((L.next d2).next d3)).t = hH S0.t from rfl, hH2]; exact hq), hs2.o, hs2.t]
      rfl
    rw [hsg1] at hq23
    rw [hsg2] at hq3
    clear hsg1 hsg2 hL1 hL2 hq2
    have hLr : ((L.next d2).next d3).r = L.r := rfl
    generalize (S0.next z32 [97#8]).next z32 [98#8] = S2 at *
    generalize (L.next d2).next d3 = L2 at *
    simp only [↓amD, amU, Nat.reduceBEq, Nat.reduceAdd, Nat.reduceSub, Nat.reduceMul, Nat.reduceMod, Nat.reducePow, Nat.reduceLT, Nat.reduceDiv, Int.reduceToNat, BitVec.reduceToNat, zipEnv, Int.reduceLE, Int.reduceLT, Int.reduceNeg, BitVec.reduceEq, Int.reduceAdd, Int.reduceSub, Int.reduceMul, Nat.reduceLeDiff, Int.reduceEq, amR, n2, r2]
    rw [← hLr]
    refine sign_none CT hSg (L := L2) (s := S2) (d := .sl L8 R3.length [] 0 1 true) (c := z32) (hS3.push _) hw2.ok rfl (by rw [hx2, hlv2]; rfl) ?_
    intro more
    have hS4 := (hS3.push [some ⟨L8, [.raw (u8 99#8)]⟩]).push more
    have q24 := live_app (live_app hq23 [some ⟨L8, [.raw (u8 99#8)]⟩]) more
    have q34 := live_app (live_app hq3 [some ⟨L8, [.raw (u8 99#8)]⟩]) more
    generalize (R3 ++ [some (⟨L8, [.raw (u8 99#8)]⟩ : Row)]) ++ more = R4 at *
    have kP0 := fun k' => kPublicV R4 k' _ _ hS4.rd hw2.ok
    have kP := fun L' k' => kPublicV (R4 ++ L') k' _ _ (hS4.push L').rd hw2.ok
    have hpl := pubSg_len hw2.ok
    have l2 := hlen 0#32 (by decide) [97#8]
    have l3 := hlen 1#32 (by decide) [98#8]
    have v1 : verE (pubSg (S2.v L2)) [97#8] (sigF (S2.v L2) 0#32 z32 [97#8]) = 0 := by
      rw [ver_own hw2 hw2 rfl rfl rfl (by rw [← hw2.lv, hlv2]; decide) z32 [97#8] rfl, if_pos rfl]
    have v2 : verE (pubSg (S2.v L2)) [98#8] (sigF (S2.v L2) 1#32 z32 [98#8]) = 0 := by
      rw [ver_own hw2 hw2 rfl rfl rfl (by rw [← hw2.lv, hlv2]; decide) z32 [98#8] rfl, if_pos rfl]
    have v3 := aw_other hs2
    generalize sigF (S2.v L2) 0#32 z32 [97#8] = A at *
    generalize sigF (S2.v L2) 1#32 z32 [98#8] = B at *
    generalize pubSg (S2.v L2) = PB at *
    simp only [↓amD, amU, Nat.reduceBEq, Nat.reduceAdd, Nat.reduceSub, Nat.reduceMul, Nat.reduceMod, Nat.reducePow, Nat.reduceLT, Nat.reduceDiv, Int.reduceToNat, BitVec.reduceToNat, zipEnv, Int.reduceLE, Int.reduceLT, Int.reduceNeg, BitVec.reduceEq, Int.reduceAdd, Int.reduceSub, Int.reduceMul, Nat.reduceLeDiff, Int.reduceEq, amR, h2, kP, kP0, h3]
    refine Eq.mpr (kVerify _ _ _ _ _ PB [97#8] A (BsIn.own (by rw [lv_app0]; rfl) _ hpl.symm) (BsIn.own (by rw [lv_appk]; rfl) _ rfl) (BsIn.own (live_app q24 _) _ l2.symm) (by omega) (by decide) (by omega)) ?_
    simp only [↓amD, amU, Nat.reduceBEq, Nat.reduceAdd, Nat.reduceSub, Nat.reduceMul, Nat.reduceMod, Nat.reducePow, Nat.reduceLT, Nat.reduceDiv, Int.reduceToNat, BitVec.reduceToNat, zipEnv, Int.reduceLE, Int.reduceLT, Int.reduceNeg, BitVec.reduceEq, Int.reduceAdd, Int.reduceSub, Int.reduceMul, Nat.reduceLeDiff, Int.reduceEq, amR, v1, h2, kP, h3]
    refine Eq.mpr (kVerify _ _ _ _ _ PB [98#8] B (BsIn.own (by rw [lv_appk]; rfl) _ hpl.symm) (BsIn.own (by rw [lv_appk]; rfl) _ rfl) (BsIn.own (live_app q34 _) _ l3.symm) (by omega) (by decide) (by omega)) ?_
    simp only [↓amD, amU, Nat.reduceBEq, Nat.reduceAdd, Nat.reduceSub, Nat.reduceMul, Nat.reduceMod, Nat.reducePow, Nat.reduceLT, Nat.reduceDiv, Int.reduceToNat, BitVec.reduceToNat, zipEnv, Int.reduceLE, Int.reduceLT, Int.reduceNeg, BitVec.reduceEq, Int.reduceAdd, Int.reduceSub, Int.reduceMul, Nat.reduceLeDiff, Int.reduceEq, amR, v2, h2, kP, h3]
    refine Eq.mpr (kVerify _ _ _ _ _ PB [97#8] B (BsIn.own (by rw [lv_appk]; rfl) _ hpl.symm) (BsIn.own (by rw [lv_appk]; rfl) _ rfl) (BsIn.own (live_app q34 _) _ l3.symm) (by omega) (by decide) (by omega)) ?_
    simp only [↓amD, amU, Nat.reduceBEq, Nat.reduceAdd, Nat.reduceSub, Nat.reduceMul, Nat.reduceMod, Nat.reducePow, Nat.reduceLT, Nat.reduceDiv, Int.reduceToNat, BitVec.reduceToNat, zipEnv, Int.reduceLE, Int.reduceLT, Int.reduceNeg, BitVec.reduceEq, Int.reduceAdd, Int.reduceSub, Int.reduceMul, Nat.reduceLeDiff, Int.reduceEq, amR, v3]
    exact .val _ rfl
  · cases h
theorem eq_spot (q q' : BitVec 32) (i j : Int) : eqD (spotD q i) (spotD q' j) = some (decide (q = q' ∧ i = j)) := by
  simp [spotD, eqL, eqD, eqLeaf, it, u32]
  congr 1
  exact decide_eq_decide.2 ⟨fun h => BitVec.eq_of_toNat_eq (by omega), fun h => by rw [h]⟩
theorem toldO_K (q : BitVec 32) (ds : List Nat) (q' : BitVec 32) (i : Int) : ∀ k, toldO (toldK q ds [] k) q' i = if q' = q ∧ 0 ≤ i ∧ i < (k : Int) then some (some ((ds.getD i.toNat 0 : Nat) : Int)) else some none
  | 0 => by
    rw [if_neg (by omega)]
    rfl
  | k + 1 => by
    have ih := toldO_K q ds q' i k
    have he := eq_spot q' q i (k : Int)
    have hen : ∀ v, entOf (.agg (mpS SSpot LI) [spotD q (k : Int), .raw v]) = some (spotD q (k : Int), v) := fun v => rfl
    unfold toldO at ih ⊢
    rw [toldK, mfind, hen]
    simp only [he]
    by_cases c : q' = q ∧ i = (k : Int)
    · rw [decide_eq_true c, if_pos ⟨c.1, by omega, by omega⟩, c.2]
      rfl
    · rw [decide_eq_false c]
      simp only
      rw [ih]
      by_cases c2 : q' = q ∧ 0 ≤ i ∧ i < (k : Int)
      · rw [if_pos c2, if_pos ⟨c2.1, c2.2.1, by omega⟩]
      · rw [if_neg c2, if_neg]
        rintro ⟨d1, d2, d3⟩
        by_cases c3 : i = (k : Int)
        · exact c ⟨d1, c3⟩
        · exact c2 ⟨d1, d2, by omega⟩
structure LW (C CL CT : Ctx) : Prop where
  new : LmC CT
  sgn : LmS CT
  ln : CL.fn 24 = none
  lr : CL.fnr 24 = some (afun CT 4 r_lms_New a_lms_New)
  n1 : C.fn 24 = none
  r1 : C.fnr 24 = some (afun CT 4 r_lms_New a_lms_New)
  n2 : C.fn 29 = none
  r2 : C.fnr 29 = some (afun CT 3 r_lms_Signer_Sign a_lms_Signer_Sign)
  n3 : C.fn 10 = none
  r3 : C.fnr 10 = some (afun CL 4 r_law06_lay a_law06_lay)
  awake : C.fn 9 = some fAwakeL
  cut : C.fn 12 = some fCut
  same : C.fn 16 = some fSame
  join : C.fn 13 = some fJoin
  table : C.fn 31 = some fTable
  alld : C.fn 32 = some fAllD
  rmash : C.fn 33 = some fRMash
  kno : C.fn 34 = some fKnows
  las : C.fn 35 = some fLast0
  sid : C.fn 36 = some fSigned
  lef : C.fn 30 = some fLeft
  frc : C.fn 11 = some fForce
  pub : C.fn 17 = some fPublicK
  pat : C.fn 25 = some fPath
  ver : C.fn 19 = some fVerify
  roo : C.fn 18 = some fRoot
  par : C.fn 14 = some fParts
  cla : C.fn 21 = some fClaim
  opub : C.fn 26 = some fPublic
  clm : C.fn 22 = some fClimb
  rha : C.fn 23 = some fRHash
  lea : C.fn 27 = some fLeaf
  nod : C.fn 28 = some fNode
set_option maxHeartbeats 4000000 in
theorem knows_law (C CL CT : Ctx) (H : LW C CL CT) (t : BitVec 8) (seed c m0 : List (BitVec 8)) (p : Plc) (hsd : seed.length = 32) (hc : c.length = 32) (hm0 : m0.length ≤ 9223372036854775807) :
    afun C 5 r_law06_LmsKnows a_law06_LmsKnows [.raw (u8 t), .agg (.ar 32 L8) (bs seed), .agg (.ar 32 L8) (bs c), .lst L8 (bs m0) false, plcD p] [] (fun d rows => d = .raw (.bool true)) := by
  obtain ⟨pq, pi, pj⟩ := p
  refine afun_mk rfl ?_
  unfold a_law06_LmsKnows r_law06_LmsKnows
  have hz16 : List.replicate 16 (D.raw (u8 0#8)) = bs zid := rfl
  have hO := layO_ok t
  obtain ⟨w3, w2, w1⟩ := (⟨rfl, rfl, rfl⟩ : zid.length = 16 ∧ (1#8).toNat % 2 = 1 ∧ layK 1#8 = 2)
  simp only [hz16, z32_eq, plcD]
  simp only [↓amD, amU, Nat.reduceBEq, Nat.reduceAdd, Nat.reduceSub, Nat.reduceMul, Nat.reduceMod, Nat.reducePow, Nat.reduceLT, Nat.reduceDiv, Int.reduceToNat, BitVec.reduceToNat, zipEnv, Int.reduceLE, Int.reduceLT, Int.reduceNeg, BitVec.reduceEq, Int.reduceAdd, Int.reduceSub, Int.reduceMul, Nat.reduceLeDiff, Int.reduceEq, amR, H.awake, kAwakeL, Bool.not_true, H.n3, H.r3]
  refine lay_run CL CT H.new H.ln H.lr w3 hsd ?_
  intro R1 L hS hK l1 l2 l3 l4 hd
  have hr0 := hK 0 _ rfl
  have hr1 := hK 1 _ rfl
  have hr2 := hK 2 _ rfl
  have hw0 := lay_whole hS w3 hsd
  have hlv := hw0.lv
  have hx0 : (layS 1#8 t zid seed).nx = 0#32 := rfl
  have hl0 : (layS 1#8 t zid seed).last = [] := rfl
  have ht0 : (layS 1#8 t zid seed).tm = [] := rfl
  have hH4 : hH ((layS 1#8 t zid seed).v L).t = 4 := (layH 1#8).trans (by rw [w1])
  rw [hH4] at hlv
  have kc := fun rows k => kCut rows k (.lst L8 (bs m0) false) m0 60 (.inr ⟨false, rfl⟩) hm0 (by rw [List.length_take]; omega)
  have hml : (m0.take (60 : Int).toNat).length ≤ 60 := by rw [List.length_take]; exact Nat.min_le_left _ _
  generalize m0.take (60 : Int).toNat = m at kc hml
  simp only [↓amD, amU, Nat.reduceBEq, Nat.reduceAdd, Nat.reduceSub, Nat.reduceMul, Nat.reduceMod, Nat.reducePow, Nat.reduceLT, Nat.reduceDiv, Int.reduceToNat, BitVec.reduceToNat, zipEnv, Int.reduceLE, Int.reduceLT, Int.reduceNeg, BitVec.reduceEq, Int.reduceAdd, Int.reduceSub, Int.reduceMul, Nat.reduceLeDiff, Int.reduceEq, amR, H.cut, kc, hr1, live_app hr1, H.n2, H.r2]
  have hEl : ∀ (q : Nat) R, q < 3 → Else R L (layS 1#8 t zid seed) q := fun q R hq => by
    have a1 : 3 ≤ L.r := l1
    have a2 : 3 ≤ L.nr := l2
    have a3 : 3 ≤ L.ms := l3
    have a4 : 3 ≤ L.mt := l4
    exact ⟨by omega, by omega, by omega, by omega, fun ex n => by rw [hd]; intro h; cases h⟩
  refine sign_run CT H.sgn (L := L) (s := layS 1#8 t zid seed) (d := .sl L8 R1.length [] 0 m.length false) (c := c) (m := m) (hS.push _) hw0.ok hO hc (.inr ⟨R1.length, false, rfl, by rw [lv_app0]; rfl⟩) (by omega) (by rw [hlv, hx0]; decide) (by rw [hl0]; decide) ?_
  intro R2 d2 q2 hS2 hq2 hb2 hf2 hdl2 hln2
  have g0 := hf2 0 _ (live_app hr0 _) (hEl 0 _ (by decide))
  have g1 := hf2 1 _ (live_app hr1 _) (hEl 1 _ (by decide))
  have g2 := hf2 2 _ (live_app hr2 _) (hEl 2 _ (by decide))
  have hmr : live (R1 ++ [some (⟨L8, bs m⟩ : Row)]) R1.length = some ⟨L8, bs m⟩ := by rw [lv_app0]; rfl
  have g3 := hf2 _ _ hmr (Sgn.els (hS.push _) hmr)
  have hw2 := next_whole hw0 hS2
  have hpt : pT (layO t).toNat ≤ 265 := (parT_ok hO).2.2.1
  have hpw : 2 ^ wT (layO t).toNat ≤ 256 := pow_le (parT_ok hO).1
  have hpp : 1 ≤ pT (layO t).toNat := by unfold layO; split <;> decide
  have hdl := dgS_len (layO t).toNat ⟨zid, 0#32⟩ c m
  have hdg := fun i => digs_le hO (mashS zid 0#32 c m) i
  have hdgS : digitsS (layO t).toNat (mashS zid 0#32 c m) = dgS (layO t).toNat ⟨zid, 0#32⟩ c m := rfl
  have hkn : ∀ p' : Plc, (toldO (((layS 1#8 t zid seed).next c m).v (L.next d2)).tm p'.q p'.i).isSome = true ∧ knB (((layS 1#8 t zid seed).next c m).v (L.next d2)) p' = (decide (p'.q = 0#32 ∧ 0 ≤ p'.i ∧ p'.i < (pT (layO t).toNat : Int)) && (decide (((dgS (layO t).toNat ⟨zid, 0#32⟩ c m).getD p'.i.toNat 0 : Int) ≤ p'.j) && decide (p'.j < (2 ^ wT (layO t).toNat : Nat)))) := fun p' => by
    have e := toldO_K 0#32 (dgS (layO t).toNat ⟨zid, 0#32⟩ c m) p'.q p'.i (pT (layO t).toNat)
    have htm : (((layS 1#8 t zid seed).next c m).v (L.next d2)).tm = toldK 0#32 (dgS (layO t).toNat ⟨zid, 0#32⟩ c m) [] (pT (layO t).toNat) := rfl
    have hz : (((layS 1#8 t zid seed).next c m).v (L.next d2)).o = layO t := rfl
    unfold knB
    rw [htm, e, hz]
    by_cases cc : p'.q = 0#32 ∧ 0 ≤ p'.i ∧ p'.i < (pT (layO t).toNat : Int)
    · rw [if_pos cc, decide_eq_true cc]
      exact ⟨rfl, rfl⟩
    · rw [if_neg cc, decide_eq_false cc]
      exact ⟨rfl, rfl⟩
  have kKn : ∀ more k' q i j, kCall fKnows (R2 ++ more) k' [.ptr SSig L.r [0], .agg SPlc [.raw (u32 q), .raw (it i), .raw (it j)]] = k' (.raw (.bool (decide (q = 0#32 ∧ 0 ≤ i ∧ i < (pT (layO t).toNat : Int)) && (decide (((dgS (layO t).toNat ⟨zid, 0#32⟩ c m).getD i.toNat 0 : Int) ≤ j) && decide (j < (2 ^ wT (layO t).toNat : Nat)))))) (R2 ++ more) := fun more k' q i j => by
    have e := kKnowsV (R2 ++ more) k' _ _ ⟨q, i, j⟩ (hS2.push more).rd hw2.ok hw2.o (hkn ⟨q, i, j⟩).1
    rw [(hkn ⟨q, i, j⟩).2] at e
    exact e
  have hmh : (mashS zid 0#32 c m).length = 32 := sumS_len _
  have kA := fun rows k => kAllD rows k (layO t) (mashS zid 0#32 c m) hmh hO
  have kT := fun rows k => kTable rows k (layO t)
  have hW : wT (layO t).toNat ≤ 8 := by unfold layO; split <;> decide
  rw [hdgS] at kA hdg
  generalize dgS (layO t).toNat ⟨zid, 0#32⟩ c m = ds at *
  generalize pT (layO t).toNat = P at *
  generalize wT (layO t).toNat = W at *
  clear hkn hf2 hEl hmr
  have b3 : BsIn R2 (.sl L8 R1.length [] 0 m.length false) m := BsIn.own g3 _ rfl
  simp only [↓amD, amU, Nat.reduceBEq, Nat.reduceAdd, Nat.reduceSub, Nat.reduceMul, Nat.reduceMod, Nat.reducePow, Nat.reduceLT, Nat.reduceDiv, Int.reduceToNat, BitVec.reduceToNat, zipEnv, Int.reduceLE, Int.reduceLT, Int.reduceNeg, BitVec.reduceEq, Int.reduceAdd, Int.reduceSub, Int.reduceMul, Nat.reduceLeDiff, Int.reduceEq, amR, H.table, kT, g1, H.rmash]
  refine Eq.mpr (kRMash _ _ zid 0#32 c m _ b3 w3 hc (by omega)) ?_
  have A0 := fun L' => live_app g0 L'
  have A1 := fun L' => live_app g1 L'
  have A2 := fun L' => live_app g2 L'
  simp only [↓amD, amU, Nat.reduceBEq, Nat.reduceAdd, Nat.reduceSub, Nat.reduceMul, Nat.reduceMod, Nat.reducePow, Nat.reduceLT, Nat.reduceDiv, Int.reduceToNat, BitVec.reduceToNat, zipEnv, Int.reduceLE, Int.reduceLT, Int.reduceNeg, BitVec.reduceEq, Int.reduceAdd, Int.reduceSub, Int.reduceMul, Nat.reduceLeDiff, Int.reduceEq, amR, H.alld, kA, A0, A1, A2]
  have hLi : live (R2 ++ [some (⟨LI, ds.map natD⟩ : Row)]) R2.length = some ⟨LI, ds.map natD⟩ := by rw [lv_app0]; rfl
  have hLA := fun L' => live_app hLi L'
  have hgt : ∀ n : Nat, n < P → (ds.map natD)[n]? = some (.raw (it ((ds.getD n 0 : Nat) : Int))) := fun n hn => by
    have : n < ds.length := by omega
    simp [List.getD, this, natD]
  have hs1 := shl_it 1 W (by decide) (by omega)
  rw [Nat.one_mul, show ((1 : Nat) : Int) = 1 from rfl] at hs1
  have zP : wz ((P : Int) - 1) = (P : Int) - 1 := wz_id (by omega)
  have gs : (bs seed)[0]? = some (.raw (u8 (seed.getD 0 0#8))) := bs_get (by omega)
  obtain ⟨i0, hi0⟩ : ∃ i0 : Nat, (seed.getD 0 0#8).toNat % P = i0 := ⟨_, rfl⟩
  have hiP : i0 < P := by rw [← hi0]; exact Nat.mod_lt _ (by omega)
  have rm : ((seed.getD 0 0#8).toNat : Int).tmod (P : Int) = (i0 : Int) := by rw [← hi0]; rfl
  have pne : ((P : Int) = 0) = False := eq_false (by omega)
  have d1 := hdg i0
  have f1 : ((0 : Int) ≤ (i0 : Int)) = True := eq_true (by omega)
  have f2 : ((i0 : Int) < (P : Int)) = True := eq_true (by omega)
  have f3 := hgt i0 hiP
  have f4 : wz (((ds.getD i0 0 : Nat) : Int) - 1) = ((ds.getD i0 0 : Nat) : Int) - 1 := wz_id (by omega)
  have f5 : (((ds.getD i0 0 : Nat) : Int) < ((2 ^ W : Nat) : Int)) = True := eq_true (by have := Nat.two_pow_pos W; omega)
  have f6 : (((ds.getD i0 0 : Nat) : Int) ≤ ((ds.getD i0 0 : Nat) : Int) - 1) = False := eq_false (by omega)
  have f7 : (1#32 = 0#32) = False := eq_false (by decide)
  have f8 : (((ds.getD i0 0 : Nat) : Int) ≤ ((ds.getD i0 0 : Nat) : Int)) = True := eq_true (by omega)
  have f9 : (((ds.getD i0 0 : Nat) : Int) - 1 < ((2 ^ W : Nat) : Int)) = True := eq_true (by have := Nat.two_pow_pos W; omega)
  by_cases c1 : pq = 0#32
  · by_cases c2 : 0 ≤ pi
    · by_cases c3 : pi < (P : Int)
      · by_cases c4 : 0 ≤ pj
        · by_cases c5 : pj < ((2 ^ W : Nat) : Int)
          · obtain ⟨n, rfl⟩ : ∃ n : Nat, pi = n := ⟨pi.toNat, by omega⟩
            have mm : max (min (n : Int) ((P : Int) - 1)) 0 = (n : Int) := by omega
            have gn := hgt n (by omega)
            simp only [↓amD, amU, Nat.reduceBEq, Nat.reduceAdd, Nat.reduceSub, Nat.reduceMul, Nat.reduceMod, Nat.reducePow, Nat.reduceLT, Nat.reduceDiv, Int.reduceToNat, BitVec.reduceToNat, zipEnv, Int.reduceLE, Int.reduceLT, Int.reduceNeg, BitVec.reduceEq, Int.reduceAdd, Int.reduceSub, Int.reduceMul, Nat.reduceLeDiff, Int.reduceEq, amR, A0, A1, A2, hLi, hLA, mm, gn, eq_true c1, eq_true c2, eq_true c3, eq_true c4, eq_true c5, hs1, zP, gs, pne, rm, f1, f2, f3, f4, H.kno, kKn, Int.toNat_natCast, f5, f6, f7, f8, f9, and_true, and_false, false_and, decide_true, decide_false, Bool.and_false, Bool.false_and, Bool.and_true, Bool.true_and, beq_self_eq_true, Bool.not_false]
          · simp only [↓amD, amU, Nat.reduceBEq, Nat.reduceAdd, Nat.reduceSub, Nat.reduceMul, Nat.reduceMod, Nat.reducePow, Nat.reduceLT, Nat.reduceDiv, Int.reduceToNat, BitVec.reduceToNat, zipEnv, Int.reduceLE, Int.reduceLT, Int.reduceNeg, BitVec.reduceEq, Int.reduceAdd, Int.reduceSub, Int.reduceMul, Nat.reduceLeDiff, Int.reduceEq, amR, A0, A1, A2, hLi, hLA, eq_true c1, eq_true c2, eq_true c3, eq_true c4, eq_false c5, hs1, zP, gs, pne, rm, f1, f2, f3, f4, H.kno, kKn, Int.toNat_natCast, f5, f6, f7, f8, f9, and_true, and_false, false_and, decide_true, decide_false, Bool.and_false, Bool.false_and, Bool.and_true, Bool.true_and, beq_self_eq_true, Bool.not_false]
        · have c6 : ∀ x : Nat, ((x : Int) ≤ pj) = False := fun x => eq_false (by omega)
          simp only [↓amD, amU, Nat.reduceBEq, Nat.reduceAdd, Nat.reduceSub, Nat.reduceMul, Nat.reduceMod, Nat.reducePow, Nat.reduceLT, Nat.reduceDiv, Int.reduceToNat, BitVec.reduceToNat, zipEnv, Int.reduceLE, Int.reduceLT, Int.reduceNeg, BitVec.reduceEq, Int.reduceAdd, Int.reduceSub, Int.reduceMul, Nat.reduceLeDiff, Int.reduceEq, amR, A0, A1, A2, hLi, hLA, eq_true c1, eq_true c2, eq_true c3, eq_false c4, c6, hs1, zP, gs, pne, rm, f1, f2, f3, f4, H.kno, kKn, Int.toNat_natCast, f5, f6, f7, f8, f9, and_true, and_false, false_and, decide_true, decide_false, Bool.and_false, Bool.false_and, Bool.and_true, Bool.true_and, beq_self_eq_true, Bool.not_false]
      · simp only [↓amD, amU, Nat.reduceBEq, Nat.reduceAdd, Nat.reduceSub, Nat.reduceMul, Nat.reduceMod, Nat.reducePow, Nat.reduceLT, Nat.reduceDiv, Int.reduceToNat, BitVec.reduceToNat, zipEnv, Int.reduceLE, Int.reduceLT, Int.reduceNeg, BitVec.reduceEq, Int.reduceAdd, Int.reduceSub, Int.reduceMul, Nat.reduceLeDiff, Int.reduceEq, amR, A0, A1, A2, hLi, hLA, eq_true c1, eq_true c2, eq_false c3, hs1, zP, gs, pne, rm, f1, f2, f3, f4, H.kno, kKn, Int.toNat_natCast, f5, f6, f7, f8, f9, and_true, and_false, false_and, decide_true, decide_false, Bool.and_false, Bool.false_and, Bool.and_true, Bool.true_and, beq_self_eq_true, Bool.not_false]
    · simp only [↓amD, amU, Nat.reduceBEq, Nat.reduceAdd, Nat.reduceSub, Nat.reduceMul, Nat.reduceMod, Nat.reducePow, Nat.reduceLT, Nat.reduceDiv, Int.reduceToNat, BitVec.reduceToNat, zipEnv, Int.reduceLE, Int.reduceLT, Int.reduceNeg, BitVec.reduceEq, Int.reduceAdd, Int.reduceSub, Int.reduceMul, Nat.reduceLeDiff, Int.reduceEq, amR, A0, A1, A2, hLi, hLA, eq_true c1, eq_false c2, hs1, zP, gs, pne, rm, f1, f2, f3, f4, H.kno, kKn, Int.toNat_natCast, f5, f6, f7, f8, f9, and_true, and_false, false_and, decide_true, decide_false, Bool.and_false, Bool.false_and, Bool.and_true, Bool.true_and, beq_self_eq_true, Bool.not_false]
  · simp only [↓amD, amU, Nat.reduceBEq, Nat.reduceAdd, Nat.reduceSub, Nat.reduceMul, Nat.reduceMod, Nat.reducePow, Nat.reduceLT, Nat.reduceDiv, Int.reduceToNat, BitVec.reduceToNat, zipEnv, Int.reduceLE, Int.reduceLT, Int.reduceNeg, BitVec.reduceEq, Int.reduceAdd, Int.reduceSub, Int.reduceMul, Nat.reduceLeDiff, Int.reduceEq, amR, A0, A1, A2, hLi, hLA, eq_false c1, hs1, zP, gs, pne, rm, f1, f2, f3, f4, H.kno, kKn, Int.toNat_natCast, f5, f6, f7, f8, f9, and_true, and_false, false_and, decide_true, decide_false, Bool.and_false, Bool.false_and, Bool.and_true, Bool.true_and, beq_self_eq_true, Bool.not_false]
end Job
end Go.Am
namespace Go.Am
namespace Job
open Go.Am.F
set_option linter.unusedVariables false
set_option linter.unusedSimpArgs false
set_option maxRecDepth 100000
def typesZ : List (Int × Int × Int) := [(1, 265, 7), (2, 133, 6), (4, 67, 4), (8, 34, 0)]
def G0 : Nat → Option D := fun g => if g = 0 then some typesD else if g = 1 then some (h8D firstL) else if g = 2 then some (w64D roundsL) else none
noncomputable def T0 : List (Nat × Fn) := [(35, fLast0), (36, fSigned), (34, fKnows), (11, fForce), (25, fPath), (17, fPublicK), (30, fLeft), (39, fSite), (37, fLeaves), (22, fClimb), (46, fRHeight), (23, fRHash), (28, fNode), (27, fLeaf), (57, fHash), (40, fFour), (41, fNoneP), (47, fReadK), (45, fHeight), (44, fLNum), (16, fSame), (32, fAllD), (58, fRDig), (59, fBits), (21, fClaim), (48, fSplit), (38, fSign), (26, fPublic), (49, fDigits), (61, fCoef), (52, fEnd), (31, fTable), (43, fParams), (53, fFold), (33, fRMash), (50, fMash), (51, fChain), (56, fSecret), (66, fStep), (63, fFront), (60, fFour), (62, fTwo), (65, fStSum), (64, fFeed), (68, fNew), (71, fPad), (70, fDigest), (54, fRSum), (67, fPressR), (69, fPress), (74, fSpread), (13, fJoin), (55, fNumS), (12, fCut), (20, fValue), (73, fRoots), (72, fTurn), (76, fWord), (75, fRot)]
noncomputable def C : Ctx := ⟨G0, fnTab T0, fun _ => none⟩
theorem G0_none (g : Nat) (h : ¬ g = 0) (h0 : ¬ g = 1) (h1 : ¬ g = 2) : G0 g = none := by
  unfold G0
  rw [if_neg h, if_neg h0, if_neg h1]
def firstZ : List Int := firstL.map fun x => (x.toNat : Int)
def roundsZ : List Int := roundsL.map fun x => (x.toNat : Int)
theorem ctx : CtxOK C P := by
  have c0 := ctx_nil (G := G0) (P := P)
  have c1 := ctx_cons (rot_ok _ c0) c0
  have c2 := ctx_cons (word_ok _ c1) c1
  have c3 := ctx_cons (turn_ok _ c2) c2
  have c4 := ctx_cons (roots_ok _ c3) c3
  have c5 := ctx_cons (value_ok _ c4) c4
  have c6 := ctx_cons (cut_ok _ c5) c5
  have c7 := ctx_cons (num_sl _ c6) c6
  have c8 := ctx_cons (join_ok _ c7) c7
  have c9 := ctx_cons (spread_ok _ c8 rfl rfl) c8
  have c10 := ctx_cons (press_ok _ c9 rfl rfl rfl) c9
  have c11 := ctx_cons (pressR_ok _ c10 rfl rfl rfl) c10
  have c12 := ctx_cons (rsum_ok _ c11 rfl rfl rfl) c11
  have c13 := ctx_cons (digest_ok _ c12) c12
  have c14 := ctx_cons (pad_ok _ c13) c13
  have c15 := ctx_cons (new_ok _ c14 rfl) c14
  have c16 := ctx_cons (feed_meets _ c15 rfl) c15
  have c17 := ctx_cons (stsum_ok _ c16 rfl rfl rfl) c16
  have c18 := ctx_cons (two_ok _ c17) c17
  have c19 := ctx_cons (four_ok _ c18) c18
  have c20 := ctx_cons (front_ok _ c19 rfl rfl rfl) c19
  have c21 := ctx_cons (step_ok _ c20 rfl rfl rfl rfl) c20
  have c22 := ctx_cons (secret_ok _ c21 rfl) c21
  have c23 := ctx_cons (chain_ok _ c22 rfl) c22
  have c24 := ctx_cons (mash_ok _ c23 rfl rfl rfl rfl) c23
  have c25 := ctx_cons (rmash_ok _ c24 rfl rfl rfl) c24
  have c26 := ctx_cons (fold_ok _ c25 rfl rfl rfl rfl) c25
  have c27 := ctx_cons (params_ok _ c26 rfl) c26
  have c28 := ctx_cons (table_ok _ c27) c27
  have c29 := ctx_cons (end_ok _ c28) c28
  have c30 := ctx_cons (coef_ok _ c29) c29
  have c31 := ctx_cons (digits_ok _ c30 rfl rfl rfl rfl) c30
  have c32 := ctx_cons (public_ok _ c31 rfl rfl rfl rfl rfl) c31
  have c33 := ctx_cons (sign_ok _ c32 rfl rfl rfl rfl rfl rfl) c32
  have c34 := ctx_cons (split_ok _ c33 rfl) c33
  have c35 := ctx_cons (claim_ok _ c34 rfl rfl rfl rfl rfl rfl rfl) c34
  have c36 := ctx_cons (bits_ok _ c35) c35
  have c37 := ctx_cons (rdig_ok _ c36) c36
  have c38 := ctx_cons (alld_ok _ c37 rfl rfl rfl rfl rfl) c37
  have c39 := ctx_cons (same_ok _ c38) c38
  have c40 := ctx_cons (lnum_ok _ c39) c39
  have c41 := ctx_cons (height_ok _ c40) c40
  have c42 := ctx_cons (readK_ok _ c41 rfl rfl rfl) c41
  have c43 := ctx_cons (nonep_ok _ c42) c42
  have c44 := ctx_cons (lfour_ok _ c43) c43
  have c45 := ctx_cons (hash_ok _ c44 rfl rfl rfl rfl) c44
  have c46 := ctx_cons (leaf_ok _ c45 rfl) c45
  have c47 := ctx_cons (node_ok _ c46 rfl) c46
  have c48 := ctx_cons (rhash_ok _ c47 rfl rfl rfl) c47
  have c49 := ctx_cons (rheight_ok _ c48) c48
  have c50 := ctx_cons (climb_ok _ c49 rfl) c49
  have c51 := ctx_cons (leaves_ok _ c50) c50
  have c52 := ctx_cons (site_ok _ c51) c51
  have c53 := ctx_cons (left_ok _ c52 rfl) c52
  have c54 := ctx_cons (publicK_ok _ c53 rfl) c53
  have c55 := ctx_cons (path_ok _ c54 rfl) c54
  have c56 := ctx_cons (force_ok _ c55 rfl rfl rfl rfl rfl) c55
  have c57 := ctx_cons (knows_ok _ c56 rfl) c56
  have c58 := ctx_cons (signed_ok _ c57) c57
  exact ctx_cons (last0_ok _ c58) c58
noncomputable def R0 : List (Nat × AFun) := [(24, afun C 4 r_lms_New a_lms_New), (29, afun C 3 r_lms_Signer_Sign a_lms_Signer_Sign), (42, afun C 2 r_lms_take a_lms_take)]
noncomputable def CA : Ctx := ⟨G0, fnTab T0, afTab R0⟩
theorem ctxA : CtxOK CA P := by
  have z : CtxOK ⟨G0, fnTab T0, afTab []⟩ P := ⟨ctx.1, (ctx_nilr (G := G0) (P := P)).2⟩
  have z0 := ctx_consr (m_lms_take C ctx) z
  have z1 := ctx_consr (m_lms_Signer_Sign C ctx) z0
  exact ctx_consr (m_lms_New C ctx) z1
theorem lmC : LmC C := ⟨rfl, rfl, rfl, rfl, rfl, rfl, rfl⟩
theorem lmS : LmS C := ⟨rfl, rfl, rfl, rfl, rfl⟩
noncomputable def T1 : List (Nat × Fn) := (19, fVerify) :: (18, fRoot) :: (14, fParts) :: T0
noncomputable def CB : Ctx := ⟨G0, fnTab T1, afTab R0⟩
theorem ctxB : CtxOK CB P := by
  have c1 := ctx_cons (parts_ok CA C ctxA rfl rfl rfl rfl rfl rfl) ctxA
  have c2 := ctx_cons (root_ok _ c1 rfl rfl rfl rfl rfl rfl) c1
  exact ctx_cons (verify_ok _ c2 rfl rfl) c2
noncomputable def R1 : List (Nat × AFun) := (10, afun CA 4 r_law06_lay a_law06_lay) :: R0
noncomputable def CL : Ctx := ⟨G0, fnTab ((9, fAwakeL) :: T1), afTab R1⟩
theorem ctxL : CtxOK CL P := by
  have c1 := ctx_cons (awakel_ok CB C ctxB lmC lmS rfl rfl rfl rfl rfl rfl rfl) ctxB
  exact ctx_consr (m_law06_lay CA ctxA) c1
theorem lwL : LW CL CA C := ⟨lmC, lmS, rfl, rfl, rfl, rfl, rfl, rfl, rfl, rfl, rfl, rfl, rfl, rfl, rfl, rfl, rfl, rfl, rfl, rfl, rfl, rfl, rfl, rfl, rfl, rfl, rfl, rfl, rfl, rfl, rfl, rfl, rfl⟩
theorem CL_types : CL.glob 0 = some (D.agg (.ar typesZ.length SPar) (typesZ.map triD)) := rfl
theorem CL_first : CL.glob 1 = some (numsD .u32 firstZ) := rfl
theorem CL_rounds : CL.glob 2 = some (numsD .u32 roundsZ) := rfl
theorem CL_glob_none (g : Nat) (h : ¬ g = 0) (h0 : ¬ g = 1) (h1 : ¬ g = 2) : CL.glob g = none := G0_none g h h0 h1
theorem dk_plc (d : D) (h : DK (.struct (.cons (.int .u32) (.cons (.int .i64) (.cons (.int .i64) .nil)))) d) : ∃ p : Plc, d = plcD p := by
  simp only [DK] at h
  obtain ⟨ds, rfl, h0⟩ := h
  rcases ds with _ | ⟨e0, _ | ⟨e1, _ | ⟨e2, _ | ⟨e3, l⟩⟩⟩⟩
  · exact h0.elim
  · exact h0.2.elim
  · exact h0.2.2.elim
  · obtain ⟨h1, h2, h3, -⟩ := h0
    unfold DK at h1 h2 h3
    obtain ⟨q, rfl⟩ := h1
    obtain ⟨a, -, rfl⟩ := h2
    obtain ⟨b, -, rfl⟩ := h3
    exact ⟨⟨q, a, b⟩, rfl⟩
  · exact h0.2.2.2.elim
end Job
end Go.Am
namespace Go.Proofs.YtmhagenbelpnfaaDoor.knows
open Go.Am Go.Am.Job Go.Am.F
open Go.ChangeShapes Go.WideShapes Go.ChangeAt Go.RowKit
set_option linter.unusedVariables false
set_option linter.unusedSimpArgs false
def K : TKs := .cons (.int .u8) (.cons (.arr 32 (.int .u8)) (.cons (.arr 32 (.int .u8)) (.cons (.slice (.int .u8)) (.cons (.struct (.cons (.int .u32) (.cons (.int .i64) (.cons (.int .i64) .nil)))) .nil))))
noncomputable def triT : TypeId := (Tryd.prog.globals[0]?.map (·.type)).getD 0
noncomputable def triE : TypeId := match Tryd.prog.underlying triT with | some (.array _ e) => e | _ => 0
noncomputable def triF : Array Field := match Tryd.prog.underlying triE with | some (.struct fs) => fs | _ => #[]
theorem own : ownKnob Tryd.prog.godebug = none := by kernel_rfl
theorem laid : laidOutB Tryd.prog = true := by kernel_rfl
theorem law (dd : List D) (h : DNs K dd) : afun CL 5 r_law06_LmsKnows a_law06_LmsKnows dd [] (fun d _ => d = .raw (.bool true)) := by
  rcases dd with _ | ⟨d0, _ | ⟨d1, _ | ⟨d2, _ | ⟨d3, _ | ⟨d4, _ | ⟨d5, l⟩⟩⟩⟩⟩⟩
  · exact h.elim
  · exact h.2.elim
  · exact h.2.2.elim
  · exact h.2.2.2.elim
  · exact h.2.2.2.2.elim
  · obtain ⟨h1, h2, h3, h4, h5, -⟩ := h
    unfold DN DK at h1
    obtain ⟨t, rfl⟩ := h1
    obtain ⟨seed, rfl, hsd⟩ := dk_arr8 h2
    obtain ⟨c, rfl, hc⟩ := dk_arr8 h3
    obtain ⟨m, rfl, hm, -⟩ := dn_bs h4
    unfold maxLen at hm
    obtain ⟨p, rfl⟩ := dk_plc _ h5
    exact knows_law CL CA C lwL t seed c m p hsd hc (by omega)
  · exact h.2.2.2.2.2.elim
theorem globs {W : World} (hL : laidMetH Tryd.prog Rows.lmsKnowsRow.laid W) (g : Nat) (d : D) (h : CL.glob g = some d) : LR noPl W (old W) (.cptr d) (.pointer (some ⟨g, 0, none⟩)) := by
  have hL' : laidMet Tryd.prog Rows.lmsKnowsRow.laid W := hL
  by_cases h0 : g = 1
  · subst h0
    have e : numsD .u32 firstZ = d := Option.some.inj ((CL_first : CL.glob 1 = some (numsD .u32 firstZ)).symm.trans h)
    subst e
    exact laid_glob (P := Tryd.prog) (t := (Tryd.prog.globals[1]?.map (·.type)).getD 0) (e := match Tryd.prog.underlying ((Tryd.prog.globals[1]?.map (·.type)).getD 0) with | some (.array _ e) => e | _ => 0) (n := firstZ.length) (name := (Rows.lmsKnowsRow.laid.getD 0 ("", .nil)).1) hL' (List.mem_of_getElem? (i := 0) rfl) (by kernel_rfl) (by kernel_rfl) (by kernel_rfl) (by kernel_rfl) (by kernel_rfl) (by kernel_rfl) (by decide)
  by_cases h1 : g = 2
  · subst h1
    have e : numsD .u32 roundsZ = d := Option.some.inj ((CL_rounds : CL.glob 2 = some (numsD .u32 roundsZ)).symm.trans h)
    subst e
    exact laid_glob (P := Tryd.prog) (t := (Tryd.prog.globals[2]?.map (·.type)).getD 0) (e := match Tryd.prog.underlying ((Tryd.prog.globals[2]?.map (·.type)).getD 0) with | some (.array _ e) => e | _ => 0) (n := roundsZ.length) (name := (Rows.lmsKnowsRow.laid.getD 1 ("", .nil)).1) hL' (List.mem_of_getElem? (i := 1) rfl) (by kernel_rfl) (by kernel_rfl) (by kernel_rfl) (by kernel_rfl) (by kernel_rfl) (by kernel_rfl) (by decide)
  by_cases h2 : g = 0
  · subst h2
    have e : D.agg (.ar typesZ.length SPar) (typesZ.map triD) = d := Option.some.inj ((CL_types : CL.glob 0 = some (D.agg (.ar typesZ.length SPar) (typesZ.map triD))).symm.trans h)
    subst e
    exact laid_triG (P := Tryd.prog) (t := triT) (e := triE) (n := typesZ.length) (fs := triF) (f0 := triF.toList.getD 0 default) (f1 := triF.toList.getD 1 default) (f2 := triF.toList.getD 2 default) (zs := typesZ) (name := (Rows.lmsKnowsRow.laid.getD 2 ("", .nil)).1) hL' (List.mem_of_getElem? (i := 2) rfl) (by kernel_rfl) (by kernel_rfl) (by kernel_rfl) (by kernel_rfl) (by kernel_rfl) (by kernel_rfl) (by kernel_rfl) (by kernel_rfl) (by kernel_rfl) (by kernel_rfl) (by kernel_rfl) (by kernel_rfl) (by kernel_rfl) (by kernel_rfl) (by kernel_rfl) (by kernel_rfl) (by decide)
  · exact absurd h (by rw [CL_glob_none g h2 h0 h1]; exact nofun)
def lay0 : Obj → Obj
  | .cells _ t frozen => .cells (firstZ.map fun z => Value.int .u32 z).toArray t frozen
  | o => o
def lay1 : Obj → Obj
  | .cells _ t frozen => .cells (roundsZ.map fun z => Value.int .u32 z).toArray t frozen
  | o => o
def lay2 : Obj → Obj
  | .cells _ t frozen => .cells (typesZ.flatMap fun z => [Value.int .i64 z.1, Value.int .i64 z.2.1, Value.int .i64 z.2.2]).toArray t frozen
  | o => o
noncomputable def laidWorld (os : Os) : World := { World.holding Tryd.prog os ⟨#[], #[], []⟩ with heap := ((((World.holding Tryd.prog os ⟨#[], #[], []⟩).heap.modify 1 lay0).modify 2 lay1).modify 0 lay2) }
theorem laid_met (os : Os) : laidMet Tryd.prog Rows.lmsKnowsRow.laid ((laidWorld os).forCall (fun _ _ => 0) ⟨#[], #[.int .u8 0, .agg (Array.replicate 32 (Value.int .u8 0)), .agg (Array.replicate 32 (Value.int .u8 0)), .slice none 0 0, .agg #[.int .u32 0, .int .i64 0, .int .i64 0]], []⟩).memory :=
  laidMet_of_run' 8 (by kernel_rfl) (by kernel_rfl)
theorem reads (os : Os) {H : Type} (enc : TypeId × Value → H) : ∃ places, DataW.whole enc Tryd.prog ((laidWorld os).forCall (fun _ _ => 0) ⟨#[], #[.int .u8 0, .agg (Array.replicate 32 (Value.int .u8 0)), .agg (Array.replicate 32 (Value.int .u8 0)), .slice none 0 0, .agg #[.int .u32 0, .int .i64 0, .int .i64 0]], []⟩).memory Tryd.f7.params.toList Rows.lmsKnowsSpec.vars false #[.int .u8 0, .agg (Array.replicate 32 (Value.int .u8 0)), .agg (Array.replicate 32 (Value.int .u8 0)), .slice none 0 0, .agg #[.int .u32 0, .int .i64 0, .int .i64 0]].toList 8 = some ([.lit (.int .u8 0), .agg (List.replicate 32 (.lit (.int .u8 0))), .agg (List.replicate 32 (.lit (.int .u8 0))), .nil, .agg [.lit (.int .u32 0), .lit (.int .i64 0), .lit (.int .i64 0)]], [], places) :=
  ⟨[], by kernel_rfl⟩
set_option maxRecDepth 100000 in
theorem lifted (os : Os) (started : os.Started) (H : Type) (enc : TypeId × Value → H) (F : Stop.Interp) :
    ReturnsInHanded {} Tryd.checked os 7 .any ((OpenSpec.ofChange Rows.lmsKnowsSpec).preRow enc Tryd.prog Tryd.f7 Rows.lmsKnowsRow.domain false Rows.lmsKnowsRow.laid) (((OpenSpec.ofChange Rows.lmsKnowsSpec).at F).post enc Tryd.prog Tryd.f7 false true false false) := by
  obtain ⟨places, hx⟩ := reads os enc
  refine returnsInHanded_of_row (C := Tryd.checked) (s := (OpenSpec.ofChange Rows.lmsKnowsSpec)) own started (by kernel_rfl) Tryd.func7
    (witness_row_at (enc := enc) (C := Tryd.checked) false (laidWorld os) #[.int .u8 0, .agg (Array.replicate 32 (Value.int .u8 0)), .agg (Array.replicate 32 (Value.int .u8 0)), .slice none 0 0, .agg #[.int .u32 0, .int .i64 0, .int .i64 0]] rfl (by kernel_rfl) (by kernel_rfl) (by kernel_rfl)
      (OpenSpec.preRow_of_cond 8 hx (by kernel_rfl) (fun k hk => by cases hk) (by kernel_rfl) (laid_met os))) ?_
  intro W base args ds gs before hval hW _ _ _ hL _ _
  exact row_law (m_law06_LmsKnows CL ctxL) laid (n := 9) (ks := K) (tb := Tryd.f7.resultTypes.getD 0 0) (by kernel_rfl) (by kernel_rfl) rfl (by kernel_rfl) (by kernel_rfl) (fun ds h => by match ds, h with | [_, _, _, _, _], _ => rfl) (fun dd h _ => law dd h) hval hW (fun g d h => globs hL g d h)
theorem over : Rows.LmsKnowsSaid :=
  OpenClaim.holds_of_cond 7 Tryd.f7 rfl rfl rfl rfl rfl rfl rfl ⟨rfl, rfl, rfl, rfl, rfl⟩ rfl rfl rfl rfl rfl (by kernel_rfl) Tryd.func7 (by kernel_rfl)
    (of_decide_eq_true (by kernel_rfl)) (by unfold Func.isWrapper; first | (rw [if_pos (by decide +kernel)]; kernel_rfl) | (rw [if_neg (by decide +kernel)]; exact ⟨rfl, rfl⟩))
    (fun os started H enc _ F => by rw [OpenClaim.pre_eq_preRow]; exact lifted os started H enc F)
theorem plain (f : FuncId) (fn : Func) (hf : Tryd.pinned.checked.prog.funcNamed Rows.lmsKnowsRow.func = some f) (hfn : Tryd.pinned.checked.prog.funcs[f]? = some fn) :
    false = Tryd.pinned.checked.prog.looks [] ∧ ∀ (j : Nat) t, fn.params[j]? = some t → Tryd.pinned.checked.prog.wantsStandIn t = false := by
  obtain rfl : f = 7 := (Option.some.inj ((show Tryd.prog.funcNamed Rows.lmsKnowsRow.func = some 7 by kernel_rfl).symm.trans hf)).symm
  obtain rfl : fn = Tryd.f7 := (Option.some.inj (Tryd.func7.symm.trans hfn)).symm
  refine ⟨by kernel_rfl, fun j t ht => ?_⟩
  have hall : (Tryd.f7.params.toList.all fun t => !Tryd.prog.wantsStandIn t) = true := by kernel_rfl
  have := List.all_eq_true.1 hall t (by simpa using Array.mem_of_getElem? ht)
  exact (by simpa using this : Tryd.prog.wantsStandIn t = false)
theorem proved : Rows.LmsKnowsCardSaid :=
  Claim7.holds_tied_plain_at .later [] _ _ _ _ over (fun _ h => by cases h) (by kernel_rfl) (fun _ h => by cases h) lmsKnows_row_tie rfl ⟨rfl, rfl⟩ (by kernel_rfl) rfl plain (by kernel_rfl)
end Go.Proofs.YtmhagenbelpnfaaDoor.knows
