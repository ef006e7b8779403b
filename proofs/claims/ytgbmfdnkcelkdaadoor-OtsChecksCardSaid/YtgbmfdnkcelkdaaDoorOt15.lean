/- LM-OTS: the law of signatures -/
import Derived.Test.YtgbmfdnkcelkdaaDoorOt14
namespace Go.Am
set_option linter.unusedSimpArgs false
set_option linter.unusedVariables false
attribute [local congr] bnd_congr kCond_congr kGd_congr kPick_congr kCall_congr kIdx_congr kSlice_congr kLoop_congr cond_congr' aBin_congr aBounds_congr aApp_congr aCopy_congr kFn_congr
namespace Job
open Go.Am.F
set_option maxRecDepth 10000
structure OG (C : Ctx) : Prop extends OF C where
  kind : C.fn 26 = some fKind
  alld : C.fn 13 = some fAllD
  bits : C.fn 16 = some fBits
  rdig : C.fn 15 = some fRDig
set_option maxHeartbeats 4000000 in
theorem signs_law (C : Ctx) (H : OG C) (t : BitVec 8) (id : List (BitVec 8)) (q : BitVec 32) (seed c m0 : List (BitVec 8)) (hid : id.length = 16) (hsd : seed.length = 32) (hc : c.length = 32) (hm0 : m0.length ≤ 9223372036854775807) :
    afun C 6 r_law05_OtsSigns a_law05_OtsSigns [.raw (u8 t), .agg (.ar 16 L8) (bs id), .raw (u32 q), .agg (.ar 32 L8) (bs seed), .agg (.ar 32 L8) (bs c), .lst L8 (bs m0) false] [] (fun d rows => d = .raw (.bool true)) := by
  refine afun_mk rfl ?_
  unfold a_law05_OtsSigns r_law05_OtsSigns
  simp only [z_site0, z32_eq]
  have sf := site_fits
  have e32 : ∀ y : List (BitVec 8), y.length = 32 → eqA (.ar 32 L8) (.agg (.ar 32 L8) (bs y)) (.agg (.ar 32 L8) (bs y)) = some true := fun y hy => by rw [eqA_d32 y y hy hy, decide_eq_true rfl]
  have kc := fun rows k => kCut rows k (.lst L8 (bs m0) false) m0 100 (.inr ⟨false, rfl⟩) hm0 (by rw [List.length_take]; omega)
  have hml : (m0.take (100 : Int).toNat).length ≤ 100 := by rw [List.length_take]; exact Nat.min_le_left _ _
  generalize m0.take (100 : Int).toNat = m at kc hml
  have hT := kind_ok t
  generalize hTT : kindS t = T at *
  have kK := fun rows k => kKind rows k t
  rw [hTT] at kK
  have kP := fun rows k => kPublic rows k T ⟨id, q⟩ seed hid hsd hT
  have hpl : (pubS T.toNat ⟨id, q⟩ seed).length = 32 := sumS_len _
  have hE := sig_len T ⟨id, q⟩ seed c m hc hT
  have hsl := signS_len T ⟨id, q⟩ seed c m hc
  have hsT := sig_T T ⟨id, q⟩ seed c m
  have hsC := sig_C T ⟨id, q⟩ seed c m hc
  have hcs := claim_sign T ⟨id, q⟩ seed c m hc hT
  have hck := sig_chunk T ⟨id, q⟩ seed c m hc
  have hpt : pT T.toNat ≤ 265 := (parT_ok hT).2.2.1
  have hpw : 2 ^ wT T.toNat ≤ 256 := pow_le (parT_ok hT).1
  have kTb := fun rows k => kTable rows k T
  have l1 := e32 _ hpl
  have l2 := e32 c hc
  have q1 : wz (32 * (pT T.toNat : Int)) = ((32 * pT T.toNat : Nat) : Int) := by rw [wz_id (by omega)]; omega
  have q2 : wz (36 + ((32 * pT T.toNat : Nat) : Int)) = ((36 + 32 * pT T.toNat : Nat) : Int) := by rw [wz_id (by omega)]; omega
  simp only [↓amD, amU, Nat.reduceBEq, Nat.reduceAdd, Nat.reduceSub, Nat.reduceMul, Nat.reduceMod, Nat.reducePow, Nat.reduceLT, Nat.reduceDiv, Int.reduceToNat, BitVec.reduceToNat, zipEnv, Int.reduceLE, Int.reduceLT, Int.reduceNeg, BitVec.reduceEq, Int.reduceAdd, Int.reduceSub, Int.reduceMul, Nat.reduceLeDiff, Int.reduceEq, lv_app0, lv_appk, set_app0, set_appk, List.append_assoc, List.append_nil, Nat.add_assoc, H.awake, kAwakeO, H.kind, kK, site_mk, sf, H.cut, kc, H.pub, kP, H.sign]
  refine Eq.mpr (kSign _ _ T ⟨id, q⟩ seed c m _ (BsIn.own rfl _ rfl) hid hsd hc hT) ?_
  generalize signS T ⟨id, q⟩ seed c m = SIG at *
  generalize pubS T.toNat ⟨id, q⟩ seed = PUB at *
  simp only [↓amD, amU, Nat.reduceBEq, Nat.reduceAdd, Nat.reduceSub, Nat.reduceMul, Nat.reduceMod, Nat.reducePow, Nat.reduceLT, Nat.reduceDiv, Int.reduceToNat, BitVec.reduceToNat, zipEnv, Int.reduceLE, Int.reduceLT, Int.reduceNeg, BitVec.reduceEq, Int.reduceAdd, Int.reduceSub, Int.reduceMul, Nat.reduceLeDiff, Int.reduceEq, lv_app0, lv_appk, set_app0, set_appk, List.append_assoc, List.append_nil, Nat.add_assoc, sf, H.claim]
  refine Eq.mpr (kClaim _ _ ⟨id, q⟩ _ _ SIG m (BsIn.own rfl _ hsl.symm) (BsIn.own rfl _ rfl) hid (by omega) hE) ?_
  rw [hcs]
  simp only [↓amD, amU, Nat.reduceBEq, Nat.reduceAdd, Nat.reduceSub, Nat.reduceMul, Nat.reduceMod, Nat.reducePow, Nat.reduceLT, Nat.reduceDiv, Int.reduceToNat, BitVec.reduceToNat, zipEnv, Int.reduceLE, Int.reduceLT, Int.reduceNeg, BitVec.reduceEq, Int.reduceAdd, Int.reduceSub, Int.reduceMul, Nat.reduceLeDiff, Int.reduceEq, lv_app0, lv_appk, set_app0, set_appk, List.append_assoc, List.append_nil, Nat.add_assoc, sf, H.split]
  have kSp := fun rows k d hd => kSplit rows k d SIG hd (by omega) hE
  rw [hsT, hsC] at kSp
  refine Eq.mpr (kSp _ _ _ (BsIn.own rfl _ hsl.symm)) ?_
  simp only [↓amD, amU, Nat.reduceBEq, Nat.reduceAdd, Nat.reduceSub, Nat.reduceMul, Nat.reduceMod, Nat.reducePow, Nat.reduceLT, Nat.reduceDiv, Int.reduceToNat, BitVec.reduceToNat, zipEnv, Int.reduceLE, Int.reduceLT, Int.reduceNeg, BitVec.reduceEq, Int.reduceAdd, Int.reduceSub, Int.reduceMul, Nat.reduceLeDiff, Int.reduceEq, lv_app0, lv_appk, set_app0, set_appk, List.append_assoc, List.append_nil, Nat.add_assoc, sf, H.table, kTb, l1, l2, q1, q2, Bool.not_true, H.rmash]
  refine Eq.mpr (kRMash _ _ id q c m _ (BsIn.own rfl _ rfl) hid hc (by omega)) ?_
  have hmh : (mashS id q c m).length = 32 := sumS_len _
  have kA := fun rows k => kAllD rows k T (mashS id q c m) hmh hT
  have hdl := dgS_len T.toNat ⟨id, q⟩ c m
  have hdg := digs_le hT (mashS id q c m)
  simp only [↓amD, amU, Nat.reduceBEq, Nat.reduceAdd, Nat.reduceSub, Nat.reduceMul, Nat.reduceMod, Nat.reducePow, Nat.reduceLT, Nat.reduceDiv, Int.reduceToNat, BitVec.reduceToNat, zipEnv, Int.reduceLE, Int.reduceLT, Int.reduceNeg, BitVec.reduceEq, Int.reduceAdd, Int.reduceSub, Int.reduceMul, Nat.reduceLeDiff, Int.reduceEq, lv_app0, lv_appk, set_app0, set_appk, List.append_assoc, List.append_nil, Nat.add_assoc, H.alld, kA]
  have gd : ∀ i, i < pT T.toNat → ((digitsS T.toNat (mashS id q c m)).map natD)[i]? = some (.raw (it ((dgS T.toNat ⟨id, q⟩ c m).getD i 0 : Int))) := fun i hi => by
    have hl : i < (digitsS T.toNat (mashS id q c m)).length := by rw [show (digitsS T.toNat (mashS id q c m)).length = pT T.toNat from hdl]; exact hi
    simp [natD, dgS, List.getD, hl]
  have hai : ∀ i, (dgS T.toNat ⟨id, q⟩ c m).getD i 0 ≤ 255 := fun i => by have : (dgS T.toNat ⟨id, q⟩ c m).getD i 0 ≤ 2 ^ wT T.toNat - 1 := hdg i; omega
  have gc : ∀ i, i < pT T.toNat → ((chunks SIG (pT T.toNat)).map d32D)[i]? = some (.agg (.ar 32 L8) (bs (chunk SIG i))) := fun i hi => by simp [chunks, d32D, hi]
  generalize digitsS T.toNat (mashS id q c m) = DG at *
  generalize (chunks SIG (pT T.toNat)).map d32D = CK at *
  generalize pT T.toNat = n at *
  have b0 : ∀ n : Nat, ((0 : Int) ≤ (n : Int)) = True := fun n => eq_true (by omega)
  refine kLoop_up n (fun i env rows => has env [(128, .raw (it (i : Int))), (127, .raw (it (n : Int))), (126, .sl LI 10 [] 0 n false), (23, .sl (.ar 32 L8) 8 [] 0 n false), (9, .ptr (.ar 32 L8) 1 [0]), (7, .ptr (.ar 16 L8) 0 [0]), (2, .raw (u32 q))] ∧
    live rows 0 = some ⟨.ar 16 L8, [.agg (.ar 16 L8) (bs id)]⟩ ∧ live rows 1 = some ⟨.ar 32 L8, [.agg (.ar 32 L8) (bs seed)]⟩ ∧ live rows 8 = some ⟨.ar 32 L8, CK⟩ ∧ live rows 10 = some ⟨LI, DG.map natD⟩) ?_ ?_ ⟨?_, rfl, rfl, rfl, rfl⟩
  · rintro i hi env rows ⟨hh, r0, r1, r8, r10⟩ R hR
    simp only [has] at hh
    have e0 : ((i : Int) < (n : Int)) = True := eq_true (by omega)
    have e1 := wz_succ i (by omega)
    have gi := gd i hi
    have gk := gc i hi
    have hki := hck i hi
    have ha := hai i
    generalize (dgS T.toNat ⟨id, q⟩ c m).getD i 0 = a at *
    have f4 : (i : Int).tmod 20 = ((i % 20 : Nat) : Int) := by rw [Int.tmod_eq_emod_of_nonneg (by omega)]; omega
    by_cases c20 : i % 20 = 0
    · have c20' : (((i % 20 : Nat) : Int) = 0) = True := eq_true (by omega)
      by_cases ca : a < 20
      · have ca' : ((a : Int) < 20) = True := eq_true (by omega)
        have kS := fun rows k => kRStep rows k id q i 255 seed hid (by omega) (by decide) hsd
        rw [show ((255 : Nat) : Int) = 255 from rfl, show stepS id q i 255 seed = secS id q i seed from rfl] at kS
        have hsec : (secS id q i seed).length = 32 := stepS_len _ _ _ _ _
        have lt10 := live_lt r10
        have r0A := fun L => live_app r0 L
        have r1A := fun L => live_app r1 L
        have r8A := fun L => live_app r8 L
        have r10A := fun L => live_app r10 L
        simp only [↓amD, amU, Nat.reduceBEq, Nat.reduceAdd, Nat.reduceSub, Nat.reduceMul, Nat.reduceMod, Nat.reducePow, Nat.reduceLT, Nat.reduceDiv, Int.reduceToNat, BitVec.reduceToNat, zipEnv, Int.reduceLE, Int.reduceLT, Int.reduceNeg, BitVec.reduceEq, Int.reduceAdd, Int.reduceSub, Int.reduceMul, Nat.reduceLeDiff, Int.reduceEq, lv_app0, lv_appk, set_app0, set_appk, List.append_assoc, List.append_nil, Nat.add_assoc, hh, e0, e1, b0, r0, r1, r8, r10, gi, f4, c20', ca', decide_true, H.rstep, kS]
        have z8 := r8A [some ⟨.ar 32 L8, [.agg (.ar 32 L8) (bs (secS id q i seed))]⟩]
        have z0 := r0A [some ⟨.ar 32 L8, [.agg (.ar 32 L8) (bs (secS id q i seed))]⟩]
        have z1 := r1A [some ⟨.ar 32 L8, [.agg (.ar 32 L8) (bs (secS id q i seed))]⟩]
        have z10 := r10A [some ⟨.ar 32 L8, [.agg (.ar 32 L8) (bs (secS id q i seed))]⟩]
        have zx : live (rows ++ [some ⟨.ar 32 L8, [.agg (.ar 32 L8) (bs (secS id q i seed))]⟩]) rows.length = some ⟨.ar 32 L8, [.agg (.ar 32 L8) (bs (secS id q i seed))]⟩ := by rw [lv_app0]; rfl
        generalize rows ++ [some ⟨.ar 32 L8, [.agg (.ar 32 L8) (bs (secS id q i seed))]⟩] = R1 at *
        generalize rows.length = nx at *
        refine kLoop_up a (fun j env rows => has env [(31, .raw (it (j : Int))), (30, .ptr (.ar 32 L8) nx [0]), (29, .raw (it (a : Int))), (28, .raw (it (i : Int))), (128, .raw (it (i : Int))), (127, .raw (it (n : Int))), (126, .sl LI 10 [] 0 n false), (23, .sl (.ar 32 L8) 8 [] 0 n false), (9, .ptr (.ar 32 L8) 1 [0]), (7, .ptr (.ar 16 L8) 0 [0]), (2, .raw (u32 q))] ∧
          live rows nx = some ⟨.ar 32 L8, [.agg (.ar 32 L8) (bs (chS id q i j 0 (secS id q i seed)))]⟩ ∧ live rows 0 = some ⟨.ar 16 L8, [.agg (.ar 16 L8) (bs id)]⟩ ∧ live rows 1 = some ⟨.ar 32 L8, [.agg (.ar 32 L8) (bs seed)]⟩ ∧ live rows 8 = some ⟨.ar 32 L8, CK⟩ ∧ live rows 10 = some ⟨LI, DG.map natD⟩) ?_ ?_ ⟨?_, zx, z0, z1, z8, z10⟩
        · clear hh
          rintro j hj env rows ⟨hh, rx, r0, r1, r8, r10⟩ R2 hR2
          simp only [has] at hh
          have e0 : ((j : Int) < (a : Int)) = True := eq_true (by omega)
          have e1 := wz_succ j (by omega)
          have hcl := chS_len id q i j 0 _ hsec
          have kS := fun rows k => kRStep rows k id q i j _ hid (by omega) (by omega) hcl
          have hsu := chS_succ id q i j 0 (secS id q i seed)
          rw [Nat.zero_add] at hsu
          simp only [↓amD, amU, Nat.reduceBEq, Nat.reduceAdd, Nat.reduceSub, Nat.reduceMul, Nat.reduceMod, Nat.reducePow, Nat.reduceLT, Nat.reduceDiv, Int.reduceToNat, BitVec.reduceToNat, zipEnv, Int.reduceLE, Int.reduceLT, Int.reduceNeg, BitVec.reduceEq, Int.reduceAdd, Int.reduceSub, Int.reduceMul, Nat.reduceLeDiff, Int.reduceEq, lv_app0, lv_appk, set_app0, set_appk, List.append_assoc, List.append_nil, Nat.add_assoc, hh, e0, e1, r0, rx, H.rstep, kS, ← hsu]
          exact hR2 _ _ ⟨by simp only [has, ↓amD, amU, Nat.reduceBEq, Nat.reduceAdd, Nat.reduceSub, Nat.reduceMul, Nat.reduceMod, Nat.reducePow, Nat.reduceLT, Nat.reduceDiv, Int.reduceToNat, BitVec.reduceToNat, zipEnv, Int.reduceLE, Int.reduceLT, Int.reduceNeg, BitVec.reduceEq, Int.reduceAdd, Int.reduceSub, Int.reduceMul, Nat.reduceLeDiff, Int.reduceEq, hh], live_set_eq rx, live_set_o r0 (by omega), live_set_o r1 (by omega), live_set_o r8 (by omega), live_set_o r10 (by omega)⟩
        · clear hh
          rintro env rows ⟨hh, rx, r0, r1, r8, r10⟩ R2
          simp only [has] at hh
          have e0 : ((a : Int) < (a : Int)) = False := eq_false (by omega)
          have hcl := chS_len id q i a 0 _ hsec
          have l3 := e32 _ hcl
          rw [hki] at gk
          simp only [↓amD, amU, Nat.reduceBEq, Nat.reduceAdd, Nat.reduceSub, Nat.reduceMul, Nat.reduceMod, Nat.reducePow, Nat.reduceLT, Nat.reduceDiv, Int.reduceToNat, BitVec.reduceToNat, zipEnv, Int.reduceLE, Int.reduceLT, Int.reduceNeg, BitVec.reduceEq, Int.reduceAdd, Int.reduceSub, Int.reduceMul, Nat.reduceLeDiff, Int.reduceEq, lv_app0, lv_appk, set_app0, set_appk, List.append_assoc, List.append_nil, Nat.add_assoc, hh, e0, e1, b0, r8, rx, gk, l3, Bool.not_true]
          have e9 := wz_succ i (by omega)
          exact ⟨by omega, hR _ _ ⟨by simp only [has, ↓amD, amU, Nat.reduceBEq, Nat.reduceAdd, Nat.reduceSub, Nat.reduceMul, Nat.reduceMod, Nat.reducePow, Nat.reduceLT, Nat.reduceDiv, Int.reduceToNat, BitVec.reduceToNat, zipEnv, Int.reduceLE, Int.reduceLT, Int.reduceNeg, BitVec.reduceEq, Int.reduceAdd, Int.reduceSub, Int.reduceMul, Nat.reduceLeDiff, Int.reduceEq, hh, e9], r0, r1, r8, r10⟩⟩
        · simp only [has, ↓amD, amU, Nat.reduceBEq, Nat.reduceAdd, Nat.reduceSub, Nat.reduceMul, Nat.reduceMod, Nat.reducePow, Nat.reduceLT, Nat.reduceDiv, Int.reduceToNat, BitVec.reduceToNat, zipEnv, Int.reduceLE, Int.reduceLT, Int.reduceNeg, BitVec.reduceEq, Int.reduceAdd, Int.reduceSub, Int.reduceMul, Nat.reduceLeDiff, Int.reduceEq, hh]
      · have ca' : ((a : Int) < 20) = False := eq_false (by omega)
        simp only [↓amD, amU, Nat.reduceBEq, Nat.reduceAdd, Nat.reduceSub, Nat.reduceMul, Nat.reduceMod, Nat.reducePow, Nat.reduceLT, Nat.reduceDiv, Int.reduceToNat, BitVec.reduceToNat, zipEnv, Int.reduceLE, Int.reduceLT, Int.reduceNeg, BitVec.reduceEq, Int.reduceAdd, Int.reduceSub, Int.reduceMul, Nat.reduceLeDiff, Int.reduceEq, lv_app0, lv_appk, set_app0, set_appk, List.append_assoc, List.append_nil, Nat.add_assoc, hh, e0, e1, b0, r0, r1, r8, r10, gi, f4, c20', ca', decide_true, decide_false]
        exact hR _ _ ⟨by simp only [has, ↓amD, amU, Nat.reduceBEq, Nat.reduceAdd, Nat.reduceSub, Nat.reduceMul, Nat.reduceMod, Nat.reducePow, Nat.reduceLT, Nat.reduceDiv, Int.reduceToNat, BitVec.reduceToNat, zipEnv, Int.reduceLE, Int.reduceLT, Int.reduceNeg, BitVec.reduceEq, Int.reduceAdd, Int.reduceSub, Int.reduceMul, Nat.reduceLeDiff, Int.reduceEq, hh], r0, r1, r8, r10⟩
    · have c20' : (((i % 20 : Nat) : Int) = 0) = False := eq_false (by omega)
      simp only [↓amD, amU, Nat.reduceBEq, Nat.reduceAdd, Nat.reduceSub, Nat.reduceMul, Nat.reduceMod, Nat.reducePow, Nat.reduceLT, Nat.reduceDiv, Int.reduceToNat, BitVec.reduceToNat, zipEnv, Int.reduceLE, Int.reduceLT, Int.reduceNeg, BitVec.reduceEq, Int.reduceAdd, Int.reduceSub, Int.reduceMul, Nat.reduceLeDiff, Int.reduceEq, lv_app0, lv_appk, set_app0, set_appk, List.append_assoc, List.append_nil, Nat.add_assoc, hh, e0, e1, b0, r0, r1, r8, r10, gi, f4, c20', decide_false]
      exact hR _ _ ⟨by simp only [has, ↓amD, amU, Nat.reduceBEq, Nat.reduceAdd, Nat.reduceSub, Nat.reduceMul, Nat.reduceMod, Nat.reducePow, Nat.reduceLT, Nat.reduceDiv, Int.reduceToNat, BitVec.reduceToNat, zipEnv, Int.reduceLE, Int.reduceLT, Int.reduceNeg, BitVec.reduceEq, Int.reduceAdd, Int.reduceSub, Int.reduceMul, Nat.reduceLeDiff, Int.reduceEq, hh], r0, r1, r8, r10⟩
  · rintro env rows ⟨hh, -⟩ R
    simp only [has] at hh
    have e0 : ((n : Int) < (n : Int)) = False := eq_false (by omega)
    simp only [↓amD, amU, Nat.reduceBEq, Nat.reduceAdd, Nat.reduceSub, Nat.reduceMul, Nat.reduceMod, Nat.reducePow, Nat.reduceLT, Nat.reduceDiv, Int.reduceToNat, BitVec.reduceToNat, zipEnv, Int.reduceLE, Int.reduceLT, Int.reduceNeg, BitVec.reduceEq, Int.reduceAdd, Int.reduceSub, Int.reduceMul, Nat.reduceLeDiff, Int.reduceEq, lv_app0, lv_appk, set_app0, set_appk, List.append_assoc, List.append_nil, Nat.add_assoc, hh, e0]
  · simp only [has, ↓amD, amU, Nat.reduceBEq, Nat.reduceAdd, Nat.reduceSub, Nat.reduceMul, Nat.reduceMod, Nat.reducePow, Nat.reduceLT, Nat.reduceDiv, Int.reduceToNat, BitVec.reduceToNat, zipEnv, Int.reduceLE, Int.reduceLT, Int.reduceNeg, BitVec.reduceEq, Int.reduceAdd, Int.reduceSub, Int.reduceMul, Nat.reduceLeDiff, Int.reduceEq]
end Job
end Go.Am
