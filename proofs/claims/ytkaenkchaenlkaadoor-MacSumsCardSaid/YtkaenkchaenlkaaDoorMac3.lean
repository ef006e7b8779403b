/- HMAC: the laws on sums, on equality, on keys -/
import Derived.Test.YtkaenkchaenlkaaDoorMac2
namespace Go.Am
set_option linter.unusedSimpArgs false
set_option linter.unusedVariables false
attribute [local congr] bnd_congr kCond_congr kGd_congr kPick_congr kCall_congr kIdx_congr kSlice_congr kLoop_congr cond_congr' aBin_congr aBounds_congr aApp_congr aCopy_congr kFn_congr
namespace Job
open Go.Am.F
set_option maxRecDepth 10000
theorem min_nat (a b : Nat) : min (a : Int) (b : Int) = ((min a b : Nat) : Int) := by omega
theorem two (w : List (BitVec 8)) (A : Nat) (h : A ≤ w.length) : [w.take A, (w.drop A).take (w.length - A)].flatten = w := by
  have e1 : (w.drop A).take (w.length - A) = w.drop A := List.take_of_length_le (by rw [List.length_drop]; omega)
  simp only [List.flatten_cons, List.flatten_nil, List.append_nil, e1, List.take_append_drop]
theorem macsums_ok (C : Ctx) (h7 : C.fn 7 = some fAwake) (h8 : C.fn 8 = some fCut) (h9 : C.fn 9 = some fRMac) (h10 : C.fn 10 = some fMNew) (h11 : C.fn 11 = some fMFeed) (h12 : C.fn 12 = some fMSum) (h13 : C.fn 13 = some fMacSum)
    (k0 p0 : List (BitVec 8)) (hk0 : k0.length ≤ 9223372036854775807) (hp0 : p0.length ≤ 9223372036854775807) (cut : BitVec 16) : afun C 3 r_law02_MacSums a_law02_MacSums [.lst L8 (bs k0) false, .lst L8 (bs p0) false, .raw (u16 cut)] [] (fun d _ => d = .raw (.bool true)) := by
  refine afun_mk rfl ?_
  have kc := fun rows k => kCut rows k (.lst L8 (bs k0) false) k0 200 (.inr ⟨_, rfl⟩) hk0 (by rw [List.length_take]; omega)
  have kd := fun rows k => kCut rows k (.lst L8 (bs p0) false) p0 300 (.inr ⟨_, rfl⟩) hp0 (by rw [List.length_take]; omega)
  have hkl : (k0.take 200).length ≤ 200 := by rw [List.length_take]; omega
  have hrl : (p0.take 300).length ≤ 300 := by rw [List.length_take]; omega
  have e2 : (200 : Int).toNat = 200 := rfl
  have e3 : (300 : Int).toNat = 300 := rfl
  simp only [e2, e3] at kc kd
  generalize k0.take 200 = key at kc hkl
  generalize p0.take 300 = w at kd hrl
  obtain ⟨A, hA⟩ : ∃ A, min cut.toNat w.length = A := ⟨_, rfl⟩
  have hAw : A ≤ w.length := by omega
  have f1 : ((0 : Int) ≤ (A : Int)) = True := eq_true (by omega)
  have f5 : ((A : Int) ≤ (w.length : Int)) = True := eq_true (by omega)
  have g2 : (w.drop A).take (w.length - A) = w.drop A := List.take_of_length_le (by rw [List.length_drop]; omega)
  have o1 := newM_ok key
  have o2 := feedM_ok o1 (w.take A)
  have o3 := feedM_ok o2 (w.drop A)
  have s3 : sumM (feedM (feedM (newM key) (w.take A)) (w.drop A)) = hmac key w := by rw [feedM_app, List.take_append_drop]; rfl
  have s2 : sumM (feedM (newM key) (w.take A)) = hmac key (w.take A) := rfl
  unfold a_law02_MacSums r_law02_MacSums
  simp only [↓amD, amU, Nat.reduceBEq, Nat.reduceAdd, Nat.reduceSub, Nat.reduceMul, Nat.reduceMod, Nat.reducePow, Nat.reduceLT, Nat.reduceDiv, Int.reduceToNat, BitVec.reduceToNat, zipEnv, Int.reduceLE, Int.reduceLT, Int.reduceNeg, BitVec.reduceEq, Int.reduceAdd, Int.reduceSub, Int.reduceMul, Nat.reduceLeDiff, Int.reduceEq, h7, h8, h9, h10, kAwake, kc, kd, cond_true, cond_false, min_nat, hA]
  refine Eq.mpr (kRMac _ _ _ _ key w (BsIn.own rfl _ rfl) (BsIn.own rfl _ rfl) (by omega) (by omega)) ?_
  simp only [↓amD, amU, Nat.reduceBEq, Nat.reduceAdd, Nat.reduceSub, Nat.reduceMul, Nat.reduceMod, Nat.reducePow, Nat.reduceLT, Nat.reduceDiv, Int.reduceToNat, BitVec.reduceToNat, zipEnv, Int.reduceLE, Int.reduceLT, Int.reduceNeg, BitVec.reduceEq, Int.reduceAdd, Int.reduceSub, Int.reduceMul, Nat.reduceLeDiff, Int.reduceEq, h10, h11]
  refine Eq.mpr (kMNew _ _ _ key (BsIn.own rfl _ rfl) (by omega)) ?_
  simp only [↓amD, amU, Nat.reduceBEq, Nat.reduceAdd, Nat.reduceSub, Nat.reduceMul, Nat.reduceMod, Nat.reducePow, Nat.reduceLT, Nat.reduceDiv, Int.reduceToNat, BitVec.reduceToNat, zipEnv, Int.reduceLE, Int.reduceLT, Int.reduceNeg, BitVec.reduceEq, Int.reduceAdd, Int.reduceSub, Int.reduceMul, Nat.reduceLeDiff, Int.reduceEq, h11, f1, f5, Nat.sub_zero]
  refine Eq.mpr (kMFeed _ _ _ _ ((w.drop 0).take A) (BsIn.sub rfl (by omega)) o1) ?_
  rw [List.drop_zero]
  simp only [↓amD, amU, Nat.reduceBEq, Nat.reduceAdd, Nat.reduceSub, Nat.reduceMul, Nat.reduceMod, Nat.reducePow, Nat.reduceLT, Nat.reduceDiv, Int.reduceToNat, BitVec.reduceToNat, zipEnv, Int.reduceLE, Int.reduceLT, Int.reduceNeg, BitVec.reduceEq, Int.reduceAdd, Int.reduceSub, Int.reduceMul, Nat.reduceLeDiff, Int.reduceEq, h12, h13, mac_fits, kMSum _ _ _ o2]
  refine Eq.mpr (kMacSum _ _ _ key _ 1 _ _ [w] (BsIn.own rfl _ rfl) (by omega) rfl rfl (.cons (BsIn.own rfl _ rfl) .nil) (by simp) (by simp; omega)) ?_
  have hw1 : [w].flatten = w := by simp
  rw [hw1]
  simp only [↓amD, amU, Nat.reduceBEq, Nat.reduceAdd, Nat.reduceSub, Nat.reduceMul, Nat.reduceMod, Nat.reducePow, Nat.reduceLT, Nat.reduceDiv, Int.reduceToNat, BitVec.reduceToNat, zipEnv, Int.reduceLE, Int.reduceLT, Int.reduceNeg, BitVec.reduceEq, Int.reduceAdd, Int.reduceSub, Int.reduceMul, Nat.reduceLeDiff, Int.reduceEq, eqL_bs, h13, f1, f5, Nat.sub_zero]
  refine Eq.mpr (kMacSum _ _ _ key _ 2 _ _ [(w.drop 0).take A, (w.drop A).take (w.length - A)] (BsIn.own rfl _ rfl) (by omega) rfl rfl (.cons (BsIn.sub rfl (by omega)) (.cons (BsIn.sub rfl (by omega)) .nil)) (by simp) (by rw [List.drop_zero, two w A hAw]; omega)) ?_
  rw [List.drop_zero, two w A hAw]
  simp only [↓amD, amU, Nat.reduceBEq, Nat.reduceAdd, Nat.reduceSub, Nat.reduceMul, Nat.reduceMod, Nat.reducePow, Nat.reduceLT, Nat.reduceDiv, Int.reduceToNat, BitVec.reduceToNat, zipEnv, Int.reduceLE, Int.reduceLT, Int.reduceNeg, BitVec.reduceEq, Int.reduceAdd, Int.reduceSub, Int.reduceMul, Nat.reduceLeDiff, Int.reduceEq, eqL_bs, h11, f1, f5, Nat.sub_zero]
  refine Eq.mpr (kMFeed _ _ _ _ ((w.drop A).take (w.length - A)) (BsIn.sub rfl (by omega)) o2) ?_
  rw [g2]
  simp only [↓amD, amU, Nat.reduceBEq, Nat.reduceAdd, Nat.reduceSub, Nat.reduceMul, Nat.reduceMod, Nat.reducePow, Nat.reduceLT, Nat.reduceDiv, Int.reduceToNat, BitVec.reduceToNat, zipEnv, Int.reduceLE, Int.reduceLT, Int.reduceNeg, BitVec.reduceEq, Int.reduceAdd, Int.reduceSub, Int.reduceMul, Nat.reduceLeDiff, Int.reduceEq, h12, kMSum _ _ _ o3, s3, eqL_bs, kMSum _ _ _ o2, s2, h9, f1, f5, Nat.sub_zero]
  refine Eq.mpr (kRMac _ _ _ _ key ((w.drop 0).take A) (BsIn.own rfl _ rfl) (BsIn.sub rfl (by omega)) (by omega) (by rw [List.length_take]; omega)) ?_
  rw [List.drop_zero]
  simp only [↓amD, amU, Nat.reduceBEq, Nat.reduceAdd, Nat.reduceSub, Nat.reduceMul, Nat.reduceMod, Nat.reducePow, Nat.reduceLT, Nat.reduceDiv, Int.reduceToNat, BitVec.reduceToNat, zipEnv, Int.reduceLE, Int.reduceLT, Int.reduceNeg, BitVec.reduceEq, Int.reduceAdd, Int.reduceSub, Int.reduceMul, Nat.reduceLeDiff, Int.reduceEq, eqL_bs]
theorem eqL_dec : ∀ (a b : List (BitVec 8)), a.length = b.length → eqL (bs a) (bs b) = some (decide (a = b))
  | [], [], _ => rfl
  | x :: a, y :: b, h => by
    have ih := eqL_dec a b (by simpa using h)
    have e1 : eqD (.raw (u8 x)) (.raw (u8 y)) = some (decide (x = y)) := by
      simp only [eqD, eqLeaf, u8, if_true]
      congr 1
      refine decide_eq_decide.2 ⟨fun h => BitVec.eq_of_toNat_eq (by omega), fun h => by rw [h]⟩
    show eqL (.raw (u8 x) :: bs a) (.raw (u8 y) :: bs b) = _
    rw [eL_c, e1, ih]
    simp [Bool.decide_and]
theorem xor_self_iff (a t : BitVec 8) : a = a ^^^ t ↔ t = 0#8 := by
  constructor
  · intro h
    have : a ^^^ a = a ^^^ (a ^^^ t) := by rw [← h]
    rw [← BitVec.xor_assoc, BitVec.xor_self, BitVec.zero_xor] at this
    exact this.symm
  · rintro rfl; simp
theorem set_iff (a : List (BitVec 8)) (j : Nat) (t : BitVec 8) (h : j < a.length) : decide (a = a.set j (a.getD j 0#8 ^^^ t)) = decide (t = 0#8) := by
  refine decide_eq_decide.2 (Iff.trans ⟨fun hh => ?_, fun hh => ?_⟩ (xor_self_iff (a.getD j 0#8) t))
  · have := congrArg (fun l => l.getD j 0#8) hh
    simpa [List.getD, h] using this
  · rw [← hh]
    refine List.ext_getElem (by simp) fun i h1 h2 => ?_
    rw [List.getElem_set]
    split
    · rename_i e; subst e; simp [List.getD, h]
    · rfl
theorem macequals_ok (C : Ctx) (h7 : C.fn 7 = some fAwake) (h14 : C.fn 14 = some fMEqual)
    (a b : List (BitVec 8)) (ha : a.length = 32) (hb : b.length = 32) (at_ t : BitVec 8) : afun C 4 r_law02_MacEquals a_law02_MacEquals [.agg (.ar 32 L8) (bs a), .agg (.ar 32 L8) (bs b), .raw (u8 at_), .raw (u8 t)] [] (fun d _ => d = .raw (.bool true)) := by
  refine afun_mk rfl ?_
  obtain ⟨j, hj⟩ : ∃ j, (at_ % 32#8).toNat = j := ⟨_, rfl⟩
  have hj32 : j < 32 := by rw [← hj, BitVec.toNat_umod]; exact Nat.mod_lt _ (by decide)
  have e1 : ((0 : Int) ≤ (j : Int)) = True := eq_true (by omega)
  have e2 : ((j : Int) < 32) = True := eq_true (by omega)
  have e3 : (32#8 : BitVec 8) ≠ 0#8 := by decide
  have g1 : (bs a)[j]? = some (.raw (u8 (a.getD j 0#8))) := bs_get (by omega)
  have hs : (a.set j (a.getD j 0#8 ^^^ t)).length = 32 := by simp [ha]
  have hd := set_iff a j t (by omega)
  generalize hc : a.set j (a.getD j 0#8 ^^^ t) = c at *
  unfold a_law02_MacEquals r_law02_MacEquals
  simp only [↓amD, amU, Nat.reduceBEq, Nat.reduceAdd, Nat.reduceSub, Nat.reduceMul, Nat.reduceMod, Nat.reducePow, Nat.reduceLT, Nat.reduceDiv, Int.reduceToNat, BitVec.reduceToNat, zipEnv, Int.reduceLE, Int.reduceLT, Int.reduceNeg, BitVec.reduceEq, Int.reduceAdd, Int.reduceSub, Int.reduceMul, Nat.reduceLeDiff, Int.reduceEq, h7, kAwake, hj, e1, e2, e3, g1, bs_set, hc, h14, kMEqual _ _ _ _ ha hb, kMEqual _ _ _ _ ha ha, kMEqual _ _ _ _ ha hs, eqL_dec a b (by omega), hd, decide_true, beq_self_eq_true]
theorem keyS_sum (k : List (BitVec 8)) (h : 64 < k.length) : keyS (sumS k) = keyS k := by
  rw [keyS, keyS, if_pos h, if_neg (by rw [sumS_len]; decide)]
theorem keyS_zeros (k : List (BitVec 8)) (z : Nat) (h : k.length + z ≤ 64) : keyS (k ++ List.replicate z 0#8) = keyS k := by
  rw [keyS, keyS, if_neg (by simp; omega), if_neg (by omega)]
  simp only [fill8, List.append_assoc, List.replicate_append_replicate]
  congr 2
  simp; omega
theorem hmac_key {k k' : List (BitVec 8)} (h : keyS k = keyS k') (p : List (BitVec 8)) : hmac k p = hmac k' p := by simp only [hmac, newM, h]
theorem mackeys_ok (C : Ctx) (h7 : C.fn 7 = some fAwake) (h8 : C.fn 8 = some fCut) (h13 : C.fn 13 = some fMacSum) (h15 : C.fn 15 = some fRSum) (h16 : C.fn 16 = some fJoin)
    (k0 p0 : List (BitVec 8)) (hk0 : k0.length ≤ 9223372036854775807) (hp0 : p0.length ≤ 9223372036854775807) (n : BitVec 8) : afun C 3 r_law02_MacKeys a_law02_MacKeys [.lst L8 (bs k0) false, .lst L8 (bs p0) false, .raw (u8 n)] [] (fun d _ => d = .raw (.bool true)) := by
  refine afun_mk rfl ?_
  have kc := fun rows k => kCut rows k (.lst L8 (bs k0) false) k0 150 (.inr ⟨_, rfl⟩) hk0 (by rw [List.length_take]; omega)
  have kd := fun rows k => kCut rows k (.lst L8 (bs p0) false) p0 80 (.inr ⟨_, rfl⟩) hp0 (by rw [List.length_take]; omega)
  have hkl : (k0.take 150).length ≤ 150 := by rw [List.length_take]; omega
  have hrl : (p0.take 80).length ≤ 80 := by rw [List.length_take]; omega
  have e2 : (150 : Int).toNat = 150 := rfl
  have e3 : (80 : Int).toNat = 80 := rfl
  simp only [e2, e3] at kc kd
  generalize k0.take 150 = key at kc hkl
  generalize p0.take 80 = w at kd hrl
  have hw1 : [w].flatten = w := by simp
  have hsl := sumS_len key
  unfold a_law02_MacKeys r_law02_MacKeys
  by_cases hl : 64 < key.length
  · have c1 : ((key.length : Int) ≤ 64) = False := eq_false (by omega)
    have c2 : ((64 : Int) < (key.length : Int)) = True := eq_true (by omega)
    simp only [↓amD, amU, Nat.reduceBEq, Nat.reduceAdd, Nat.reduceSub, Nat.reduceMul, Nat.reduceMod, Nat.reducePow, Nat.reduceLT, Nat.reduceDiv, Int.reduceToNat, BitVec.reduceToNat, zipEnv, Int.reduceLE, Int.reduceLT, Int.reduceNeg, BitVec.reduceEq, Int.reduceAdd, Int.reduceSub, Int.reduceMul, Nat.reduceLeDiff, Int.reduceEq, h7, h8, kAwake, kc, kd, h15]
    refine Eq.mpr (kRSum _ _ _ key (BsIn.own rfl _ rfl) (by omega)) ?_
    simp only [↓amD, amU, Nat.reduceBEq, Nat.reduceAdd, Nat.reduceSub, Nat.reduceMul, Nat.reduceMod, Nat.reducePow, Nat.reduceLT, Nat.reduceDiv, Int.reduceToNat, BitVec.reduceToNat, zipEnv, Int.reduceLE, Int.reduceLT, Int.reduceNeg, BitVec.reduceEq, Int.reduceAdd, Int.reduceSub, Int.reduceMul, Nat.reduceLeDiff, Int.reduceEq, c1, c2, h13, decide_true, decide_false]
    refine Eq.mpr (kMacSum _ _ _ key _ 1 _ _ [w] (BsIn.own rfl _ rfl) (by omega) rfl rfl (.cons (BsIn.own rfl _ rfl) .nil) (by simp) (by simp; omega)) ?_
    rw [hw1]
    simp only [↓amD, amU, Nat.reduceBEq, Nat.reduceAdd, Nat.reduceSub, Nat.reduceMul, Nat.reduceMod, Nat.reducePow, Nat.reduceLT, Nat.reduceDiv, Int.reduceToNat, BitVec.reduceToNat, zipEnv, Int.reduceLE, Int.reduceLT, Int.reduceNeg, BitVec.reduceEq, Int.reduceAdd, Int.reduceSub, Int.reduceMul, Nat.reduceLeDiff, Int.reduceEq, c1, c2, h13, decide_true, decide_false]
    refine Eq.mpr (kMacSum _ _ _ (((sumS key).drop 0).take 32) _ 1 _ _ [w] (BsIn.arr rfl (by omega)) (by rw [List.length_take]; omega) rfl rfl (.cons (BsIn.own rfl _ rfl) .nil) (by simp) (by simp; omega)) ?_
    have hq : ((sumS key).drop 0).take 32 = sumS key := by rw [List.drop_zero, List.take_of_length_le (by omega)]
    rw [hw1, hq, hmac_key (keyS_sum key hl)]
    simp only [↓amD, amU, Nat.reduceBEq, Nat.reduceAdd, Nat.reduceSub, Nat.reduceMul, Nat.reduceMod, Nat.reducePow, Nat.reduceLT, Nat.reduceDiv, Int.reduceToNat, BitVec.reduceToNat, zipEnv, Int.reduceLE, Int.reduceLT, Int.reduceNeg, BitVec.reduceEq, Int.reduceAdd, Int.reduceSub, Int.reduceMul, Nat.reduceLeDiff, Int.reduceEq, eqL_bs, c1, c2, decide_true, decide_false]
  · have c1 : ((key.length : Int) ≤ 64) = True := eq_true (by omega)
    have c2 : ((64 : Int) < (key.length : Int)) = False := eq_false (by omega)
    obtain ⟨z, hz⟩ : ∃ z, n.toNat % (65 - key.length) = z := ⟨_, rfl⟩
    have hz64 : z ≤ 64 - key.length := by have := Nat.mod_lt n.toNat (show 0 < 65 - key.length by omega); omega
    have m1 : min (key.length : Int) 64 = (key.length : Int) := by omega
    have m2 : wz (65 - (key.length : Int)) = ((65 - key.length : Nat) : Int) := by rw [wz_id (by omega)]; omega
    have m3 : (((65 - key.length : Nat) : Int) = 0) = False := eq_false (by omega)
    have m4 : ((n.toNat : Int).tmod ((65 - key.length : Nat) : Int)) = (z : Int) := by rw [Int.tmod_eq_emod_of_nonneg (by omega)]; omega
    have m5 : ((0 : Int) ≤ (z : Int)) = True := eq_true (by omega)
    have m6 : ((z : Int) ≤ (z : Int)) = True := eq_true (by omega)
    have m7 : ((z : Int) ≤ 1099511627776) = True := eq_true (by omega)
    simp only [↓amD, amU, Nat.reduceBEq, Nat.reduceAdd, Nat.reduceSub, Nat.reduceMul, Nat.reduceMod, Nat.reducePow, Nat.reduceLT, Nat.reduceDiv, Int.reduceToNat, BitVec.reduceToNat, zipEnv, Int.reduceLE, Int.reduceLT, Int.reduceNeg, BitVec.reduceEq, Int.reduceAdd, Int.reduceSub, Int.reduceMul, Nat.reduceLeDiff, Int.reduceEq, h7, h8, kAwake, kc, kd, h15]
    refine Eq.mpr (kRSum _ _ _ key (BsIn.own rfl _ rfl) (by omega)) ?_
    simp only [↓amD, amU, Nat.reduceBEq, Nat.reduceAdd, Nat.reduceSub, Nat.reduceMul, Nat.reduceMod, Nat.reducePow, Nat.reduceLT, Nat.reduceDiv, Int.reduceToNat, BitVec.reduceToNat, zipEnv, Int.reduceLE, Int.reduceLT, Int.reduceNeg, BitVec.reduceEq, Int.reduceAdd, Int.reduceSub, Int.reduceMul, Nat.reduceLeDiff, Int.reduceEq, c1, c2, h13, decide_true, decide_false]
    refine Eq.mpr (kMacSum _ _ _ key _ 1 _ _ [w] (BsIn.own rfl _ rfl) (by omega) rfl rfl (.cons (BsIn.own rfl _ rfl) .nil) (by simp) (by simp; omega)) ?_
    rw [hw1]
    simp only [↓amD, amU, Nat.reduceBEq, Nat.reduceAdd, Nat.reduceSub, Nat.reduceMul, Nat.reduceMod, Nat.reducePow, Nat.reduceLT, Nat.reduceDiv, Int.reduceToNat, BitVec.reduceToNat, zipEnv, Int.reduceLE, Int.reduceLT, Int.reduceNeg, BitVec.reduceEq, Int.reduceAdd, Int.reduceSub, Int.reduceMul, Nat.reduceLeDiff, Int.reduceEq, c1, c2, h13, h16, cond_true, cond_false, m1, m2, m3, m4, m5, m6, m7, Int.mul_one, decide_true, decide_false]
    rw [bs_rep]
    have hrl2 : (List.replicate z 0#8).length = z := by simp
    refine Eq.mpr (kJoin _ _ _ 2 _ _ [key, List.replicate z 0#8] rfl rfl (.cons (BsIn.own rfl _ rfl) (.cons (BsIn.own rfl _ hrl2.symm) .nil)) (by simp) (by simp; omega)) ?_
    have hj : [key, List.replicate z 0#8].flatten = key ++ List.replicate z 0#8 := by simp
    rw [hj]
    simp only [↓amD, amU, Nat.reduceBEq, Nat.reduceAdd, Nat.reduceSub, Nat.reduceMul, Nat.reduceMod, Nat.reducePow, Nat.reduceLT, Nat.reduceDiv, Int.reduceToNat, BitVec.reduceToNat, zipEnv, Int.reduceLE, Int.reduceLT, Int.reduceNeg, BitVec.reduceEq, Int.reduceAdd, Int.reduceSub, Int.reduceMul, Nat.reduceLeDiff, Int.reduceEq, h13]
    refine Eq.mpr (kMacSum _ _ _ (key ++ List.replicate z 0#8) _ 1 _ _ [w] (BsIn.own rfl _ (by rw [List.length_append])) (by simp; omega) rfl rfl (.cons (BsIn.own rfl _ rfl) .nil) (by simp) (by simp; omega)) ?_
    rw [hw1, hmac_key (keyS_zeros key z (by omega))]
    simp only [↓amD, amU, Nat.reduceBEq, Nat.reduceAdd, Nat.reduceSub, Nat.reduceMul, Nat.reduceMod, Nat.reducePow, Nat.reduceLT, Nat.reduceDiv, Int.reduceToNat, BitVec.reduceToNat, zipEnv, Int.reduceLE, Int.reduceLT, Int.reduceNeg, BitVec.reduceEq, Int.reduceAdd, Int.reduceSub, Int.reduceMul, Nat.reduceLeDiff, Int.reduceEq, eqL_bs]
end Job
end Go.Am
