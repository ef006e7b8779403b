/- SHA-256: the law on runs of one byte -/
import Derived.Test.YtbdbmholcjaajaaDoorSha10
namespace Go.Am
set_option linter.unusedSimpArgs false
set_option linter.unusedVariables false
attribute [local congr] bnd_congr kCond_congr kGd_congr kPick_congr kCall_congr kIdx_congr kSlice_congr kLoop_congr cond_congr' aBin_congr aBounds_congr aApp_congr aCopy_congr kFn_congr
namespace Job
open Go.Am.F
set_option maxRecDepth 10000
theorem runs_ok (C : Ctx) (h8 : C.fn 8 = some fAwake) (h10 : C.fn 10 = some fRSum) (h11 : C.fn 11 = some fSum) (h12 : C.fn 12 = some fNew) (h13 : C.fn 13 = some fFeed) (h14 : C.fn 14 = some fStSum)
    (b : BitVec 8) (n : BitVec 16) : afun C 2 r_law01_ShaRuns a_law01_ShaRuns [.raw (u8 b), .raw (u16 n)] [] (fun d _ => d = .raw (.bool true)) := by
  refine afun_mk rfl ?_
  obtain ⟨N, hN⟩ : ∃ N, n.toNat % 600 = N := ⟨_, rfl⟩
  have hN6 : N < 600 := by omega
  have tm : ((n.toNat : Int).tmod 600) = (N : Int) := by rw [Int.tmod_eq_emod_of_nonneg (by omega)]; omega
  have f1 : ((0 : Int) ≤ (N : Int)) = True := eq_true (by omega)
  have f2 : ((N : Int) ≤ (N : Int)) = True := eq_true (by omega)
  have f3 : ((N : Int) * ((1 : Nat) : Int) ≤ 1099511627776) = True := eq_true (by omega)
  have f4 : ((N : Int) ≤ 1099511627776) = True := eq_true (by omega)
  unfold a_law01_ShaRuns r_law01_ShaRuns
  simp only [↓amD, amU, Nat.reduceBEq, Nat.reduceAdd, Nat.reduceSub, Nat.reduceMul, Nat.reduceMod, Nat.reducePow, Nat.reduceLT, Nat.reduceDiv, Int.reduceToNat, BitVec.reduceToNat, zipEnv, Int.reduceLE, Int.reduceLT, Int.reduceNeg, BitVec.reduceEq, Int.reduceAdd, Int.reduceSub, Int.reduceMul, Nat.reduceLeDiff, Int.reduceEq, h8, kAwake, cond_true, cond_false, tm, f1, f2, f3, f4, Int.mul_one]
  refine kLoop_up N (fun i env rows => has env [(0, .raw (u8 b)), (5, .sl L8 0 [] 0 N true), (15, .raw (it (N : Int))), (16, .raw (it (i : Int)))] ∧ rows = [some ⟨L8, bs (List.replicate i b ++ List.replicate (N - i) 0#8)⟩]) ?_ ?_ ⟨?_, ?_⟩
  · rintro i hi env rows ⟨hh, rfl⟩ R hR
    simp only [has] at hh
    obtain ⟨q0, q5, q15, q16, -⟩ := hh
    have e0 : ((i : Int) < (N : Int)) = True := eq_true (by omega)
    have e1 : ((0 : Int) ≤ (i : Int)) = True := eq_true (by omega)
    have e2 := wz_succ i (by omega)
    have g1 : (bs (List.replicate i b ++ List.replicate (N - i) 0#8))[i]? = some (.raw (u8 ((List.replicate i b ++ List.replicate (N - i) 0#8).getD i 0#8))) := bs_get (by simp; omega)
    have g2 : (List.replicate i b ++ List.replicate (N - i) 0#8).set i b = List.replicate (i + 1) b ++ List.replicate (N - (i + 1)) 0#8 := by
      obtain ⟨k, hk⟩ : ∃ k, N - i = k + 1 := ⟨N - i - 1, by omega⟩
      have h2 : N - (i + 1) = k := by omega
      rw [hk, h2, List.replicate_succ, List.set_append_right _ _ (by simp), List.replicate_succ']
      simp
    simp only [↓amD, amU, Nat.reduceBEq, Nat.reduceAdd, Nat.reduceSub, Nat.reduceMul, Nat.reduceMod, Nat.reducePow, Nat.reduceLT, Nat.reduceDiv, Int.reduceToNat, BitVec.reduceToNat, zipEnv, Int.reduceLE, Int.reduceLT, Int.reduceNeg, BitVec.reduceEq, Int.reduceAdd, Int.reduceSub, Int.reduceMul, Nat.reduceLeDiff, Int.reduceEq, q0, q5, q15, q16, e0, e1, e2, g1, bs_set, g2, decide_true]
    exact hR _ _ ⟨by simp only [has, ↓amD, amU, Nat.reduceBEq, Nat.reduceAdd, Nat.reduceSub, Nat.reduceMul, Nat.reduceMod, Nat.reducePow, Nat.reduceLT, Nat.reduceDiv, Int.reduceToNat, BitVec.reduceToNat, zipEnv, Int.reduceLE, Int.reduceLT, Int.reduceNeg, BitVec.reduceEq, Int.reduceAdd, Int.reduceSub, Int.reduceMul, Nat.reduceLeDiff, Int.reduceEq, q0, q5, q15], rfl⟩
  · rintro env rows ⟨hh, rfl⟩ R
    simp only [has] at hh
    obtain ⟨q0, q5, q15, q16, -⟩ := hh
    have e0 : ((N : Int) < (N : Int)) = False := eq_false (by omega)
    have g0 : List.replicate N b ++ List.replicate (N - N) 0#8 = List.replicate N b := by simp
    rw [g0]
    simp only [↓amD, amU, Nat.reduceBEq, Nat.reduceAdd, Nat.reduceSub, Nat.reduceMul, Nat.reduceMod, Nat.reducePow, Nat.reduceLT, Nat.reduceDiv, Int.reduceToNat, BitVec.reduceToNat, zipEnv, Int.reduceLE, Int.reduceLT, Int.reduceNeg, BitVec.reduceEq, Int.reduceAdd, Int.reduceSub, Int.reduceMul, Nat.reduceLeDiff, Int.reduceEq, q0, q5, q15, q16, e0, h12, kNew, st_fits, decide_false]
    refine kLoop_up N (fun i env rows => has env [(0, .raw (u8 b)), (5, .sl L8 0 [] 0 N true), (7, .ptr S1 1 [0]), (26, .raw (it (N : Int))), (27, .raw (it (i : Int)))] ∧ live rows 0 = some ⟨L8, bs (List.replicate N b)⟩ ∧ live rows 1 = some ⟨S1, [stD (feed st0 (List.replicate i b))]⟩) ?_ ?_ ⟨?_, rfl, rfl⟩
    · rintro i hi env rows ⟨hh, r0, r1⟩ R hR
      simp only [has] at hh
      obtain ⟨q0, q5, q7, q26, q27, -⟩ := hh
      have e0 : ((i : Int) < (N : Int)) = True := eq_true (by omega)
      have e2 := wz_succ i (by omega)
      have o1 := feed_ok (List.replicate i b) st0 st0_ok
      have hs : feed (feed st0 (List.replicate i b)) [b] = feed st0 (List.replicate (i + 1) b) := by rw [← feed_app, List.replicate_succ']
      simp only [↓amD, amU, Nat.reduceBEq, Nat.reduceAdd, Nat.reduceSub, Nat.reduceMul, Nat.reduceMod, Nat.reducePow, Nat.reduceLT, Nat.reduceDiv, Int.reduceToNat, BitVec.reduceToNat, zipEnv, Int.reduceLE, Int.reduceLT, Int.reduceNeg, BitVec.reduceEq, Int.reduceAdd, Int.reduceSub, Int.reduceMul, Nat.reduceLeDiff, Int.reduceEq, lv_app0, lv_appk, set_app0, set_appk, List.append_assoc, List.append_nil, Nat.add_assoc, q0, q5, q7, q26, q27, e0, r1, h13, decide_true]
      refine Eq.mpr (kFeed _ _ _ _ [b] (BsIn.own (l := [b]) (live_len (x := ⟨L8, bs [b]⟩)) 1 rfl) o1) ?_
      rw [hs]
      simp only [↓amD, amU, Nat.reduceBEq, Nat.reduceAdd, Nat.reduceSub, Nat.reduceMul, Nat.reduceMod, Nat.reducePow, Nat.reduceLT, Nat.reduceDiv, Int.reduceToNat, BitVec.reduceToNat, zipEnv, Int.reduceLE, Int.reduceLT, Int.reduceNeg, BitVec.reduceEq, Int.reduceAdd, Int.reduceSub, Int.reduceMul, Nat.reduceLeDiff, Int.reduceEq, lv_app0, lv_appk, set_app0, set_appk, List.append_assoc, List.append_nil, Nat.add_assoc, q0, q5, q7, q26, q27, e2, st_fits, live_app r1]
      exact hR _ _ ⟨by simp only [has, ↓amD, amU, Nat.reduceBEq, Nat.reduceAdd, Nat.reduceSub, Nat.reduceMul, Nat.reduceMod, Nat.reducePow, Nat.reduceLT, Nat.reduceDiv, Int.reduceToNat, BitVec.reduceToNat, zipEnv, Int.reduceLE, Int.reduceLT, Int.reduceNeg, BitVec.reduceEq, Int.reduceAdd, Int.reduceSub, Int.reduceMul, Nat.reduceLeDiff, Int.reduceEq, q0, q5, q7, q26], (live_set_ne (by decide)).trans (live_push r0), live_set_same (live_push r1)⟩
    · rintro env rows ⟨hh, r0, r1⟩ R
      simp only [has] at hh
      obtain ⟨q0, q5, q7, q26, q27, -⟩ := hh
      have e0 : ((N : Int) < (N : Int)) = False := eq_false (by omega)
      have o1 := feed_ok (List.replicate N b) st0 st0_ok
      have hlw : (List.replicate N b).length = N := by simp
      have s1 : sumSt (feed st0 (List.replicate N b)) = sumS (List.replicate N b) := rfl
      generalize List.replicate N b = w at *
      simp only [↓amD, amU, Nat.reduceBEq, Nat.reduceAdd, Nat.reduceSub, Nat.reduceMul, Nat.reduceMod, Nat.reducePow, Nat.reduceLT, Nat.reduceDiv, Int.reduceToNat, BitVec.reduceToNat, zipEnv, Int.reduceLE, Int.reduceLT, Int.reduceNeg, BitVec.reduceEq, Int.reduceAdd, Int.reduceSub, Int.reduceMul, Nat.reduceLeDiff, Int.reduceEq, q0, q5, q7, q26, q27, e0, r1, h10, h14, kStSum _ _ _ o1, decide_false]
      refine Eq.mpr (kRSum _ _ _ w (BsIn.own r0 _ hlw.symm) (by omega)) ?_
      simp only [↓amD, amU, Nat.reduceBEq, Nat.reduceAdd, Nat.reduceSub, Nat.reduceMul, Nat.reduceMod, Nat.reducePow, Nat.reduceLT, Nat.reduceDiv, Int.reduceToNat, BitVec.reduceToNat, zipEnv, Int.reduceLE, Int.reduceLT, Int.reduceNeg, BitVec.reduceEq, Int.reduceAdd, Int.reduceSub, Int.reduceMul, Nat.reduceLeDiff, Int.reduceEq, lv_app0, lv_appk, set_app0, set_appk, List.append_assoc, List.append_nil, Nat.add_assoc, q5, q7, s1, eqL_bs, h11]
      refine Eq.mpr (kSum _ _ _ 1 _ _ [w] live_len rfl (.cons (BsIn.own (live_push r0) _ hlw.symm) .nil) (by simp) (by simp; omega)) ?_
      have hw1 : [w].flatten = w := by simp
      rw [hw1]
      simp only [↓amD, amU, Nat.reduceBEq, Nat.reduceAdd, Nat.reduceSub, Nat.reduceMul, Nat.reduceMod, Nat.reducePow, Nat.reduceLT, Nat.reduceDiv, Int.reduceToNat, BitVec.reduceToNat, zipEnv, Int.reduceLE, Int.reduceLT, Int.reduceNeg, BitVec.reduceEq, Int.reduceAdd, Int.reduceSub, Int.reduceMul, Nat.reduceLeDiff, Int.reduceEq, lv_app0, lv_appk, set_app0, set_appk, List.append_assoc, List.append_nil, Nat.add_assoc, q5, q7, h10]
      refine Eq.mpr (kRSum _ _ _ w (BsIn.own (live_push r0) _ hlw.symm) (by omega)) ?_
      simp only [↓amD, amU, Nat.reduceBEq, Nat.reduceAdd, Nat.reduceSub, Nat.reduceMul, Nat.reduceMod, Nat.reducePow, Nat.reduceLT, Nat.reduceDiv, Int.reduceToNat, BitVec.reduceToNat, zipEnv, Int.reduceLE, Int.reduceLT, Int.reduceNeg, BitVec.reduceEq, Int.reduceAdd, Int.reduceSub, Int.reduceMul, Nat.reduceLeDiff, Int.reduceEq, lv_app0, lv_appk, set_app0, set_appk, List.append_assoc, List.append_nil, Nat.add_assoc, q5, q7, live_app r1, eqL_bs, h12, h13, kNew]
      refine Eq.mpr (kFeed _ _ _ _ w (BsIn.own (live_push r0) _ hlw.symm) st0_ok) ?_
      simp only [↓amD, amU, Nat.reduceBEq, Nat.reduceAdd, Nat.reduceSub, Nat.reduceMul, Nat.reduceMod, Nat.reducePow, Nat.reduceLT, Nat.reduceDiv, Int.reduceToNat, BitVec.reduceToNat, zipEnv, Int.reduceLE, Int.reduceLT, Int.reduceNeg, BitVec.reduceEq, Int.reduceAdd, Int.reduceSub, Int.reduceMul, Nat.reduceLeDiff, Int.reduceEq, eqA_st]
    · simp only [has, ↓amD, amU, Nat.reduceBEq, Nat.reduceAdd, Nat.reduceSub, Nat.reduceMul, Nat.reduceMod, Nat.reducePow, Nat.reduceLT, Nat.reduceDiv, Int.reduceToNat, BitVec.reduceToNat, zipEnv, Int.reduceLE, Int.reduceLT, Int.reduceNeg, BitVec.reduceEq, Int.reduceAdd, Int.reduceSub, Int.reduceMul, Nat.reduceLeDiff, Int.reduceEq, q0, q5]
  · simp only [has, ↓amD, amU, Nat.reduceBEq, Nat.reduceAdd, Nat.reduceSub, Nat.reduceMul, Nat.reduceMod, Nat.reducePow, Nat.reduceLT, Nat.reduceDiv, Int.reduceToNat, BitVec.reduceToNat, zipEnv, Int.reduceLE, Int.reduceLT, Int.reduceNeg, BitVec.reduceEq, Int.reduceAdd, Int.reduceSub, Int.reduceMul, Nat.reduceLeDiff, Int.reduceEq]
  · rw [bs_rep]; simp
end Job
end Go.Am
