/- SHA-256: the law on states -/
import Derived.Test.YtbdbmholcjaajaaDoorSha10
namespace Go.Am
set_option linter.unusedSimpArgs false
set_option linter.unusedVariables false
attribute [local congr] bnd_congr kCond_congr kGd_congr kPick_congr kCall_congr kIdx_congr kSlice_congr kLoop_congr cond_congr' aBin_congr aBounds_congr aApp_congr aCopy_congr kFn_congr
namespace Job
open Go.Am.F
set_option maxRecDepth 10000
theorem min_nat' (a b : Nat) : min (a : Int) (b : Int) = ((min a b : Nat) : Int) := by omega
theorem states_ok (C : Ctx) (h8 : C.fn 8 = some fAwake) (h9 : C.fn 9 = some fCut) (h10 : C.fn 10 = some fRSum) (h12 : C.fn 12 = some fNew) (h13 : C.fn 13 = some fFeed) (h14 : C.fn 14 = some fStSum) (h15 : C.fn 15 = some fLen) (h16 : C.fn 16 = some fJoin)
    (p0 q0 : List (BitVec 8)) (hp0 : p0.length ≤ 9223372036854775807) (hq0 : q0.length ≤ 9223372036854775807) (cut : BitVec 16) : afun C 3 r_law01_ShaStates a_law01_ShaStates [.lst L8 (bs p0) false, .lst L8 (bs q0) false, .raw (u16 cut)] [] (fun d _ => d = .raw (.bool true)) := by
  refine afun_mk rfl ?_
  have kc := fun rows k => kCut rows k (.lst L8 (bs p0) false) p0 300 (.inr ⟨_, rfl⟩) hp0 (by rw [List.length_take]; omega)
  have kd := fun rows k => kCut rows k (.lst L8 (bs q0) false) q0 300 (.inr ⟨_, rfl⟩) hq0 (by rw [List.length_take]; omega)
  have hrl : (p0.take 300).length ≤ 300 := by rw [List.length_take]; omega
  have hql : (q0.take 300).length ≤ 300 := by rw [List.length_take]; omega
  have e4 : (300 : Int).toNat = 300 := rfl
  simp only [e4] at kc kd
  generalize p0.take 300 = w at kc hrl
  generalize q0.take 300 = v at kd hql
  obtain ⟨A, hA⟩ : ∃ A, min cut.toNat w.length = A := ⟨_, rfl⟩
  have hAw : A ≤ w.length := by omega
  have f1 : ((0 : Int) ≤ (A : Int)) = True := eq_true (by omega)
  have f5 : ((A : Int) ≤ (w.length : Int)) = True := eq_true (by omega)
  have g1 : feed (feed st0 (w.take A)) (w.drop A) = feed st0 w := by rw [← feed_app, List.take_append_drop]
  have g2 : (w.drop A).take (w.length - A) = w.drop A := List.take_of_length_le (by rw [List.length_drop]; omega)
  have o1 := feed_ok w st0 st0_ok
  have o2 := feed_ok (w.take A) st0 st0_ok
  have o3 := feed_ok v _ o1
  have n1 : (feed st0 w).n = BitVec.ofInt 64 (w.length : Int) := by rw [feed_n]; show 0#64 + _ = _; rw [BitVec.zero_add]; rfl
  have w1 : wz ((w.length : Int) + (v.length : Int)) = ((w.length + v.length : Nat) : Int) := by rw [wz_id (by omega)]; omega
  have n2 : (feed (feed st0 w) v).n = BitVec.ofInt 64 ((w.length + v.length : Nat) : Int) := by rw [← feed_app, feed_n]; show 0#64 + _ = _; rw [BitVec.zero_add, List.length_append]; rfl
  have s1 : sumSt (feed st0 w) = sumS w := rfl
  have s2 : sumSt (feed (feed st0 w) v) = sumS (w ++ v) := by rw [← feed_app]; rfl
  unfold a_law01_ShaStates r_law01_ShaStates
  simp only [↓amD, amU, Nat.reduceBEq, Nat.reduceAdd, Nat.reduceSub, Nat.reduceMul, Nat.reduceMod, Nat.reducePow, Nat.reduceLT, Nat.reduceDiv, Int.reduceToNat, BitVec.reduceToNat, zipEnv, Int.reduceLE, Int.reduceLT, Int.reduceNeg, BitVec.reduceEq, Int.reduceAdd, Int.reduceSub, Int.reduceMul, Nat.reduceLeDiff, Int.reduceEq, h8, h9, h10, h12, h13, h14, kAwake, kc, kd, cond_true, cond_false, min_nat', hA, kNew]
  refine Eq.mpr (kFeed _ _ _ _ w (BsIn.own rfl _ rfl) st0_ok) ?_
  simp only [↓amD, amU, Nat.reduceBEq, Nat.reduceAdd, Nat.reduceSub, Nat.reduceMul, Nat.reduceMod, Nat.reducePow, Nat.reduceLT, Nat.reduceDiv, Int.reduceToNat, BitVec.reduceToNat, zipEnv, Int.reduceLE, Int.reduceLT, Int.reduceNeg, BitVec.reduceEq, Int.reduceAdd, Int.reduceSub, Int.reduceMul, Nat.reduceLeDiff, Int.reduceEq, h12, h13, st_fits, kNew, f1, f5, Nat.sub_zero]
  refine Eq.mpr (kFeed _ _ _ _ ((w.drop 0).take A) (BsIn.sub rfl (by omega)) st0_ok) ?_
  rw [List.drop_zero]
  simp only [↓amD, amU, Nat.reduceBEq, Nat.reduceAdd, Nat.reduceSub, Nat.reduceMul, Nat.reduceMod, Nat.reducePow, Nat.reduceLT, Nat.reduceDiv, Int.reduceToNat, BitVec.reduceToNat, zipEnv, Int.reduceLE, Int.reduceLT, Int.reduceNeg, BitVec.reduceEq, Int.reduceAdd, Int.reduceSub, Int.reduceMul, Nat.reduceLeDiff, Int.reduceEq, h13, h14, st_fits, f1, f5, kStSum _ _ _ o2]
  refine Eq.mpr (kFeed _ _ _ _ ((w.drop A).take (w.length - A)) (BsIn.sub rfl (by omega)) o2) ?_
  rw [g2, g1]
  simp only [↓amD, amU, Nat.reduceBEq, Nat.reduceAdd, Nat.reduceSub, Nat.reduceMul, Nat.reduceMod, Nat.reducePow, Nat.reduceLT, Nat.reduceDiv, Int.reduceToNat, BitVec.reduceToNat, zipEnv, Int.reduceLE, Int.reduceLT, Int.reduceNeg, BitVec.reduceEq, Int.reduceAdd, Int.reduceSub, Int.reduceMul, Nat.reduceLeDiff, Int.reduceEq, h13, h14, st_fits, kStSum _ _ _ o1]
  refine Eq.mpr (kFeed _ _ _ _ v (BsIn.own rfl _ rfl) o1) ?_
  simp only [↓amD, amU, Nat.reduceBEq, Nat.reduceAdd, Nat.reduceSub, Nat.reduceMul, Nat.reduceMod, Nat.reducePow, Nat.reduceLT, Nat.reduceDiv, Int.reduceToNat, BitVec.reduceToNat, zipEnv, Int.reduceLE, Int.reduceLT, Int.reduceNeg, BitVec.reduceEq, Int.reduceAdd, Int.reduceSub, Int.reduceMul, Nat.reduceLeDiff, Int.reduceEq, h10, h13, h14, h15, h16, st_fits, eqA_st, kLen, n1, n2, w1, decide_true, kStSum _ _ _ o1, kStSum _ _ _ o3, eqL_bs]
  refine Eq.mpr (kJoin _ _ _ 2 _ _ [w, v] rfl rfl (.cons (BsIn.own rfl _ rfl) (.cons (BsIn.own rfl _ rfl) .nil)) (by simp) (by simp; omega)) ?_
  have hj : [w, v].flatten = w ++ v := by simp
  rw [hj]
  simp only [↓amD, amU, Nat.reduceBEq, Nat.reduceAdd, Nat.reduceSub, Nat.reduceMul, Nat.reduceMod, Nat.reducePow, Nat.reduceLT, Nat.reduceDiv, Int.reduceToNat, BitVec.reduceToNat, zipEnv, Int.reduceLE, Int.reduceLT, Int.reduceNeg, BitVec.reduceEq, Int.reduceAdd, Int.reduceSub, Int.reduceMul, Nat.reduceLeDiff, Int.reduceEq, h10]
  refine Eq.mpr (kRSum _ _ _ (w ++ v) (BsIn.own rfl _ (by rw [List.length_append])) (by rw [List.length_append]; omega)) ?_
  simp only [↓amD, amU, Nat.reduceBEq, Nat.reduceAdd, Nat.reduceSub, Nat.reduceMul, Nat.reduceMod, Nat.reducePow, Nat.reduceLT, Nat.reduceDiv, Int.reduceToNat, BitVec.reduceToNat, zipEnv, Int.reduceLE, Int.reduceLT, Int.reduceNeg, BitVec.reduceEq, Int.reduceAdd, Int.reduceSub, Int.reduceMul, Nat.reduceLeDiff, Int.reduceEq, s2, eqL_bs, h10]
  refine Eq.mpr (kRSum _ _ _ w (BsIn.own rfl _ rfl) (by omega)) ?_
  simp only [↓amD, amU, Nat.reduceBEq, Nat.reduceAdd, Nat.reduceSub, Nat.reduceMul, Nat.reduceMod, Nat.reducePow, Nat.reduceLT, Nat.reduceDiv, Int.reduceToNat, BitVec.reduceToNat, zipEnv, Int.reduceLE, Int.reduceLT, Int.reduceNeg, BitVec.reduceEq, Int.reduceAdd, Int.reduceSub, Int.reduceMul, Nat.reduceLeDiff, Int.reduceEq, s1, eqL_bs]
end Job
end Go.Am
