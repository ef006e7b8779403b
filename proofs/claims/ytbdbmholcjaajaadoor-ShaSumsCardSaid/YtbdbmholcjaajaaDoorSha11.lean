/- SHA-256: the law on sums -/
import Derived.Test.YtbdbmholcjaajaaDoorSha10
namespace Go.Am
set_option linter.unusedSimpArgs false
set_option linter.unusedVariables false
attribute [local congr] bnd_congr kCond_congr kGd_congr kPick_congr kCall_congr kIdx_congr kSlice_congr kLoop_congr cond_congr' aBin_congr aBounds_congr aApp_congr aCopy_congr kFn_congr
namespace Job
open Go.Am.F
set_option maxRecDepth 10000
theorem min_nat (a b : Nat) : min (a : Int) (b : Int) = ((min a b : Nat) : Int) := by omega
theorem max_nat (a b : Nat) : max (a : Int) (b : Int) = ((max a b : Nat) : Int) := by omega
theorem three (w : List (BitVec 8)) (A B : Nat) (h : A ≤ B) (h2 : B ≤ w.length) : [w.take A, (w.drop A).take (B - A), (w.drop B).take (w.length - B)].flatten = w := by
  simp only [List.flatten_cons, List.flatten_nil, List.append_nil]
  have e1 : (w.drop B).take (w.length - B) = w.drop B := List.take_of_length_le (by rw [List.length_drop]; omega)
  rw [e1, ← List.append_assoc]
  have e2 : w.take A ++ (w.drop A).take (B - A) = w.take B := by
    have : B = A + (B - A) := by omega
    rw [this, List.take_add, Nat.add_sub_cancel_left]
  rw [e2, List.take_append_drop]
theorem sums_ok (C : Ctx) (h8 : C.fn 8 = some fAwake) (h9 : C.fn 9 = some fCut) (h10 : C.fn 10 = some fRSum) (h11 : C.fn 11 = some fSum) (h12 : C.fn 12 = some fNew) (h13 : C.fn 13 = some fFeed) (h14 : C.fn 14 = some fStSum)
    (p0 : List (BitVec 8)) (hp0 : p0.length ≤ 9223372036854775807) (cut other : BitVec 16) : afun C 3 r_law01_ShaSums a_law01_ShaSums [.lst L8 (bs p0) false, .raw (u16 cut), .raw (u16 other)] [] (fun d _ => d = .raw (.bool true)) := by
  refine afun_mk rfl ?_
  have kc := fun rows k => kCut rows k (.lst L8 (bs p0) false) p0 400 (.inr ⟨_, rfl⟩) hp0 (by rw [List.length_take]; omega)
  have hrl : (p0.take 400).length ≤ 400 := by rw [List.length_take]; omega
  have e4 : (400 : Int).toNat = 400 := rfl
  simp only [e4] at kc
  generalize p0.take 400 = w at kc hrl
  obtain ⟨A, hA⟩ : ∃ A, min cut.toNat w.length = A := ⟨_, rfl⟩
  obtain ⟨B, hB⟩ : ∃ B, min (max A other.toNat) w.length = B := ⟨_, rfl⟩
  have hAB : A ≤ B := by omega
  have hBw : B ≤ w.length := by omega
  have f1 : ((0 : Int) ≤ (A : Int)) = True := eq_true (by omega)
  have f2 : ((A : Int) ≤ (B : Int)) = True := eq_true (by omega)
  have f3 : ((B : Int) ≤ (w.length : Int)) = True := eq_true (by omega)
  have f4 : ((0 : Int) ≤ (B : Int)) = True := eq_true (by omega)
  have f5 : ((A : Int) ≤ (w.length : Int)) = True := eq_true (by omega)
  unfold a_law01_ShaSums r_law01_ShaSums
  simp only [↓amD, amU, Nat.reduceBEq, Nat.reduceAdd, Nat.reduceSub, Nat.reduceMul, Nat.reduceMod, Nat.reducePow, Nat.reduceLT, Nat.reduceDiv, Int.reduceToNat, BitVec.reduceToNat, zipEnv, Int.reduceLE, Int.reduceLT, Int.reduceNeg, BitVec.reduceEq, Int.reduceAdd, Int.reduceSub, Int.reduceMul, Nat.reduceLeDiff, Int.reduceEq, h8, h9, h10, h11, h12, h13, h14, kAwake, kc, cond_true, cond_false, min_nat, max_nat, hA, hB]
  refine Eq.mpr (kRSum _ _ _ w (BsIn.own rfl _ rfl) (by omega)) ?_
  simp only [↓amD, amU, Nat.reduceBEq, Nat.reduceAdd, Nat.reduceSub, Nat.reduceMul, Nat.reduceMod, Nat.reducePow, Nat.reduceLT, Nat.reduceDiv, Int.reduceToNat, BitVec.reduceToNat, zipEnv, Int.reduceLE, Int.reduceLT, Int.reduceNeg, BitVec.reduceEq, Int.reduceAdd, Int.reduceSub, Int.reduceMul, Nat.reduceLeDiff, Int.reduceEq, h8, h9, h10, h11, h12, h13, h14]
  refine Eq.mpr (kSum _ _ _ 1 _ _ [w] rfl rfl (.cons (BsIn.own rfl _ rfl) .nil) (by simp) (by simp; omega)) ?_
  have hw1 : [w].flatten = w := by simp
  rw [hw1]
  simp only [↓amD, amU, Nat.reduceBEq, Nat.reduceAdd, Nat.reduceSub, Nat.reduceMul, Nat.reduceMod, Nat.reducePow, Nat.reduceLT, Nat.reduceDiv, Int.reduceToNat, BitVec.reduceToNat, zipEnv, Int.reduceLE, Int.reduceLT, Int.reduceNeg, BitVec.reduceEq, Int.reduceAdd, Int.reduceSub, Int.reduceMul, Nat.reduceLeDiff, Int.reduceEq, eqL_bs, h11, f1, f2, f3, f4, f5, Nat.sub_zero]
  refine Eq.mpr (kSum _ _ _ 3 _ _ [(w.drop 0).take A, (w.drop A).take (B - A), (w.drop B).take (w.length - B)] rfl rfl (.cons (BsIn.sub rfl (by omega)) (.cons (BsIn.sub rfl (by omega)) (.cons (BsIn.sub rfl (by omega)) .nil))) (by simp) ?_) ?_
  · rw [List.drop_zero, three w A B hAB hBw]; omega
  rw [List.drop_zero, three w A B hAB hBw]
  simp only [↓amD, amU, Nat.reduceBEq, Nat.reduceAdd, Nat.reduceSub, Nat.reduceMul, Nat.reduceMod, Nat.reducePow, Nat.reduceLT, Nat.reduceDiv, Int.reduceToNat, BitVec.reduceToNat, zipEnv, Int.reduceLE, Int.reduceLT, Int.reduceNeg, BitVec.reduceEq, Int.reduceAdd, Int.reduceSub, Int.reduceMul, Nat.reduceLeDiff, Int.reduceEq, eqL_bs, h12, kNew, h13, f1, f2, f3, f4, f5, Nat.sub_zero]
  have o1 := feed_ok ((w.drop 0).take A) st0 st0_ok
  have o2 := feed_ok ((w.drop A).take (B - A)) _ o1
  have o3 := feed_ok ((w.drop B).take (w.length - B)) _ o2
  rw [List.drop_zero] at o1 o2 o3
  refine Eq.mpr (kFeed _ _ _ _ ((w.drop 0).take A) (BsIn.sub rfl (by omega)) st0_ok) ?_
  simp only [↓amD, amU, Nat.reduceBEq, Nat.reduceAdd, Nat.reduceSub, Nat.reduceMul, Nat.reduceMod, Nat.reducePow, Nat.reduceLT, Nat.reduceDiv, Int.reduceToNat, BitVec.reduceToNat, zipEnv, Int.reduceLE, Int.reduceLT, Int.reduceNeg, BitVec.reduceEq, Int.reduceAdd, Int.reduceSub, Int.reduceMul, Nat.reduceLeDiff, Int.reduceEq, h13, f1, f2, f3, f4, f5]
  refine Eq.mpr (kFeed _ _ _ _ ((w.drop A).take (B - A)) (BsIn.sub rfl (by omega)) o1) ?_
  simp only [↓amD, amU, Nat.reduceBEq, Nat.reduceAdd, Nat.reduceSub, Nat.reduceMul, Nat.reduceMod, Nat.reducePow, Nat.reduceLT, Nat.reduceDiv, Int.reduceToNat, BitVec.reduceToNat, zipEnv, Int.reduceLE, Int.reduceLT, Int.reduceNeg, BitVec.reduceEq, Int.reduceAdd, Int.reduceSub, Int.reduceMul, Nat.reduceLeDiff, Int.reduceEq, h13, f1, f2, f3, f4, f5]
  refine Eq.mpr (kFeed _ _ _ _ ((w.drop B).take (w.length - B)) (BsIn.sub rfl (by omega)) o2) ?_
  simp only [↓amD, amU, Nat.reduceBEq, Nat.reduceAdd, Nat.reduceSub, Nat.reduceMul, Nat.reduceMod, Nat.reducePow, Nat.reduceLT, Nat.reduceDiv, Int.reduceToNat, BitVec.reduceToNat, zipEnv, Int.reduceLE, Int.reduceLT, Int.reduceNeg, BitVec.reduceEq, Int.reduceAdd, Int.reduceSub, Int.reduceMul, Nat.reduceLeDiff, Int.reduceEq, h14]
  rw [kStSum _ _ _ o3]
  have hs : sumSt (feed (feed (feed st0 (w.take A)) ((w.drop A).take (B - A))) ((w.drop B).take (w.length - B))) = sumS w := by
    have h3 := three w A B hAB hBw
    simp only [List.flatten_cons, List.flatten_nil, List.append_nil] at h3
    rw [← feed_app, ← feed_app, h3]; rfl
  rw [hs]
  simp only [↓amD, amU, Nat.reduceBEq, Nat.reduceAdd, Nat.reduceSub, Nat.reduceMul, Nat.reduceMod, Nat.reducePow, Nat.reduceLT, Nat.reduceDiv, Int.reduceToNat, BitVec.reduceToNat, zipEnv, Int.reduceLE, Int.reduceLT, Int.reduceNeg, BitVec.reduceEq, Int.reduceAdd, Int.reduceSub, Int.reduceMul, Nat.reduceLeDiff, Int.reduceEq, eqL_bs]
end Job
end Go.Am
