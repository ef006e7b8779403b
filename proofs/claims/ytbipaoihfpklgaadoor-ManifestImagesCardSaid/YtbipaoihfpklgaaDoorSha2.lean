/- SHA-256: the schedule, as the program makes it -/
import Derived.Test.YtbipaoihfpklgaaDoorSha1
namespace Go.Am
set_option linter.unusedSimpArgs false
set_option linter.unusedVariables false
attribute [local congr] bnd_congr kCond_congr kGd_congr kPick_congr kCall_congr kIdx_congr kSlice_congr kLoop_congr cond_congr' aBin_congr aBounds_congr aApp_congr aCopy_congr kFn_congr
namespace Job
open Go.Am.F
set_option maxRecDepth 10000
noncomputable def fSpread : Fn := fn1 (rdOf b64D) (fun b => decide (b.length = 64)) fun b => (w64D (schW b), [])
theorem arr8 (n : Nat) (l : List D) (i : Nat) : (D.agg (.ar n L8) l).get [i] = l[i]? := by
  simp only [D.get]; cases l[i]? <;> rfl
theorem spread_ok (C : Ctx) (hC : CtxOK C P) (hw : C.fn 43 = some fWord) (hr : C.fn 42 = some fRot) : Meets C.glob P 41 (Fn.run fSpread) := by
  refine fn_meets (m_sha_spread C hC) fun ds rows r h => ?_
  obtain ⟨d, b, rfl, rfl, hd, hp, rfl⟩ := fn1_some h
  cases rdOf_some hd
  simp only [decide_eq_true_eq] at hp
  refine ⟨rfl, afun_mk rfl ?_⟩
  clear h hd
  unfold a_sha_spread r_sha_spread
  have hb : (bs b).length = 64 := by rw [bs_len, hp]
  simp only [b64D, ↓amD, amU, Nat.reduceBEq, Nat.reduceAdd, Nat.reduceSub, Nat.reduceMul, Nat.reduceMod, Nat.reducePow, Nat.reduceLT, Nat.reduceDiv, Int.reduceToNat, BitVec.reduceToNat, zipEnv, Int.reduceLE, Int.reduceLT, Int.reduceNeg, BitVec.reduceEq, Int.reduceAdd, Int.reduceSub, Int.reduceMul, Nat.reduceLeDiff, Int.reduceEq]
  refine kLoop_up 16 (fun i env rows => has env [(10, .raw (it (i : Int))), (1, .ptr (.ar 64 L8) 0 [0]), (2, .ptr (.ar 64 L32) 1 [0]), (3, .ptr (.ar 64 L32) 2 [0])] ∧
    ∃ z, rows = [some ⟨.ar 64 L8, [.agg (.ar 64 L8) (bs b)]⟩, some ⟨.ar 64 L32, [z]⟩, some ⟨.ar 64 L32, [.agg (.ar 64 L32) (us (fill (words i b) 64))]⟩]) ?_ ?_ ⟨?_, .agg (.ar 64 L32) (List.replicate 64 (.raw (u32 0#32))), ?_⟩
  · rintro i hi env rows ⟨hh, z, rfl⟩ R hR
    simp only [has] at hh
    obtain ⟨h10, h1, h2, h3, -⟩ := hh
    have e0 : ((i : Int) < 16) = True := eq_true (by omega)
    have e1 : ((0 : Int) ≤ 4 * (i : Int)) = True := eq_true (by omega)
    have e2 : wz (4 * (i : Int)) = 4 * (i : Int) := wz_id (by omega)
    have e3 : wz (4 * (i : Int) + 4) = 4 * (i : Int) + 4 := wz_id (by omega)
    have e4 : (4 * (i : Int) ≤ 4 * (i : Int) + 4) = True := eq_true (by omega)
    have e5 : (4 * (i : Int) + 4 ≤ 64) = True := eq_true (by omega)
    have e6 : (4 * (i : Int)).toNat = 4 * i := by omega
    have e7 : (4 * (i : Int) + 4).toNat = 4 * i + 4 := by omega
    have e8 : 4 * i + 4 - 4 * i = 4 := by omega
    have e9 : ((0 : Int) ≤ (i : Int)) = True := eq_true (by omega)
    have e10 : ((i : Int) < 64) = True := eq_true (by omega)
    have e11 := wz_succ i (by omega)
    simp only [↓amD, amU, Nat.reduceBEq, Nat.reduceAdd, Nat.reduceSub, Nat.reduceMul, Nat.reduceMod, Nat.reducePow, Nat.reduceLT, Nat.reduceDiv, Int.reduceToNat, BitVec.reduceToNat, zipEnv, Int.reduceLE, Int.reduceLT, Int.reduceNeg, BitVec.reduceEq, Int.reduceAdd, Int.reduceSub, Int.reduceMul, Nat.reduceLeDiff, Int.reduceEq, h10, h1, h2, h3, hw, e0, e1, e2, e3, e4, e5, e6, e7, e8, decide_true]
    refine Eq.mpr (kWord _ _ _ _ (BsIn.arr rfl (by omega)) (by rw [List.length_take, List.length_drop]; omega)) ?_
    have eg : (us (fill (words i b) 64))[i]? = some (.raw (u32 ((fill (words i b) 64).getD i 0#32))) := us_get (by rw [fill_len (by rw [words_len]; omega)]; omega)
    have es : (us (fill (words i b) 64)).set i (.raw (u32 (numS ((b.drop (4 * i)).take 4)))) = us (fill (words (i + 1) b) 64) := by
      have := fill_set (l := words i b) (n := 64) (by rw [words_len]; omega) (numS ((b.drop (4 * i)).take 4))
      rw [words_len] at this
      rw [us_set, this, ← words_succ]
    simp only [↓amD, amU, Nat.reduceBEq, Nat.reduceAdd, Nat.reduceSub, Nat.reduceMul, Nat.reduceMod, Nat.reducePow, Nat.reduceLT, Nat.reduceDiv, Int.reduceToNat, BitVec.reduceToNat, zipEnv, Int.reduceLE, Int.reduceLT, Int.reduceNeg, BitVec.reduceEq, Int.reduceAdd, Int.reduceSub, Int.reduceMul, Nat.reduceLeDiff, Int.reduceEq, h10, h1, h2, h3, e9, e10, e11, eg, es]
    exact hR _ _ ⟨by simp only [has, ↓amD, amU, Nat.reduceBEq, Nat.reduceAdd, Nat.reduceSub, Nat.reduceMul, Nat.reduceMod, Nat.reducePow, Nat.reduceLT, Nat.reduceDiv, Int.reduceToNat, BitVec.reduceToNat, zipEnv, Int.reduceLE, Int.reduceLT, Int.reduceNeg, BitVec.reduceEq, Int.reduceAdd, Int.reduceSub, Int.reduceMul, Nat.reduceLeDiff, Int.reduceEq, h1, h2, h3], z, rfl⟩
  · rintro env rows ⟨hh, z, rfl⟩ R
    simp only [has] at hh
    obtain ⟨h10, h1, h2, h3, -⟩ := hh
    simp only [↓amD, amU, Nat.reduceBEq, Nat.reduceAdd, Nat.reduceSub, Nat.reduceMul, Nat.reduceMod, Nat.reducePow, Nat.reduceLT, Nat.reduceDiv, Int.reduceToNat, BitVec.reduceToNat, zipEnv, Int.reduceLE, Int.reduceLT, Int.reduceNeg, BitVec.reduceEq, Int.reduceAdd, Int.reduceSub, Int.reduceMul, Nat.reduceLeDiff, Int.reduceEq, h10, h1, h2, h3]
    refine kLoop_up 48 (fun i env rows => has env [(5, .raw (it ((16 + i : Nat) : Int))), (1, .ptr (.ar 64 L8) 0 [0]), (2, .ptr (.ar 64 L32) 1 [0]), (3, .ptr (.ar 64 L32) 2 [0])] ∧
      rows = [some ⟨.ar 64 L8, [.agg (.ar 64 L8) (bs b)]⟩, some ⟨.ar 64 L32, [z]⟩, some ⟨.ar 64 L32, [.agg (.ar 64 L32) (us (fill (sch i (words 16 b)) 64))]⟩]) ?_ ?_ ⟨?_, rfl⟩
    · rintro i hi env rows ⟨hh, rfl⟩ R hR
      simp only [has] at hh
      obtain ⟨h5, h1, h2, h3, -⟩ := hh
      have hlen : (sch i (words 16 b)).length = 16 + i := by rw [sch_len, words_len]
      have hfl : (fill (sch i (words 16 b)) 64).length = 64 := fill_len (by omega)
      have e0 : (((16 + i : Nat) : Int) < 64) = True := eq_true (by omega)
      have a1 : wz (((16 + i : Nat) : Int) - 15) = ((16 + i - 15 : Nat) : Int) := by rw [wz_id (by omega)]; omega
      have a2 : wz (((16 + i : Nat) : Int) - 2) = ((16 + i - 2 : Nat) : Int) := by rw [wz_id (by omega)]; omega
      have a3 : wz (((16 + i : Nat) : Int) - 16) = ((16 + i - 16 : Nat) : Int) := by rw [wz_id (by omega)]; omega
      have a4 : wz (((16 + i : Nat) : Int) - 7) = ((16 + i - 7 : Nat) : Int) := by rw [wz_id (by omega)]; omega
      have b1 : ∀ j : Nat, ((0 : Int) ≤ (j : Int)) = True := fun j => eq_true (by omega)
      have c1 : (((16 + i - 15 : Nat) : Int) < 64) = True := eq_true (by omega)
      have c2 : (((16 + i - 2 : Nat) : Int) < 64) = True := eq_true (by omega)
      have c3 : (((16 + i - 16 : Nat) : Int) < 64) = True := eq_true (by omega)
      have c4 : (((16 + i - 7 : Nat) : Int) < 64) = True := eq_true (by omega)
      have gg : ∀ j, j < 16 + i → (us (fill (sch i (words 16 b)) 64))[j]? = some (.raw (u32 ((sch i (words 16 b)).getD j 0#32))) := fun j hj => by
        rw [us_get (by omega), fill_get (by omega)]
      have g1 := gg (16 + i - 15) (by omega)
      have g2 := gg (16 + i - 2) (by omega)
      have g3 := gg (16 + i - 16) (by omega)
      have g4 := gg (16 + i - 7) (by omega)
      have g5 : (us (fill (sch i (words 16 b)) 64))[16 + i]? = some (.raw (u32 ((fill (sch i (words 16 b)) 64).getD (16 + i) 0#32))) := us_get (by omega)
      have r1 := fun rows k x => kRot rows k x 7 (by decide) (by decide)
      have r2 := fun rows k x => kRot rows k x 18 (by decide) (by decide)
      have r3 := fun rows k x => kRot rows k x 17 (by decide) (by decide)
      have r4 := fun rows k x => kRot rows k x 19 (by decide) (by decide)
      simp only [Int.cast_ofNat_Int] at r1 r2 r3 r4
      have es : (us (fill (sch i (words 16 b)) 64)).set (16 + i) (.raw (u32 (nxt (sch i (words 16 b)) (16 + i)))) = us (fill (sch (i + 1) (words 16 b)) 64) := by
        have := fill_set (l := sch i (words 16 b)) (n := 64) (by omega) (nxt (sch i (words 16 b)) (16 + i))
        rw [hlen] at this
        rw [us_set, this, sch, hlen]
      have e11 : wz (((16 + i : Nat) : Int) + 1) = ((16 + (i + 1) : Nat) : Int) := by rw [wz_id (by omega)]; omega
      have es' : (us (fill (sch i (words 16 b)) 64)).set (16 + i) (.raw (u32 ((sch i (words 16 b)).getD (16 + i - 16) 0#32 + (ror ((sch i (words 16 b)).getD (16 + i - 15) 0#32) 7 ^^^ ror ((sch i (words 16 b)).getD (16 + i - 15) 0#32) 18 ^^^ (sch i (words 16 b)).getD (16 + i - 15) 0#32 >>> 3) + (sch i (words 16 b)).getD (16 + i - 7) 0#32 + (ror ((sch i (words 16 b)).getD (16 + i - 2) 0#32) 17 ^^^ ror ((sch i (words 16 b)).getD (16 + i - 2) 0#32) 19 ^^^ (sch i (words 16 b)).getD (16 + i - 2) 0#32 >>> 10)))) = us (fill (sch (i + 1) (words 16 b)) 64) := es
      simp only [↓amD, amU, Nat.reduceBEq, Nat.reduceAdd, Nat.reduceSub, Nat.reduceMul, Nat.reduceMod, Nat.reducePow, Nat.reduceLT, Nat.reduceDiv, Int.reduceToNat, BitVec.reduceToNat, zipEnv, Int.reduceLE, Int.reduceLT, Int.reduceNeg, BitVec.reduceEq, Int.reduceAdd, Int.reduceSub, Int.reduceMul, Nat.reduceLeDiff, Int.reduceEq, h5, h1, h2, h3, hr, e0, a1, a2, a3, a4, b1, c1, c2, c3, c4, g1, g2, g3, g4, g5, r1, r2, r3, r4, e11, es', decide_true]
      exact hR _ _ ⟨by simp only [has, ↓amD, amU, Nat.reduceBEq, Nat.reduceAdd, Nat.reduceSub, Nat.reduceMul, Nat.reduceMod, Nat.reducePow, Nat.reduceLT, Nat.reduceDiv, Int.reduceToNat, BitVec.reduceToNat, zipEnv, Int.reduceLE, Int.reduceLT, Int.reduceNeg, BitVec.reduceEq, Int.reduceAdd, Int.reduceSub, Int.reduceMul, Nat.reduceLeDiff, Int.reduceEq, h1, h2, h3], rfl⟩
    · rintro env rows ⟨hh, rfl⟩ R
      simp only [has] at hh
      obtain ⟨h5, h1, h2, h3, -⟩ := hh
      simp only [↓amD, amU, Nat.reduceBEq, Nat.reduceAdd, Nat.reduceSub, Nat.reduceMul, Nat.reduceMod, Nat.reducePow, Nat.reduceLT, Nat.reduceDiv, Int.reduceToNat, BitVec.reduceToNat, zipEnv, Int.reduceLE, Int.reduceLT, Int.reduceNeg, BitVec.reduceEq, Int.reduceAdd, Int.reduceSub, Int.reduceMul, Nat.reduceLeDiff, Int.reduceEq, h5, h1, h2, h3]
      rw [fill_full (by rw [sch_len, words_len])]
      exact .val _ rfl
    · have : fill (words 16 b) 64 = fill (sch 0 (words 16 b)) 64 := rfl
      simp only [has, ↓amD, amU, Nat.reduceBEq, Nat.reduceAdd, Nat.reduceSub, Nat.reduceMul, Nat.reduceMod, Nat.reducePow, Nat.reduceLT, Nat.reduceDiv, Int.reduceToNat, BitVec.reduceToNat, zipEnv, Int.reduceLE, Int.reduceLT, Int.reduceNeg, BitVec.reduceEq, Int.reduceAdd, Int.reduceSub, Int.reduceMul, Nat.reduceLeDiff, Int.reduceEq, h1, h2, h3]
  · simp only [has, ↓amD, amU, Nat.reduceBEq, Nat.reduceAdd, Nat.reduceSub, Nat.reduceMul, Nat.reduceMod, Nat.reducePow, Nat.reduceLT, Nat.reduceDiv, Int.reduceToNat, BitVec.reduceToNat, zipEnv, Int.reduceLE, Int.reduceLT, Int.reduceNeg, BitVec.reduceEq, Int.reduceAdd, Int.reduceSub, Int.reduceMul, Nat.reduceLeDiff, Int.reduceEq]
  · rw [us_rep]; rfl
end Job
end Go.Am
