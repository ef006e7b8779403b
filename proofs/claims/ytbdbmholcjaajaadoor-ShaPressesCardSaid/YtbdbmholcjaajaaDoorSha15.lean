/- SHA-256: the law on the compression -/
import Derived.Test.YtbdbmholcjaajaaDoorSha14
namespace Go.Am
set_option linter.unusedSimpArgs false
set_option linter.unusedVariables false
attribute [local congr] bnd_congr kCond_congr kGd_congr kPick_congr kCall_congr kIdx_congr kSlice_congr kLoop_congr cond_congr' aBin_congr aBounds_congr aApp_congr aCopy_congr kFn_congr
namespace Job
open Go.Am.F
set_option maxRecDepth 10000
theorem words_digS : ∀ (w : List (BitVec 32)) (k : Nat) (pre : List (BitVec 8)), pre.length = 4 * k → (List.range w.length).map (fun i => numS (((pre ++ digS w).drop (4 * (k + i))).take 4)) = w
  | [], k, pre, _ => rfl
  | x :: w, k, pre, h => by
    have hd : digS (x :: w) = wordB x ++ digS w := by simp [digS]
    have ih := words_digS w (k + 1) (pre ++ wordB x) (by rw [List.length_append, wordB_len]; omega)
    rw [List.length_cons, List.range_succ_eq_map, List.map_cons, List.map_map]
    refine List.cons_eq_cons.2 ⟨?_, ?_⟩
    · rw [Nat.add_zero, ← h, List.drop_left, hd]
      have : (wordB x ++ digS w).take 4 = wordB x := by
        rw [List.take_append_of_le_length (Nat.le_of_eq (wordB_len x).symm), List.take_of_length_le (Nat.le_of_eq (wordB_len x))]
      rw [this]
      have hn : ∀ x : BitVec 32, numS (wordB x) = x := fun x => by
        have := num4_nat ((x >>> 24).setWidth 8) ((x >>> 16).setWidth 8) ((x >>> 8).setWidth 8) (x.setWidth 8)
        apply BitVec.eq_of_toNat_eq
        rw [show wordB x = [(x >>> 24).setWidth 8, (x >>> 16).setWidth 8, (x >>> 8).setWidth 8, x.setWidth 8] from rfl, this]
        have hx := x.isLt
        simp only [BitVec.toNat_setWidth, BitVec.toNat_ushiftRight, Nat.shiftRight_eq_div_pow]
        omega
      exact hn x
    · rw [hd, ← List.append_assoc]
      refine Eq.trans (List.map_congr_left fun i _ => ?_) ih
      show numS (List.take 4 (List.drop (4 * (k + (i + 1))) _)) = _
      rw [show k + (i + 1) = k + 1 + i by omega]
theorem words_dig (w : List (BitVec 32)) (h : w.length = 8) : words 8 (digS w) = w := by
  have := words_digS w 0 [] rfl
  rw [h] at this
  simpa [words] using this
theorem dig_words (d : List (BitVec 8)) (h : d.length = 32) : digS (words 8 d) = d := by
  have key : ∀ n, 4 * n ≤ d.length → digS (words n d) = d.take (4 * n) := by
    intro n
    induction n with
    | zero => intro _; rfl
    | succ n ih =>
      intro hn
      rw [words_succ, digS_app, ih (by omega), show 4 * (n + 1) = 4 * n + 4 by omega, List.take_add]
      congr 1
      obtain ⟨a, b, c, e, hq⟩ := four (v := (d.drop (4 * n)).take 4) (by rw [List.length_take, List.length_drop]; omega)
      rw [hq]
      simp only [digS, List.map_cons, List.map_nil, List.flatten_cons, List.flatten_nil, List.append_nil]
      exact word_num a b c e
  rw [key 8 (by omega), List.take_of_length_le (by omega)]
theorem presses_ok (C : Ctx) (h8 : C.fn 8 = some fAwake) (h18 : C.fn 18 = some fValue) (h19 : C.fn 19 = some fWords) (h20 : C.fn 20 = some fPress) (h21 : C.fn 21 = some fPressR) (h22 : C.fn 22 = some fDigest)
    (h : List (BitVec 32)) (b d : List (BitVec 8)) (hh : h.length = 8) (hb : b.length = 64) (hd : d.length = 32) : afun C 3 r_law01_ShaPresses a_law01_ShaPresses [.agg (.ar 8 L32) (us h), .agg (.ar 64 L8) (bs b), .agg (.ar 32 L8) (bs d)] [] (fun d _ => d = .raw (.bool true)) := by
  refine afun_mk rfl ?_
  have hwl := words_len 8 d
  unfold a_law01_ShaPresses r_law01_ShaPresses
  simp only [↓amD, amU, Nat.reduceBEq, Nat.reduceAdd, Nat.reduceSub, Nat.reduceMul, Nat.reduceMod, Nat.reducePow, Nat.reduceLT, Nat.reduceDiv, Int.reduceToNat, BitVec.reduceToNat, zipEnv, Int.reduceLE, Int.reduceLT, Int.reduceNeg, BitVec.reduceEq, Int.reduceAdd, Int.reduceSub, Int.reduceMul, Nat.reduceLeDiff, Int.reduceEq, h8, kAwake, h19, kWords _ _ _ hd, decide_true]
  refine kLoop_up 8 (fun i env rows => has env [(15, .raw (it (i : Int))), (14, .agg (.ar 8 L32) (us (words 8 d))), (3, .ptr (.ar 8 L32) 0 [0]), (4, .ptr (.ar 64 L8) 1 [0]), (5, .ptr (.ar 32 L8) 2 [0]), (7, .ptr (.ar 8 L32) 3 [0])] ∧
    rows = [some ⟨.ar 8 L32, [.agg (.ar 8 L32) (us h)]⟩, some ⟨.ar 64 L8, [.agg (.ar 64 L8) (bs b)]⟩, some ⟨.ar 32 L8, [.agg (.ar 32 L8) (bs d)]⟩, some ⟨.ar 8 L32, [.agg (.ar 8 L32) (us (words 8 d))]⟩]) ?_ ?_ ⟨?_, rfl⟩
  · rintro i hi env rows ⟨hhe, rfl⟩ R hR
    simp only [has] at hhe
    obtain ⟨q15, q14, q3, q4, q5, q7, -⟩ := hhe
    have e0 : ((i : Int) < 8) = True := eq_true (by omega)
    have e9 : ((0 : Int) ≤ (i : Int)) = True := eq_true (by omega)
    have e11 := wz_succ i (by omega)
    have eg : (us (words 8 d))[i]? = some (.raw (u32 ((words 8 d).getD i 0#32))) := us_get (by omega)
    have e1 : ((0 : Int) ≤ 4 * (i : Int)) = True := eq_true (by omega)
    have e2 : wz (4 * (i : Int)) = 4 * (i : Int) := wz_id (by omega)
    have e3 : wz (4 * (i : Int) + 4) = 4 * (i : Int) + 4 := wz_id (by omega)
    have e4 : (4 * (i : Int) ≤ 4 * (i : Int) + 4) = True := eq_true (by omega)
    have e5 : (4 * (i : Int) + 4 ≤ 32) = True := eq_true (by omega)
    have e6 : (4 * (i : Int)).toNat = 4 * i := by omega
    have e7 : (4 * (i : Int) + 4).toNat = 4 * i + 4 := by omega
    have e8 : 4 * i + 4 - 4 * i = 4 := by omega
    have h4l : ((d.drop (4 * i)).take 4).length = 4 := by rw [List.length_take, List.length_drop]; omega
    obtain ⟨va, vb, vc, vd, hq⟩ := four h4l
    have ev : ((words 8 d).getD i 0#32).setWidth 64 = valS ((d.drop (4 * i)).take 4) := by
      rw [words_getD _ hi, hq, ← val_num]
      apply BitVec.eq_of_toNat_eq
      have := val4_nat va vb vc vd
      have h1 := va.isLt
      have h2 := vb.isLt
      have h3 := vc.isLt
      have h4 := vd.isLt
      rw [BitVec.toNat_setWidth, BitVec.toNat_setWidth, this]
      omega
    simp only [↓amD, amU, Nat.reduceBEq, Nat.reduceAdd, Nat.reduceSub, Nat.reduceMul, Nat.reduceMod, Nat.reducePow, Nat.reduceLT, Nat.reduceDiv, Int.reduceToNat, BitVec.reduceToNat, zipEnv, Int.reduceLE, Int.reduceLT, Int.reduceNeg, BitVec.reduceEq, Int.reduceAdd, Int.reduceSub, Int.reduceMul, Nat.reduceLeDiff, Int.reduceEq, q15, q14, q3, q4, q5, q7, e0, e1, e2, e3, e4, e5, e6, e7, e8, e9, eg, h18, decide_true]
    refine Eq.mpr (kValB _ _ _ ((d.drop (4 * i)).take 4) (BsIn.arr rfl (by omega)) (by omega)) ?_
    rw [ev]
    simp only [↓amD, amU, Nat.reduceBEq, Nat.reduceAdd, Nat.reduceSub, Nat.reduceMul, Nat.reduceMod, Nat.reducePow, Nat.reduceLT, Nat.reduceDiv, Int.reduceToNat, BitVec.reduceToNat, zipEnv, Int.reduceLE, Int.reduceLT, Int.reduceNeg, BitVec.reduceEq, Int.reduceAdd, Int.reduceSub, Int.reduceMul, Nat.reduceLeDiff, Int.reduceEq, q15, q14, q3, q4, q5, q7, e11]
    exact hR _ _ ⟨by simp only [has, ↓amD, amU, Nat.reduceBEq, Nat.reduceAdd, Nat.reduceSub, Nat.reduceMul, Nat.reduceMod, Nat.reducePow, Nat.reduceLT, Nat.reduceDiv, Int.reduceToNat, BitVec.reduceToNat, zipEnv, Int.reduceLE, Int.reduceLT, Int.reduceNeg, BitVec.reduceEq, Int.reduceAdd, Int.reduceSub, Int.reduceMul, Nat.reduceLeDiff, Int.reduceEq, q14, q3, q4, q5, q7], rfl⟩
  · rintro env rows ⟨hhe, rfl⟩ R
    simp only [has] at hhe
    obtain ⟨q15, q14, q3, q4, q5, q7, -⟩ := hhe
    simp only [↓amD, amU, Nat.reduceBEq, Nat.reduceAdd, Nat.reduceSub, Nat.reduceMul, Nat.reduceMod, Nat.reducePow, Nat.reduceLT, Nat.reduceDiv, Int.reduceToNat, BitVec.reduceToNat, zipEnv, Int.reduceLE, Int.reduceLT, Int.reduceNeg, BitVec.reduceEq, Int.reduceAdd, Int.reduceSub, Int.reduceMul, Nat.reduceLeDiff, Int.reduceEq, q15, q14, q3, q4, q5, q7, h20, h21, kPress _ _ _ _ hh hb]
    refine Eq.mpr (kPressR _ _ _ _ ((b.drop 0).take 64) (BsIn.arr rfl (by omega)) hh (by rw [List.length_take, List.length_drop]; omega)) ?_
    have hb0 : (b.drop 0).take 64 = b := by rw [List.drop_zero, List.take_of_length_le (by omega)]
    rw [hb0]
    have hdl : (digS h).length = 32 := by rw [digS_len]; omega
    simp only [↓amD, amU, Nat.reduceBEq, Nat.reduceAdd, Nat.reduceSub, Nat.reduceMul, Nat.reduceMod, Nat.reducePow, Nat.reduceLT, Nat.reduceDiv, Int.reduceToNat, BitVec.reduceToNat, zipEnv, Int.reduceLE, Int.reduceLT, Int.reduceNeg, BitVec.reduceEq, Int.reduceAdd, Int.reduceSub, Int.reduceMul, Nat.reduceLeDiff, Int.reduceEq, q15, q14, q3, q4, q5, q7, eqL_us, eqL_bs, h19, h22, kDigest _ _ _ hwl, kDigest _ _ _ hh, kWords _ _ _ hdl, dig_words d hd, words_dig h hh]
  · simp only [has, ↓amD, amU, Nat.reduceBEq, Nat.reduceAdd, Nat.reduceSub, Nat.reduceMul, Nat.reduceMod, Nat.reducePow, Nat.reduceLT, Nat.reduceDiv, Int.reduceToNat, BitVec.reduceToNat, zipEnv, Int.reduceLE, Int.reduceLT, Int.reduceNeg, BitVec.reduceEq, Int.reduceAdd, Int.reduceSub, Int.reduceMul, Nat.reduceLeDiff, Int.reduceEq]
end Job
end Go.Am
