/- SHA-256: the law on what stands behind -/
import Derived.Test.YtbdbmholcjaajaaDoorSha10
namespace Go.Am
set_option linter.unusedSimpArgs false
set_option linter.unusedVariables false
attribute [local congr] bnd_congr kCond_congr kGd_congr kPick_congr kCall_congr kIdx_congr kSlice_congr kLoop_congr cond_congr' aBin_congr aBounds_congr aApp_congr aCopy_congr kFn_congr
namespace Job
open Go.Am.F
set_option maxRecDepth 10000
theorem kValB (rows : Rows) (k : D → Rows → Prop) (d : D) (a : List (BitVec 8)) (h : BsIn rows d a) (hl : a.length ≤ 1099511627776) : kCall fValue rows k [d] = k (.raw (u64 (valS a))) rows := by
  refine (kCall_bs1 h (by simpa [most] using hl) rfl).trans ?_
  simp [shift, shiftRows, valS]
theorem valS_snoc (l : List (BitVec 8)) (x : BitVec 8) : valS (l ++ [x]) = 256#64 * valS l + x.setWidth 64 := by simp [valS]
theorem val_numL : ∀ (k : Nat) (m : BitVec 64), k ≤ 8 → (valS (numL k m)).toNat = m.toNat % 256 ^ k
  | 0, m, _ => by simp [numL, valS]; omega
  | k + 1, m, h => by
    have ih := val_numL k (m / 256#64) (by omega)
    rw [numL, valS_snoc, BitVec.toNat_add, BitVec.toNat_mul, ih, BitVec.toNat_setWidth, BitVec.toNat_setWidth, BitVec.toNat_umod, BitVec.toNat_udiv]
    have hm := m.isLt
    have e1 : m.toNat % 256 ^ (k + 1) = 256 * (m.toNat / 256 % 256 ^ k) + m.toNat % 256 := by
      rw [Nat.pow_succ, Nat.mul_comm (256 ^ k) 256, Nat.mod_mul]; omega
    have e2 : m.toNat % 256 ^ (k + 1) < 2 ^ 64 := by
      have : m.toNat % 256 ^ (k + 1) ≤ m.toNat := Nat.mod_le _ _
      omega
    rw [e1] at e2 ⊢
    simp only [BitVec.toNat_ofNat, Nat.reducePow, Nat.reduceMod] at e2 ⊢
    omega
theorem val8 (m : BitVec 64) : valS (be8 m 8) = m := by
  rw [← num8]
  apply BitVec.eq_of_toNat_eq
  rw [val_numL 8 m (Nat.le_refl _)]
  have := m.isLt
  simp; omega
theorem pads_ok (C : Ctx) (h8 : C.fn 8 = some fAwake) (h17 : C.fn 17 = some fPad) (h18 : C.fn 18 = some fValue)
    (n : BitVec 64) : afun C 1 r_law01_ShaPads a_law01_ShaPads [.raw (u64 n)] [] (fun d _ => d = .raw (.bool true)) := by
  refine afun_mk rfl ?_
  have hz := zerosN_lt n
  have hpl := padS_len n
  have hzn : zerosN n = (119 - n.toNat % 64) % 64 := by
    have := zerosN_of n.toNat n.isLt
    rwa [BitVec.ofNat_toNat, BitVec.setWidth_eq] at this
  have hp0 : (padS n)[0]? = some 128#8 := rfl
  have hp1 : ∀ i, i < zerosN n → (padS n)[1 + i]? = some 0#8 := fun i hi => by
    have : padS n = 128#8 :: (List.replicate (zerosN n) 0#8 ++ be8 (n <<< 3) 8) := rfl
    rw [this, Nat.add_comm, List.getElem?_cons_succ, List.getElem?_append_left (by simpa using hi)]
    simp [hi]
  have hp8 : ((padS n).drop (1 + zerosN n)).take 8 = be8 (n <<< 3) 8 := by
    have : padS n = (128#8 :: List.replicate (zerosN n) 0#8) ++ be8 (n <<< 3) 8 := rfl
    have e : (128#8 :: List.replicate (zerosN n) 0#8).length = 1 + zerosN n := by simp; omega
    rw [this, ← e, List.drop_left, List.take_of_length_le (Nat.le_of_eq (be8_len _ _))]
  have kp := fun rows k => kPad rows k n
  generalize padS n = p at *
  generalize zerosN n = z at *
  have b0 : (bs p)[0]? = some (.raw (u8 128#8)) := by rw [bs, List.getElem?_map, hp0]; rfl
  have b1 : ∀ i, i < z → (bs p)[1 + i]? = some (.raw (u8 0#8)) := fun i hi => by rw [bs, List.getElem?_map, hp1 i hi]; rfl
  have c1 : (((9 + z : Nat) : Int) < 9) = False := eq_false (by omega)
  have c2 : ((72 : Int) < ((9 + z : Nat) : Int)) = False := eq_false (by omega)
  have c3 : (n % 64#64 + BitVec.ofInt 64 ((9 + z : Nat) : Int)) % 64#64 = 0#64 := by
    apply BitVec.eq_of_toNat_eq
    rw [BitVec.toNat_umod, BitVec.toNat_add, BitVec.toNat_umod]
    have : (BitVec.ofInt 64 ((9 + z : Nat) : Int)).toNat = 9 + z := by
      show (BitVec.ofNat 64 (9 + z)).toNat = _
      simp; omega
    rw [this]; simp; omega
  have c4 : wz (((9 + z : Nat) : Int) - 8) = ((1 + z : Nat) : Int) := by rw [wz_id (by omega)]; omega
  have c5 : ((0 : Int) ≤ ((1 + z : Nat) : Int)) = True := eq_true (by omega)
  have c6 : (((1 + z : Nat) : Int) ≤ ((9 + z : Nat) : Int)) = True := eq_true (by omega)
  have c7 : ((1 : Int) ≤ ((1 + z : Nat) : Int)) = True := eq_true (by omega)
  have c8 : ((0 : Int) < ((9 + z : Nat) : Int)) = True := eq_true (by omega)
  have c9 : 9 + z - (1 + z) = 8 := by omega
  have c10 : 1 + z - 1 = z := by omega
  have hv : valS ((p.drop (1 + z)).take 8) = n <<< 3 := by rw [hp8, val8]
  unfold a_law01_ShaPads r_law01_ShaPads
  simp only [hpl] at kp
  simp only [↓amD, amU, Nat.reduceBEq, Nat.reduceAdd, Nat.reduceSub, Nat.reduceMul, Nat.reduceMod, Nat.reducePow, Nat.reduceLT, Nat.reduceDiv, Int.reduceToNat, BitVec.reduceToNat, zipEnv, Int.reduceLE, Int.reduceLT, Int.reduceNeg, BitVec.reduceEq, Int.reduceAdd, Int.reduceSub, Int.reduceMul, Nat.reduceLeDiff, Int.reduceEq, h8, kAwake, h17, h18, kp, c1, c2, c3, c4, c5, c6, c7, c8, c9, c10, b0, shl3, decide_true, decide_false]
  refine Eq.mpr (kValB _ _ _ ((p.drop (1 + z)).take 8) (BsIn.sub rfl (by omega)) (by rw [List.length_take]; omega)) ?_
  rw [hv]
  simp only [↓amD, amU, Nat.reduceBEq, Nat.reduceAdd, Nat.reduceSub, Nat.reduceMul, Nat.reduceMod, Nat.reducePow, Nat.reduceLT, Nat.reduceDiv, Int.reduceToNat, BitVec.reduceToNat, zipEnv, Int.reduceLE, Int.reduceLT, Int.reduceNeg, BitVec.reduceEq, Int.reduceAdd, Int.reduceSub, Int.reduceMul, Nat.reduceLeDiff, Int.reduceEq, shl3, c1, c2, c3, c4, c5, c6, c7, c8, c9, c10, decide_true, decide_false]
  refine kLoop_up z (fun i env rows => has env [(49, .sl L8 0 [] 1 z (exOf none (1 + z) (1 + z) (9 + z) false)), (50, .raw (it (z : Int))), (51, .raw (it (i : Int)))] ∧ rows = [some ⟨L8, bs p⟩]) ?_ ?_ ⟨?_, rfl⟩
  · rintro i hi env rows ⟨hh, rfl⟩ R hR
    simp only [has] at hh
    obtain ⟨q49, q50, q51, -⟩ := hh
    have e0 : ((i : Int) < (z : Int)) = True := eq_true (by omega)
    have e1 : ((0 : Int) ≤ (i : Int)) = True := eq_true (by omega)
    have e2 := wz_succ i (by omega)
    simp only [↓amD, amU, Nat.reduceBEq, Nat.reduceAdd, Nat.reduceSub, Nat.reduceMul, Nat.reduceMod, Nat.reducePow, Nat.reduceLT, Nat.reduceDiv, Int.reduceToNat, BitVec.reduceToNat, zipEnv, Int.reduceLE, Int.reduceLT, Int.reduceNeg, BitVec.reduceEq, Int.reduceAdd, Int.reduceSub, Int.reduceMul, Nat.reduceLeDiff, Int.reduceEq, q49, q50, q51, e0, e1, e2, b1 i hi, decide_true]
    exact hR _ _ ⟨by simp only [has, ↓amD, amU, Nat.reduceBEq, Nat.reduceAdd, Nat.reduceSub, Nat.reduceMul, Nat.reduceMod, Nat.reducePow, Nat.reduceLT, Nat.reduceDiv, Int.reduceToNat, BitVec.reduceToNat, zipEnv, Int.reduceLE, Int.reduceLT, Int.reduceNeg, BitVec.reduceEq, Int.reduceAdd, Int.reduceSub, Int.reduceMul, Nat.reduceLeDiff, Int.reduceEq, q49, q50], rfl⟩
  · rintro env rows ⟨hh, rfl⟩ R
    simp only [has] at hh
    obtain ⟨q49, q50, q51, -⟩ := hh
    have e0 : ((z : Int) < (z : Int)) = False := eq_false (by omega)
    simp only [↓amD, amU, Nat.reduceBEq, Nat.reduceAdd, Nat.reduceSub, Nat.reduceMul, Nat.reduceMod, Nat.reducePow, Nat.reduceLT, Nat.reduceDiv, Int.reduceToNat, BitVec.reduceToNat, zipEnv, Int.reduceLE, Int.reduceLT, Int.reduceNeg, BitVec.reduceEq, Int.reduceAdd, Int.reduceSub, Int.reduceMul, Nat.reduceLeDiff, Int.reduceEq, q49, q50, q51, e0, decide_false]
  · simp only [has, ↓amD, amU, Nat.reduceBEq, Nat.reduceAdd, Nat.reduceSub, Nat.reduceMul, Nat.reduceMod, Nat.reducePow, Nat.reduceLT, Nat.reduceDiv, Int.reduceToNat, BitVec.reduceToNat, zipEnv, Int.reduceLE, Int.reduceLT, Int.reduceNeg, BitVec.reduceEq, Int.reduceAdd, Int.reduceSub, Int.reduceMul, Nat.reduceLeDiff, Int.reduceEq]
end Job
end Go.Am
