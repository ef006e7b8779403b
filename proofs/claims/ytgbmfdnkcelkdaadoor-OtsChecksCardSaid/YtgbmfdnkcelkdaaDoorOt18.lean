/- LM-OTS: the law of checksums -/
import Derived.Test.YtgbmfdnkcelkdaaDoorOt17
namespace Go.Am
set_option linter.unusedSimpArgs false
set_option linter.unusedVariables false
attribute [local congr] bnd_congr kCond_congr kGd_congr kPick_congr kCall_congr kIdx_congr kSlice_congr kLoop_congr cond_congr' aBin_congr aBounds_congr aApp_congr aCopy_congr kFn_congr
namespace Job
open Go.Am.F
set_option maxRecDepth 10000
theorem coefN_ar (p : List (BitVec 8)) (i w : Nat) (hw : w4 w = true) : coefN p i w = (p.getD (i / (8 / w)) 0#8).toNat / 2 ^ (8 - w * (i % (8 / w)) - w) % 2 ^ w := by
  unfold coefN
  generalize p.getD (i / (8 / w)) 0#8 = x
  generalize 8 - w * (i % (8 / w)) - w = s
  rw [BitVec.toNat_and, BitVec.toNat_ushiftRight, Nat.shiftRight_eq_div_pow]
  have h : (BitVec.ofNat 8 (2 ^ w - 1)).toNat = 2 ^ w - 1 := by rcases w4_eq.1 hw with rfl | rfl | rfl | rfl <;> rfl
  rw [h, Nat.and_two_pow_sub_one_eq_mod]
theorem chk_get (a : List (BitVec 8)) (c j w e : Nat) (ha : a.length = 32) (he : 8 / w = e) (hw : w4 w = true) : coefN (a ++ be2 c) (32 * e + j) w = ((be2 c).getD (j / e) 0#8).toNat / 2 ^ (8 - w * (j % e) - w) % 2 ^ w := by
  have he0 : 0 < e := by rw [← he]; rcases w4_eq.1 hw with rfl | rfl | rfl | rfl <;> decide
  rw [coefN_ar _ _ _ hw, he]
  have h1 : (32 * e + j) / e = 32 + j / e := by rw [Nat.add_comm, Nat.add_mul_div_right _ _ he0, Nat.add_comm]
  have h2 : (32 * e + j) % e = j % e := by rw [Nat.add_comm, Nat.add_mul_mod_self_right]
  rw [h1, h2]
  congr 3
  rw [List.getD, List.getElem?_append_right (by rw [ha]; exact Nat.le_add_right _ _), ha, Nat.add_sub_cancel_left]
  rfl
theorem msg_get (x : Par) (a : List (BitVec 8)) (ha : a.length = 32) (i w : Nat) (hw : w4 w = true) (hi : i / (8 / w) < 32) : coefN (fullD x a) i w = coefN a i w := by
  rw [coefN_ar _ _ _ hw, coefN_ar _ _ _ hw]
  congr 3
  rw [fullD, List.getD, List.getElem?_append_left (by omega)]
  rfl
set_option maxHeartbeats 1000000
theorem csum1 (s : Nat) (a : List (BitVec 8)) (ha : a.length = 32) (hs : s * 2 ^ 7 < 65536) :
    coefN (a ++ be2 (s * 2 ^ 7)) (256 + 0) 1 * 256 + coefN (a ++ be2 (s * 2 ^ 7)) (256 + 1) 1 * 128 + coefN (a ++ be2 (s * 2 ^ 7)) (256 + 2) 1 * 64 + coefN (a ++ be2 (s * 2 ^ 7)) (256 + 3) 1 * 32 + coefN (a ++ be2 (s * 2 ^ 7)) (256 + 4) 1 * 16 + coefN (a ++ be2 (s * 2 ^ 7)) (256 + 5) 1 * 8 + coefN (a ++ be2 (s * 2 ^ 7)) (256 + 6) 1 * 4 + coefN (a ++ be2 (s * 2 ^ 7)) (256 + 7) 1 * 2 + coefN (a ++ be2 (s * 2 ^ 7)) (256 + 8) 1 * 1 = s := by
  have g0 := chk_get a (s * 2 ^ 7) 0 1 8 ha rfl (by decide)
  have g1 := chk_get a (s * 2 ^ 7) 1 1 8 ha rfl (by decide)
  have g2 := chk_get a (s * 2 ^ 7) 2 1 8 ha rfl (by decide)
  have g3 := chk_get a (s * 2 ^ 7) 3 1 8 ha rfl (by decide)
  have g4 := chk_get a (s * 2 ^ 7) 4 1 8 ha rfl (by decide)
  have g5 := chk_get a (s * 2 ^ 7) 5 1 8 ha rfl (by decide)
  have g6 := chk_get a (s * 2 ^ 7) 6 1 8 ha rfl (by decide)
  have g7 := chk_get a (s * 2 ^ 7) 7 1 8 ha rfl (by decide)
  have g8 := chk_get a (s * 2 ^ 7) 8 1 8 ha rfl (by decide)
  simp only [Nat.reduceMul, Nat.reduceDiv, Nat.reduceMod, Nat.reduceAdd, Nat.reduceSub, Nat.reducePow] at g0 g1 g2 g3 g4 g5 g6 g7 g8
  have hb0 : ((be2 (s * 128)).getD 0 0#8).toNat = s * 128 / 256 := by
    show (BitVec.ofNat 8 (s * 128 / 256)).toNat = _
    rw [BitVec.toNat_ofNat]; omega
  have hb1 : ((be2 (s * 128)).getD 1 0#8).toNat = s * 128 % 256 := by
    show (BitVec.ofNat 8 (s * 128)).toNat = _
    rw [BitVec.toNat_ofNat]
  simp only [hb0, hb1] at g0 g1 g2 g3 g4 g5 g6 g7 g8
  simp only [Nat.reducePow, Nat.reduceAdd] at hs ⊢
  rw [g0, g1, g2, g3, g4, g5, g6, g7, g8]
  omega
theorem csum2 (s : Nat) (a : List (BitVec 8)) (ha : a.length = 32) (hs : s * 2 ^ 6 < 65536) :
    coefN (a ++ be2 (s * 2 ^ 6)) (128 + 0) 2 * 256 + coefN (a ++ be2 (s * 2 ^ 6)) (128 + 1) 2 * 64 + coefN (a ++ be2 (s * 2 ^ 6)) (128 + 2) 2 * 16 + coefN (a ++ be2 (s * 2 ^ 6)) (128 + 3) 2 * 4 + coefN (a ++ be2 (s * 2 ^ 6)) (128 + 4) 2 * 1 = s := by
  have g0 := chk_get a (s * 2 ^ 6) 0 2 4 ha rfl (by decide)
  have g1 := chk_get a (s * 2 ^ 6) 1 2 4 ha rfl (by decide)
  have g2 := chk_get a (s * 2 ^ 6) 2 2 4 ha rfl (by decide)
  have g3 := chk_get a (s * 2 ^ 6) 3 2 4 ha rfl (by decide)
  have g4 := chk_get a (s * 2 ^ 6) 4 2 4 ha rfl (by decide)
  simp only [Nat.reduceMul, Nat.reduceDiv, Nat.reduceMod, Nat.reduceAdd, Nat.reduceSub, Nat.reducePow] at g0 g1 g2 g3 g4
  have hb0 : ((be2 (s * 64)).getD 0 0#8).toNat = s * 64 / 256 := by
    show (BitVec.ofNat 8 (s * 64 / 256)).toNat = _
    rw [BitVec.toNat_ofNat]; omega
  have hb1 : ((be2 (s * 64)).getD 1 0#8).toNat = s * 64 % 256 := by
    show (BitVec.ofNat 8 (s * 64)).toNat = _
    rw [BitVec.toNat_ofNat]
  simp only [hb0, hb1] at g0 g1 g2 g3 g4
  simp only [Nat.reducePow, Nat.reduceAdd] at hs ⊢
  rw [g0, g1, g2, g3, g4]
  omega
theorem csum3 (s : Nat) (a : List (BitVec 8)) (ha : a.length = 32) (hs : s * 2 ^ 4 < 65536) :
    coefN (a ++ be2 (s * 2 ^ 4)) (64 + 0) 4 * 256 + coefN (a ++ be2 (s * 2 ^ 4)) (64 + 1) 4 * 16 + coefN (a ++ be2 (s * 2 ^ 4)) (64 + 2) 4 * 1 = s := by
  have g0 := chk_get a (s * 2 ^ 4) 0 4 2 ha rfl (by decide)
  have g1 := chk_get a (s * 2 ^ 4) 1 4 2 ha rfl (by decide)
  have g2 := chk_get a (s * 2 ^ 4) 2 4 2 ha rfl (by decide)
  simp only [Nat.reduceMul, Nat.reduceDiv, Nat.reduceMod, Nat.reduceAdd, Nat.reduceSub, Nat.reducePow] at g0 g1 g2
  have hb0 : ((be2 (s * 16)).getD 0 0#8).toNat = s * 16 / 256 := by
    show (BitVec.ofNat 8 (s * 16 / 256)).toNat = _
    rw [BitVec.toNat_ofNat]; omega
  have hb1 : ((be2 (s * 16)).getD 1 0#8).toNat = s * 16 % 256 := by
    show (BitVec.ofNat 8 (s * 16)).toNat = _
    rw [BitVec.toNat_ofNat]
  simp only [hb0, hb1] at g0 g1 g2
  simp only [Nat.reducePow, Nat.reduceAdd] at hs ⊢
  rw [g0, g1, g2]
  omega
theorem csum4 (s : Nat) (a : List (BitVec 8)) (ha : a.length = 32) (hs : s * 2 ^ 0 < 65536) :
    coefN (a ++ be2 (s * 2 ^ 0)) (32 + 0) 8 * 256 + coefN (a ++ be2 (s * 2 ^ 0)) (32 + 1) 8 * 1 = s := by
  have g0 := chk_get a (s * 2 ^ 0) 0 8 1 ha rfl (by decide)
  have g1 := chk_get a (s * 2 ^ 0) 1 8 1 ha rfl (by decide)
  simp only [Nat.reduceMul, Nat.reduceDiv, Nat.reduceMod, Nat.reduceAdd, Nat.reduceSub, Nat.reducePow] at g0 g1
  have hb0 : ((be2 (s * 1)).getD 0 0#8).toNat = s * 1 / 256 := by
    show (BitVec.ofNat 8 (s * 1 / 256)).toNat = _
    rw [BitVec.toNat_ofNat]; omega
  have hb1 : ((be2 (s * 1)).getD 1 0#8).toNat = s * 1 % 256 := by
    show (BitVec.ofNat 8 (s * 1)).toNat = _
    rw [BitVec.toNat_ofNat]
  simp only [hb0, hb1] at g0 g1
  simp only [Nat.reducePow, Nat.reduceAdd] at hs ⊢
  rw [g0, g1]
  omega
theorem sum_eq (a b : List (BitVec 8)) (w : Nat) (hw : w4 w = true) : ∀ n, (∀ i, i < n → coefN b i w ≤ coefN a i w) → sumD a w n ≤ sumD b w n ∧ (sumD b w n ≤ sumD a w n → ∀ i, i < n → coefN b i w = coefN a i w)
  | 0, _ => ⟨Nat.le_refl _, fun _ i hi => by omega⟩
  | n + 1, h => by
    obtain ⟨h1, h2⟩ := sum_eq a b w hw n (fun i hi => h i (by omega))
    have ha := coefN_le a n w hw
    have hb := coefN_le b n w hw
    have hn := h n (by omega)
    rw [sumD, sumD]
    refine ⟨by omega, fun h3 i hi => ?_⟩
    by_cases c : i = n
    · subst c; omega
    · exact h2 (by omega) i (by omega)
theorem bytes_eq (a b : List (BitVec 8)) (w : Nat) (ha : a.length = 32) (hb : b.length = 32) (hw : w4 w = true) (h0 : ∀ i, i < 256 / w → coefN b i w = coefN a i w) : b = a := by
  have h : ∀ i, i < 256 / w → coefN a i w = coefN b i w := fun i hi => (h0 i hi).symm
  have key : ∀ q, q < 32 → (a.getD q 0#8).toNat = (b.getD q 0#8).toNat := by
    intro q hq
    have xa := (a.getD q 0#8).isLt
    have xb := (b.getD q 0#8).isLt
    rcases w4_eq.1 hw with rfl | rfl | rfl | rfl
    · have h : ∀ r, r < 8 → coefN a (8 * q + r) 1 = coefN b (8 * q + r) 1 := fun r hr => h (8 * q + r) (by omega)
      have f0 := h 0 (by decide)
      rw [coefN_ar a _ 1 (by decide), coefN_ar b _ 1 (by decide), show (8 * q + 0) / (8 / 1) = q by omega, show (8 * q + 0) % (8 / 1) = 0 by omega] at f0
      have f1 := h 1 (by decide)
      rw [coefN_ar a _ 1 (by decide), coefN_ar b _ 1 (by decide), show (8 * q + 1) / (8 / 1) = q by omega, show (8 * q + 1) % (8 / 1) = 1 by omega] at f1
      have f2 := h 2 (by decide)
      rw [coefN_ar a _ 1 (by decide), coefN_ar b _ 1 (by decide), show (8 * q + 2) / (8 / 1) = q by omega, show (8 * q + 2) % (8 / 1) = 2 by omega] at f2
      have f3 := h 3 (by decide)
      rw [coefN_ar a _ 1 (by decide), coefN_ar b _ 1 (by decide), show (8 * q + 3) / (8 / 1) = q by omega, show (8 * q + 3) % (8 / 1) = 3 by omega] at f3
      have f4 := h 4 (by decide)
      rw [coefN_ar a _ 1 (by decide), coefN_ar b _ 1 (by decide), show (8 * q + 4) / (8 / 1) = q by omega, show (8 * q + 4) % (8 / 1) = 4 by omega] at f4
      have f5 := h 5 (by decide)
      rw [coefN_ar a _ 1 (by decide), coefN_ar b _ 1 (by decide), show (8 * q + 5) / (8 / 1) = q by omega, show (8 * q + 5) % (8 / 1) = 5 by omega] at f5
      have f6 := h 6 (by decide)
      rw [coefN_ar a _ 1 (by decide), coefN_ar b _ 1 (by decide), show (8 * q + 6) / (8 / 1) = q by omega, show (8 * q + 6) % (8 / 1) = 6 by omega] at f6
      have f7 := h 7 (by decide)
      rw [coefN_ar a _ 1 (by decide), coefN_ar b _ 1 (by decide), show (8 * q + 7) / (8 / 1) = q by omega, show (8 * q + 7) % (8 / 1) = 7 by omega] at f7
      simp only [Nat.reduceMul, Nat.reduceDiv, Nat.reduceMod, Nat.reduceAdd, Nat.reduceSub, Nat.reducePow] at f0 f1 f2 f3 f4 f5 f6 f7
      omega
    · have h : ∀ r, r < 4 → coefN a (4 * q + r) 2 = coefN b (4 * q + r) 2 := fun r hr => h (4 * q + r) (by omega)
      have f0 := h 0 (by decide)
      rw [coefN_ar a _ 2 (by decide), coefN_ar b _ 2 (by decide), show (4 * q + 0) / (8 / 2) = q by omega, show (4 * q + 0) % (8 / 2) = 0 by omega] at f0
      have f1 := h 1 (by decide)
      rw [coefN_ar a _ 2 (by decide), coefN_ar b _ 2 (by decide), show (4 * q + 1) / (8 / 2) = q by omega, show (4 * q + 1) % (8 / 2) = 1 by omega] at f1
      have f2 := h 2 (by decide)
      rw [coefN_ar a _ 2 (by decide), coefN_ar b _ 2 (by decide), show (4 * q + 2) / (8 / 2) = q by omega, show (4 * q + 2) % (8 / 2) = 2 by omega] at f2
      have f3 := h 3 (by decide)
      rw [coefN_ar a _ 2 (by decide), coefN_ar b _ 2 (by decide), show (4 * q + 3) / (8 / 2) = q by omega, show (4 * q + 3) % (8 / 2) = 3 by omega] at f3
      simp only [Nat.reduceMul, Nat.reduceDiv, Nat.reduceMod, Nat.reduceAdd, Nat.reduceSub, Nat.reducePow] at f0 f1 f2 f3
      omega
    · have h : ∀ r, r < 2 → coefN a (2 * q + r) 4 = coefN b (2 * q + r) 4 := fun r hr => h (2 * q + r) (by omega)
      have f0 := h 0 (by decide)
      rw [coefN_ar a _ 4 (by decide), coefN_ar b _ 4 (by decide), show (2 * q + 0) / (8 / 4) = q by omega, show (2 * q + 0) % (8 / 4) = 0 by omega] at f0
      have f1 := h 1 (by decide)
      rw [coefN_ar a _ 4 (by decide), coefN_ar b _ 4 (by decide), show (2 * q + 1) / (8 / 4) = q by omega, show (2 * q + 1) % (8 / 4) = 1 by omega] at f1
      simp only [Nat.reduceMul, Nat.reduceDiv, Nat.reduceMod, Nat.reduceAdd, Nat.reduceSub, Nat.reducePow] at f0 f1
      omega
    · have h : ∀ r, r < 1 → coefN a (1 * q + r) 8 = coefN b (1 * q + r) 8 := fun r hr => h (1 * q + r) (by omega)
      have f0 := h 0 (by decide)
      rw [coefN_ar a _ 8 (by decide), coefN_ar b _ 8 (by decide), show (1 * q + 0) / (8 / 8) = q by omega, show (1 * q + 0) % (8 / 8) = 0 by omega] at f0
      simp only [Nat.reduceMul, Nat.reduceDiv, Nat.reduceMod, Nat.reduceAdd, Nat.reduceSub, Nat.reducePow] at f0
      omega
  apply List.ext_getElem (by omega)
  intro i h1 h2
  have := BitVec.eq_of_toNat_eq (key i (by omega))
  simpa [List.getD, h1, h2] using this.symm
def lessN (x y : List Nat) : Nat → Bool
  | 0 => false
  | i + 1 => lessN x y i || decide (x.getD i 0 < y.getD i 0)
theorem less_false (x y : List Nat) : ∀ n, lessN x y n = false ↔ ∀ i, i < n → y.getD i 0 ≤ x.getD i 0
  | 0 => by simp [lessN]
  | n + 1 => by
    rw [lessN, Bool.or_eq_false_iff, less_false x y n, decide_eq_false_iff_not]
    constructor
    · rintro ⟨h1, h2⟩ i hi
      by_cases c : i = n
      · subst c; omega
      · exact h1 i (by omega)
    · intro h
      exact ⟨fun i hi => h i (by omega), by have := h n (by omega); omega⟩
theorem digs_get (t : Nat) (a : List (BitVec 8)) (i : Nat) (hi : i < pT t) : (digitsS t a).getD i 0 = coefN (fullD (parT t) a) i (wT t) := by
  simp [digitsS, digsP, List.getD, hi]; rfl
theorem less_eq (t : Nat) (ht : okT t = true) (a b : List (BitVec 8)) (ha : a.length = 32) (hb : b.length = 32) : lessN (digitsS t a) (digitsS t b) (pT t) = !decide (a = b) := by
  by_cases c : a = b
  · subst c
    rw [decide_eq_true rfl]
    exact (less_false _ _ _).2 fun i _ => Nat.le_refl _
  · rw [decide_eq_false c]
    cases hl : lessN (digitsS t a) (digitsS t b) (pT t) with
    | true => rfl
    | false =>
      exfalso
      apply c
      have h := (less_false _ _ _).1 hl
      have hle : ∀ i, i < pT t → coefN (fullD (parT t) b) i (wT t) ≤ coefN (fullD (parT t) a) i (wT t) := fun i hi => by
        rw [← digs_get t b i hi, ← digs_get t a i hi]; exact h i hi
      clear h hl c
      simp only [okT, Bool.and_eq_true, decide_eq_true_eq] at ht
      have : t = 1 ∨ t = 2 ∨ t = 3 ∨ t = 4 := by omega
      rcases this with rfl | rfl | rfl | rfl
      · have hsa := csum1 (sumD a 1 256) a ha (by have := sumD_le a 1 256; simp only [Nat.reducePow] at this ⊢; omega)
        have hsb := csum1 (sumD b 1 256) b hb (by have := sumD_le b 1 256; simp only [Nat.reducePow] at this ⊢; omega)
        have hF : ∀ y, fullD (parT 1) y = y ++ be2 (sumD y 1 256 * 2 ^ 7) := fun y => rfl
        have hle : ∀ i, i < 265 → coefN (fullD (parT 1) b) i 1 ≤ coefN (fullD (parT 1) a) i 1 := hle
        have hm : ∀ i, i < 256 → coefN b i 1 ≤ coefN a i 1 := fun i hi => by
          have := hle i (by omega)
          rwa [msg_get (parT 1) b hb i 1 (by decide) (by omega), msg_get (parT 1) a ha i 1 (by decide) (by omega)] at this
        have c0 := hle (256 + 0) (by decide)
        have c1 := hle (256 + 1) (by decide)
        have c2 := hle (256 + 2) (by decide)
        have c3 := hle (256 + 3) (by decide)
        have c4 := hle (256 + 4) (by decide)
        have c5 := hle (256 + 5) (by decide)
        have c6 := hle (256 + 6) (by decide)
        have c7 := hle (256 + 7) (by decide)
        have c8 := hle (256 + 8) (by decide)
        rw [hF, hF] at c0 c1 c2 c3 c4 c5 c6 c7 c8
        have hss : sumD b 1 256 ≤ sumD a 1 256 := by
          rw [← hsa, ← hsb]
          omega
        exact (bytes_eq a b 1 ha hb (by decide) ((sum_eq a b 1 (by decide) 256 hm).2 hss)).symm
      · have hsa := csum2 (sumD a 2 128) a ha (by have := sumD_le a 2 128; simp only [Nat.reducePow] at this ⊢; omega)
        have hsb := csum2 (sumD b 2 128) b hb (by have := sumD_le b 2 128; simp only [Nat.reducePow] at this ⊢; omega)
        have hF : ∀ y, fullD (parT 2) y = y ++ be2 (sumD y 2 128 * 2 ^ 6) := fun y => rfl
        have hle : ∀ i, i < 133 → coefN (fullD (parT 2) b) i 2 ≤ coefN (fullD (parT 2) a) i 2 := hle
        have hm : ∀ i, i < 128 → coefN b i 2 ≤ coefN a i 2 := fun i hi => by
          have := hle i (by omega)
          rwa [msg_get (parT 2) b hb i 2 (by decide) (by omega), msg_get (parT 2) a ha i 2 (by decide) (by omega)] at this
        have c0 := hle (128 + 0) (by decide)
        have c1 := hle (128 + 1) (by decide)
        have c2 := hle (128 + 2) (by decide)
        have c3 := hle (128 + 3) (by decide)
        have c4 := hle (128 + 4) (by decide)
        rw [hF, hF] at c0 c1 c2 c3 c4
        have hss : sumD b 2 128 ≤ sumD a 2 128 := by
          rw [← hsa, ← hsb]
          omega
        exact (bytes_eq a b 2 ha hb (by decide) ((sum_eq a b 2 (by decide) 128 hm).2 hss)).symm
      · have hsa := csum3 (sumD a 4 64) a ha (by have := sumD_le a 4 64; simp only [Nat.reducePow] at this ⊢; omega)
        have hsb := csum3 (sumD b 4 64) b hb (by have := sumD_le b 4 64; simp only [Nat.reducePow] at this ⊢; omega)
        have hF : ∀ y, fullD (parT 3) y = y ++ be2 (sumD y 4 64 * 2 ^ 4) := fun y => rfl
        have hle : ∀ i, i < 67 → coefN (fullD (parT 3) b) i 4 ≤ coefN (fullD (parT 3) a) i 4 := hle
        have hm : ∀ i, i < 64 → coefN b i 4 ≤ coefN a i 4 := fun i hi => by
          have := hle i (by omega)
          rwa [msg_get (parT 3) b hb i 4 (by decide) (by omega), msg_get (parT 3) a ha i 4 (by decide) (by omega)] at this
        have c0 := hle (64 + 0) (by decide)
        have c1 := hle (64 + 1) (by decide)
        have c2 := hle (64 + 2) (by decide)
        rw [hF, hF] at c0 c1 c2
        have hss : sumD b 4 64 ≤ sumD a 4 64 := by
          rw [← hsa, ← hsb]
          omega
        exact (bytes_eq a b 4 ha hb (by decide) ((sum_eq a b 4 (by decide) 64 hm).2 hss)).symm
      · have hsa := csum4 (sumD a 8 32) a ha (by have := sumD_le a 8 32; simp only [Nat.reducePow] at this ⊢; omega)
        have hsb := csum4 (sumD b 8 32) b hb (by have := sumD_le b 8 32; simp only [Nat.reducePow] at this ⊢; omega)
        have hF : ∀ y, fullD (parT 4) y = y ++ be2 (sumD y 8 32 * 2 ^ 0) := fun y => rfl
        have hle : ∀ i, i < 34 → coefN (fullD (parT 4) b) i 8 ≤ coefN (fullD (parT 4) a) i 8 := hle
        have hm : ∀ i, i < 32 → coefN b i 8 ≤ coefN a i 8 := fun i hi => by
          have := hle i (by omega)
          rwa [msg_get (parT 4) b hb i 8 (by decide) (by omega), msg_get (parT 4) a ha i 8 (by decide) (by omega)] at this
        have c0 := hle (32 + 0) (by decide)
        have c1 := hle (32 + 1) (by decide)
        rw [hF, hF] at c0 c1
        have hss : sumD b 8 32 ≤ sumD a 8 32 := by
          rw [← hsa, ← hsb]
          omega
        exact (bytes_eq a b 8 ha hb (by decide) ((sum_eq a b 8 (by decide) 32 hm).2 hss)).symm
theorem natD_get (X : List Nat) (i : Nat) (h : i < X.length) : (X.map natD)[i]? = some (.raw (it ((X.getD i 0 : Nat) : Int))) := by simp [natD, List.getD, h]
set_option maxHeartbeats 4000000 in
theorem checks_law (C : Ctx) (H : OG C) (t : BitVec 8) (a b : List (BitVec 8)) (at_ turn : BitVec 8) (ha : a.length = 32) (hb : b.length = 32) :
    afun C 5 r_law05_OtsChecks a_law05_OtsChecks [.raw (u8 t), .agg (.ar 32 L8) (bs a), .agg (.ar 32 L8) (bs b), .raw (u8 at_), .raw (u8 turn)] [] (fun d rows => d = .raw (.bool true)) := by
  refine afun_mk rfl ?_
  unfold a_law05_OtsChecks r_law05_OtsChecks
  simp only [z32_eq]
  obtain ⟨T, hTd⟩ : ∃ T, T = 1#32 + BitVec.setWidth 32 (t % 4#8) := ⟨_, rfl⟩
  have hT : okT T.toNat = true := by
    have h4 : (t % 4#8).toNat < 4 := by rw [BitVec.toNat_umod]; exact Nat.mod_lt _ (by decide)
    have : T.toNat = 1 + (t % 4#8).toNat := by
      rw [hTd, BitVec.toNat_add, BitVec.toNat_setWidth]
      show (1 + (t % 4#8).toNat % 4294967296) % 4294967296 = _
      omega
    rw [this, okT, decide_eq_true (by omega), decide_eq_true (by omega)]; rfl
  have b0 : ∀ n : Nat, ((0 : Int) ≤ (n : Int)) = True := fun n => eq_true (by omega)
  obtain ⟨j, hj⟩ : ∃ j, j = (at_ % 32#8).toNat := ⟨_, rfl⟩
  have hj2 : j < 32 := by rw [hj, BitVec.toNat_umod]; exact Nat.mod_lt _ (by decide)
  have b1 : ((j : Int) < 32) = True := eq_true (by omega)
  have ga : (bs a)[j]? = some (.raw (u8 (a.getD j 0#8))) := bs_get (by omega)
  obtain ⟨c, hcd⟩ : ∃ c, c = a.set j (a.getD j 0#8 ^^^ turn) := ⟨_, rfl⟩
  have hc : c.length = 32 := by rw [hcd, List.length_set, ha]
  have hset : (bs a).set j (.raw (u8 (a.getD j 0#8 ^^^ turn))) = bs c := by rw [hcd, bs_set]
  simp only [↓amD, amU, Nat.reduceBEq, Nat.reduceAdd, Nat.reduceSub, Nat.reduceMul, Nat.reduceMod, Nat.reducePow, Nat.reduceLT, Nat.reduceDiv, Int.reduceToNat, BitVec.reduceToNat, zipEnv, Int.reduceLE, Int.reduceLT, Int.reduceNeg, BitVec.reduceEq, Int.reduceAdd, Int.reduceSub, Int.reduceMul, Nat.reduceLeDiff, Int.reduceEq, lv_app0, lv_appk, set_app0, set_appk, List.append_assoc, List.append_nil, Nat.add_assoc, H.awake, kAwakeO, ← hTd, ← hj, b0, b1, ga, hset]
  have kd := fun rows k x hx => kDigits rows k T x hx hT
  have hlen : ∀ x, (digitsS T.toNat x).length = pT T.toNat := fun x => by simp [digitsS, digsP]
  have hpt : pT T.toNat ≤ 265 := (parT_ok hT).2.2.1
  have hless := fun x (hx : x.length = 32) => less_eq T.toNat hT a x ha hx
  have hmore := fun x (hx : x.length = 32) => less_eq T.toNat hT x a hx ha
  generalize pT T.toNat = n at *
  refine kLoop_up 2 (fun i env rows => has env [(38, .raw (it (i : Int))), (37, .raw (it 2)), (36, .sl (.ar 32 L8) 3 [] 0 2 true), (11, .raw (u32 T)), (6, .ptr (.ar 32 L8) 0 [0])] ∧
    live rows 0 = some ⟨.ar 32 L8, [.agg (.ar 32 L8) (bs a)]⟩ ∧ live rows 3 = some ⟨.ar 32 L8, [.agg (.ar 32 L8) (bs b), .agg (.ar 32 L8) (bs c)]⟩) ?_ ?_ ⟨?_, rfl, rfl⟩
  · rintro i hi env rows ⟨hh, r0, r3⟩ R hR
    simp only [has] at hh
    have e0 : ((i : Int) < 2) = True := eq_true (by omega)
    have e1 := wz_succ i (by omega)
    obtain ⟨x, hx, gx⟩ : ∃ x : List (BitVec 8), x.length = 32 ∧ [D.agg (.ar 32 L8) (bs b), .agg (.ar 32 L8) (bs c)][i]? = some (.agg (.ar 32 L8) (bs x)) := by
      match i, hi with
      | 0, _ => exact ⟨b, hb, rfl⟩
      | 1, _ => exact ⟨c, hc, rfl⟩
    have r0A := fun L => live_app r0 L
    have kA := fun rows k => kd rows k a ha
    have kX := fun rows k => kd rows k x hx
    simp only [↓amD, amU, Nat.reduceBEq, Nat.reduceAdd, Nat.reduceSub, Nat.reduceMul, Nat.reduceMod, Nat.reducePow, Nat.reduceLT, Nat.reduceDiv, Int.reduceToNat, BitVec.reduceToNat, zipEnv, Int.reduceLE, Int.reduceLT, Int.reduceNeg, BitVec.reduceEq, Int.reduceAdd, Int.reduceSub, Int.reduceMul, Nat.reduceLeDiff, Int.reduceEq, lv_app0, lv_appk, set_app0, set_appk, List.append_assoc, List.append_nil, Nat.add_assoc, hh, e0, b0, r3, gx, r0A, H.digits, kA, kX]
    have z0 := r0A [some ⟨.ar 32 L8, [.agg (.ar 32 L8) (bs x)]⟩, some ⟨LI, (digitsS T.toNat a).map natD⟩, some ⟨LI, (digitsS T.toNat x).map natD⟩]
    have z3 := live_app r3 [some ⟨.ar 32 L8, [.agg (.ar 32 L8) (bs x)]⟩, some ⟨LI, (digitsS T.toNat a).map natD⟩, some ⟨LI, (digitsS T.toNat x).map natD⟩]
    have zx : live (rows ++ [some ⟨.ar 32 L8, [.agg (.ar 32 L8) (bs x)]⟩, some ⟨LI, (digitsS T.toNat a).map natD⟩, some ⟨LI, (digitsS T.toNat x).map natD⟩]) rows.length = some ⟨.ar 32 L8, [.agg (.ar 32 L8) (bs x)]⟩ := by rw [lv_app0]; rfl
    have zA : live (rows ++ [some ⟨.ar 32 L8, [.agg (.ar 32 L8) (bs x)]⟩, some ⟨LI, (digitsS T.toNat a).map natD⟩, some ⟨LI, (digitsS T.toNat x).map natD⟩]) (rows.length + 1) = some ⟨LI, (digitsS T.toNat a).map natD⟩ := by rw [lv_appk]; rfl
    have zX : live (rows ++ [some ⟨.ar 32 L8, [.agg (.ar 32 L8) (bs x)]⟩, some ⟨LI, (digitsS T.toNat a).map natD⟩, some ⟨LI, (digitsS T.toNat x).map natD⟩]) (rows.length + 2) = some ⟨LI, (digitsS T.toNat x).map natD⟩ := by rw [lv_appk]; rfl
    have hl := hless x hx
    have hm := hmore x hx
    have lA := hlen a
    have lX := hlen x
    generalize rows ++ [some ⟨.ar 32 L8, [.agg (.ar 32 L8) (bs x)]⟩, some ⟨LI, (digitsS T.toNat a).map natD⟩, some ⟨LI, (digitsS T.toNat x).map natD⟩] = R1 at *
    generalize digitsS T.toNat a = DA at *
    generalize digitsS T.toNat x = DX at *
    generalize rows.length = nr at *
    refine kLoop_up n (fun k env rows => has env [(50, .raw (it (k : Int))), (49, .raw (it (n : Int))), (15, .sl LI (nr + 1) [] 0 n false), (16, .sl LI (nr + 2) [] 0 n false), (17, .raw (.bool (lessN DA DX k))), (18, .raw (.bool (lessN DX DA k))), (14, .ptr (.ar 32 L8) nr [0]),
      (38, .raw (it (i : Int))), (37, .raw (it 2)), (36, .sl (.ar 32 L8) 3 [] 0 2 true), (11, .raw (u32 T)), (6, .ptr (.ar 32 L8) 0 [0])] ∧ rows = R1) ?_ ?_ ⟨?_, rfl⟩
    · clear hh
      rintro k hk env rows ⟨hh, rfl⟩ R2 hR2
      simp only [has] at hh
      have f0 : ((k : Int) < (n : Int)) = True := eq_true (by omega)
      have f1 := wz_succ k (by omega)
      have gA := natD_get DA k (by omega)
      have gX := natD_get DX k (by omega)
      have d1 : decide (((DA.getD k 0 : Nat) : Int) < ((DX.getD k 0 : Nat) : Int)) = decide (DA.getD k 0 < DX.getD k 0) := decide_eq_decide.2 (by omega)
      have d2 : decide (((DX.getD k 0 : Nat) : Int) < ((DA.getD k 0 : Nat) : Int)) = decide (DX.getD k 0 < DA.getD k 0) := decide_eq_decide.2 (by omega)
      have s1 : lessN DA DX (k + 1) = (lessN DA DX k || decide (DA.getD k 0 < DX.getD k 0)) := rfl
      have s2 : lessN DX DA (k + 1) = (lessN DX DA k || decide (DX.getD k 0 < DA.getD k 0)) := rfl
      cases h1 : lessN DA DX k <;> cases h2 : lessN DX DA k <;> rw [h1] at hh s1 <;> rw [h2] at hh s2
      · simp only [↓amD, amU, Nat.reduceBEq, Nat.reduceAdd, Nat.reduceSub, Nat.reduceMul, Nat.reduceMod, Nat.reducePow, Nat.reduceLT, Nat.reduceDiv, Int.reduceToNat, BitVec.reduceToNat, zipEnv, Int.reduceLE, Int.reduceLT, Int.reduceNeg, BitVec.reduceEq, Int.reduceAdd, Int.reduceSub, Int.reduceMul, Nat.reduceLeDiff, Int.reduceEq, lv_app0, lv_appk, set_app0, set_appk, List.append_assoc, List.append_nil, Nat.add_assoc, hh, f0, f1, b0, zA, zX, gA, gX, d1, d2]
        exact hR2 _ _ ⟨by simp only [has, ↓amD, amU, Nat.reduceBEq, Nat.reduceAdd, Nat.reduceSub, Nat.reduceMul, Nat.reduceMod, Nat.reducePow, Nat.reduceLT, Nat.reduceDiv, Int.reduceToNat, BitVec.reduceToNat, zipEnv, Int.reduceLE, Int.reduceLT, Int.reduceNeg, BitVec.reduceEq, Int.reduceAdd, Int.reduceSub, Int.reduceMul, Nat.reduceLeDiff, Int.reduceEq, hh, s1, s2, Bool.false_or], rfl⟩
      · simp only [↓amD, amU, Nat.reduceBEq, Nat.reduceAdd, Nat.reduceSub, Nat.reduceMul, Nat.reduceMod, Nat.reducePow, Nat.reduceLT, Nat.reduceDiv, Int.reduceToNat, BitVec.reduceToNat, zipEnv, Int.reduceLE, Int.reduceLT, Int.reduceNeg, BitVec.reduceEq, Int.reduceAdd, Int.reduceSub, Int.reduceMul, Nat.reduceLeDiff, Int.reduceEq, lv_app0, lv_appk, set_app0, set_appk, List.append_assoc, List.append_nil, Nat.add_assoc, hh, f0, f1, b0, zA, zX, gA, gX, d1, d2]
        exact hR2 _ _ ⟨by simp only [has, ↓amD, amU, Nat.reduceBEq, Nat.reduceAdd, Nat.reduceSub, Nat.reduceMul, Nat.reduceMod, Nat.reducePow, Nat.reduceLT, Nat.reduceDiv, Int.reduceToNat, BitVec.reduceToNat, zipEnv, Int.reduceLE, Int.reduceLT, Int.reduceNeg, BitVec.reduceEq, Int.reduceAdd, Int.reduceSub, Int.reduceMul, Nat.reduceLeDiff, Int.reduceEq, hh, s1, s2, Bool.false_or, Bool.true_or], rfl⟩
      · simp only [↓amD, amU, Nat.reduceBEq, Nat.reduceAdd, Nat.reduceSub, Nat.reduceMul, Nat.reduceMod, Nat.reducePow, Nat.reduceLT, Nat.reduceDiv, Int.reduceToNat, BitVec.reduceToNat, zipEnv, Int.reduceLE, Int.reduceLT, Int.reduceNeg, BitVec.reduceEq, Int.reduceAdd, Int.reduceSub, Int.reduceMul, Nat.reduceLeDiff, Int.reduceEq, lv_app0, lv_appk, set_app0, set_appk, List.append_assoc, List.append_nil, Nat.add_assoc, hh, f0, f1, b0, zA, zX, gA, gX, d1, d2]
        exact hR2 _ _ ⟨by simp only [has, ↓amD, amU, Nat.reduceBEq, Nat.reduceAdd, Nat.reduceSub, Nat.reduceMul, Nat.reduceMod, Nat.reducePow, Nat.reduceLT, Nat.reduceDiv, Int.reduceToNat, BitVec.reduceToNat, zipEnv, Int.reduceLE, Int.reduceLT, Int.reduceNeg, BitVec.reduceEq, Int.reduceAdd, Int.reduceSub, Int.reduceMul, Nat.reduceLeDiff, Int.reduceEq, hh, s1, s2, Bool.false_or, Bool.true_or], rfl⟩
      · simp only [↓amD, amU, Nat.reduceBEq, Nat.reduceAdd, Nat.reduceSub, Nat.reduceMul, Nat.reduceMod, Nat.reducePow, Nat.reduceLT, Nat.reduceDiv, Int.reduceToNat, BitVec.reduceToNat, zipEnv, Int.reduceLE, Int.reduceLT, Int.reduceNeg, BitVec.reduceEq, Int.reduceAdd, Int.reduceSub, Int.reduceMul, Nat.reduceLeDiff, Int.reduceEq, lv_app0, lv_appk, set_app0, set_appk, List.append_assoc, List.append_nil, Nat.add_assoc, hh, f0, f1, b0, zA, zX, gA, gX, d1, d2]
        exact hR2 _ _ ⟨by simp only [has, ↓amD, amU, Nat.reduceBEq, Nat.reduceAdd, Nat.reduceSub, Nat.reduceMul, Nat.reduceMod, Nat.reducePow, Nat.reduceLT, Nat.reduceDiv, Int.reduceToNat, BitVec.reduceToNat, zipEnv, Int.reduceLE, Int.reduceLT, Int.reduceNeg, BitVec.reduceEq, Int.reduceAdd, Int.reduceSub, Int.reduceMul, Nat.reduceLeDiff, Int.reduceEq, hh, s1, s2, Bool.true_or], rfl⟩
    · clear hh
      rintro env rows ⟨hh, rfl⟩ R2
      simp only [has] at hh
      have f0 : ((n : Int) < (n : Int)) = False := eq_false (by omega)
      have q := eqA_d32 a x ha hx
      have hm2 : lessN DX DA n = !decide (a = x) := by rw [hm]; congr 1; exact decide_eq_decide.2 ⟨Eq.symm, Eq.symm⟩
      have hbb : ∀ b : Bool, (b == b) = true := fun b => by cases b <;> rfl
      rw [hl, hm2] at hh
      simp only [↓amD, amU, Nat.reduceBEq, Nat.reduceAdd, Nat.reduceSub, Nat.reduceMul, Nat.reduceMod, Nat.reducePow, Nat.reduceLT, Nat.reduceDiv, Int.reduceToNat, BitVec.reduceToNat, zipEnv, Int.reduceLE, Int.reduceLT, Int.reduceNeg, BitVec.reduceEq, Int.reduceAdd, Int.reduceSub, Int.reduceMul, Nat.reduceLeDiff, Int.reduceEq, lv_app0, lv_appk, set_app0, set_appk, List.append_assoc, List.append_nil, Nat.add_assoc, hh, f0, e1, z0, zx, q, hbb, Bool.not_true]
      exact hR _ _ ⟨by simp only [has, ↓amD, amU, Nat.reduceBEq, Nat.reduceAdd, Nat.reduceSub, Nat.reduceMul, Nat.reduceMod, Nat.reducePow, Nat.reduceLT, Nat.reduceDiv, Int.reduceToNat, BitVec.reduceToNat, zipEnv, Int.reduceLE, Int.reduceLT, Int.reduceNeg, BitVec.reduceEq, Int.reduceAdd, Int.reduceSub, Int.reduceMul, Nat.reduceLeDiff, Int.reduceEq, hh], z0, z3⟩
    · simp only [has, ↓amD, amU, Nat.reduceBEq, Nat.reduceAdd, Nat.reduceSub, Nat.reduceMul, Nat.reduceMod, Nat.reducePow, Nat.reduceLT, Nat.reduceDiv, Int.reduceToNat, BitVec.reduceToNat, zipEnv, Int.reduceLE, Int.reduceLT, Int.reduceNeg, BitVec.reduceEq, Int.reduceAdd, Int.reduceSub, Int.reduceMul, Nat.reduceLeDiff, Int.reduceEq, hh]
      simp [lessN]
  · rintro env rows ⟨hh, -⟩ R
    simp only [has] at hh
    have e0 : (((2 : Nat) : Int) < 2) = False := eq_false (by decide)
    simp only [↓amD, amU, Nat.reduceBEq, Nat.reduceAdd, Nat.reduceSub, Nat.reduceMul, Nat.reduceMod, Nat.reducePow, Nat.reduceLT, Nat.reduceDiv, Int.reduceToNat, BitVec.reduceToNat, zipEnv, Int.reduceLE, Int.reduceLT, Int.reduceNeg, BitVec.reduceEq, Int.reduceAdd, Int.reduceSub, Int.reduceMul, Nat.reduceLeDiff, Int.reduceEq, lv_app0, lv_appk, set_app0, set_appk, List.append_assoc, List.append_nil, Nat.add_assoc, hh, e0]
  · simp only [has, ↓amD, amU, Nat.reduceBEq, Nat.reduceAdd, Nat.reduceSub, Nat.reduceMul, Nat.reduceMod, Nat.reducePow, Nat.reduceLT, Nat.reduceDiv, Int.reduceToNat, BitVec.reduceToNat, zipEnv, Int.reduceLE, Int.reduceLT, Int.reduceNeg, BitVec.reduceEq, Int.reduceAdd, Int.reduceSub, Int.reduceMul, Nat.reduceLeDiff, Int.reduceEq]
end Job
end Go.Am
