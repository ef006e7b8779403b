/- AES: the reference's schedule and blocks: plain lemmas -/
import Derived.Test.YtloclegkilgglaaAes13
import Derived.Test.YtloclegkilgglaaAes10
namespace Go.Am
set_option linter.unusedSimpArgs false
set_option linter.unusedVariables false
namespace Job
open Go.Am.F
set_option maxRecDepth 10000
theorem byW_num (a b c d : BitVec 8) : byW (numS [a, b, c, d]) = [a, b, c, d] := word_num a b c d
theorem bit_cases {i : Nat} (h : i < 32) : i < 8 ∨ (8 ≤ i ∧ i < 16) ∨ (16 ≤ i ∧ i < 24) ∨ (24 ≤ i ∧ i < 32) := by omega
theorem num_bit (a b c d : BitVec 8) (i : Nat) (h : i < 32) : (numS [a, b, c, d]).getLsbD i = if i < 8 then d.getLsbD i else if i < 16 then c.getLsbD (i - 8) else if i < 24 then b.getLsbD (i - 16) else a.getLsbD (i - 24) := by
  have z : ∀ (x : BitVec 8) (j : Nat), 8 ≤ j → x.getLsbD j = false := fun x j hj => BitVec.getLsbD_of_ge _ _ hj
  have e : (numS [a, b, c, d]).getLsbD i = ((decide (i < 32) && (!decide (i < 24) && (decide (i - 24 < 32) && a.getLsbD (i - 24)))) || (decide (i < 32) && (!decide (i < 16) && (decide (i - 16 < 32) && b.getLsbD (i - 16)))) || (decide (i < 32) && (!decide (i < 8) && (decide (i - 8 < 32) && c.getLsbD (i - 8)))) || (decide (i < 32) && d.getLsbD i)) := by
    simp [numS, Bool.and_assoc]
  rw [e]
  rcases bit_cases h with h1 | ⟨h1, h2⟩ | ⟨h1, h2⟩ | ⟨h1, h2⟩
  · simp [h1, (eq_true (by omega : i < 24)), (eq_true (by omega : i < 16)), h]
  · simp [eq_true h, eq_true h2, (eq_false (by omega : ¬ i < 8)), (eq_true (by omega : i < 24)), (eq_true (by omega : i - 8 < 32)), z d i (by omega)]
  · simp [eq_true h, eq_true h2, (eq_false (by omega : ¬ i < 8)), (eq_false (by omega : ¬ i < 16)), (eq_true (by omega : i - 16 < 32)), (eq_true (by omega : i - 8 < 32)), z d i (by omega), z c (i - 8) (by omega)]
  · simp [eq_true h, (eq_false (by omega : ¬ i < 8)), (eq_false (by omega : ¬ i < 16)), (eq_false (by omega : ¬ i < 24)), (eq_true (by omega : i - 16 < 32)), (eq_true (by omega : i - 8 < 32)), (eq_true (by omega : i - 24 < 32)), z d i (by omega), z c (i - 8) (by omega), z b (i - 16) (by omega)]
theorem num_ext {x : BitVec 32} {a b c d : BitVec 8} (h : ∀ i, i < 32 → x.getLsbD i = if i < 8 then d.getLsbD i else if i < 16 then c.getLsbD (i - 8) else if i < 24 then b.getLsbD (i - 16) else a.getLsbD (i - 24)) : x = numS [a, b, c, d] := by
  apply BitVec.eq_of_getLsbD_eq
  intro i hi
  rw [h i hi, num_bit a b c d i hi]
theorem xor_num (a b c d e f g k : BitVec 8) : numS [a, b, c, d] ^^^ numS [e, f, g, k] = numS [a ^^^ e, b ^^^ f, c ^^^ g, d ^^^ k] := by
  refine num_ext fun i hi => ?_
  rw [BitVec.getLsbD_xor, num_bit _ _ _ _ i hi, num_bit _ _ _ _ i hi]
  simp only [BitVec.getLsbD_xor]
  split
  · rfl
  · split
    · rfl
    · split <;> rfl
theorem rol_num (a b c d : BitVec 8) : rol32 (numS [a, b, c, d]) 8 = numS [b, c, d, a] := by
  refine num_ext fun i hi => ?_
  have e : (rol32 (numS [a, b, c, d]) 8).getLsbD i = ((decide (i < 32) && (!decide (i < 8) && (numS [a, b, c, d]).getLsbD (i - 8))) || (numS [a, b, c, d]).getLsbD (24 + i)) := by
    simp [rol32, Bool.and_assoc]
  rw [e]
  rcases bit_cases hi with h1 | ⟨h1, h2⟩ | ⟨h1, h2⟩ | ⟨h1, h2⟩
  · rw [num_bit _ _ _ _ (24 + i) (by omega)]
    simp [eq_true h1, eq_true hi, (eq_false (by omega : ¬ 24 + i < 24)), (eq_false (by omega : ¬ 24 + i < 8)), (eq_false (by omega : ¬ 24 + i < 16))]
  · rw [num_bit _ _ _ _ (i - 8) (by omega), BitVec.getLsbD_of_ge _ (24 + i) (by omega)]
    simp [eq_true hi, (eq_false (by omega : ¬ i < 8)), eq_true h2, (eq_true (by omega : i - 8 < 8))]
  · rw [num_bit _ _ _ _ (i - 8) (by omega), BitVec.getLsbD_of_ge _ (24 + i) (by omega)]
    simp [eq_true hi, (eq_false (by omega : ¬ i < 8)), eq_true h2, (eq_false (by omega : ¬ i < 16)), (eq_false (by omega : ¬ i - 8 < 8)), (eq_true (by omega : i - 8 < 16)), (by omega : i - 8 - 8 = i - 16)]
  · rw [num_bit _ _ _ _ (i - 8) (by omega), BitVec.getLsbD_of_ge _ (24 + i) (by omega)]
    simp [eq_true hi, (eq_false (by omega : ¬ i < 8)), (eq_false (by omega : ¬ i < 24)), (eq_false (by omega : ¬ i < 16)), (eq_false (by omega : ¬ i - 8 < 8)), (eq_false (by omega : ¬ i - 8 < 16)), (eq_true (by omega : i - 8 < 24)), (by omega : i - 8 - 16 = i - 24)]
theorem con_num (c : BitVec 8) : c.setWidth 32 <<< 24 = numS [c, 0#8, 0#8, 0#8] := by simp [numS]
theorem sub_num (t : List (BitVec 8)) (a b c d : BitVec 8) : subW t (numS [a, b, c, d]) = numS [bx t a, bx t b, bx t c, bx t d] := by
  have := byW_num a b c d
  simp only [byW, List.cons.injEq, and_true] at this
  obtain ⟨h1, h2, h3, h4⟩ := this
  unfold subW
  rw [h1, h2, h3, h4]
  rfl
theorem numS_byW (x : BitVec 32) : numS (byW x) = x := by
  refine (num_ext fun i hi => ?_).symm
  rcases bit_cases hi with h1 | ⟨h1, h2⟩ | ⟨h1, h2⟩ | ⟨h1, h2⟩
  · simp [eq_true h1]
  · simp [(eq_false (by omega : ¬ i < 8)), eq_true h2, (eq_true (by omega : i - 8 < 8)), (by omega : 8 + (i - 8) = i)]
  · simp [(eq_false (by omega : ¬ i < 8)), eq_true h2, (eq_false (by omega : ¬ i < 16)), (eq_true (by omega : i - 16 < 8)), (by omega : 16 + (i - 16) = i)]
  · simp [(eq_false (by omega : ¬ i < 8)), (eq_false (by omega : ¬ i < 24)), (eq_false (by omega : ¬ i < 16)), (eq_true (by omega : i - 24 < 8)), (by omega : 24 + (i - 24) = i)]
end Job
end Go.Am
