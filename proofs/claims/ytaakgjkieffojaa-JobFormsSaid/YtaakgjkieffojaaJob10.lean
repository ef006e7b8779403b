/- numbers: the program's and the document's -/
import Derived.Test.YtaakgjkieffojaaJob9
namespace Go.Am
set_option linter.unusedSimpArgs false
set_option linter.unusedVariables false
namespace Job
theorem shl_or (a b i : Nat) (h : b < 2 ^ i) : a <<< i ||| b = a * 2 ^ i + b := by
  rw [← Nat.shiftLeft_add_eq_or_of_lt h, Nat.shiftLeft_eq]
theorem num4_nat (a b c d : BitVec 8) : (numS [a, b, c, d]).toNat = a.toNat * 16777216 + b.toNat * 65536 + c.toNat * 256 + d.toNat := by
  have ha := a.isLt
  have hb := b.isLt
  have hc := c.isLt
  have hd := d.isLt
  have e : (numS [a, b, c, d]).toNat = a.toNat <<< 24 ||| b.toNat <<< 16 ||| c.toNat <<< 8 ||| d.toNat := by
    simp only [numS, List.getD_cons_zero, List.getD_cons_succ, BitVec.toNat_or, BitVec.toNat_shiftLeft, BitVec.toNat_setWidth, Nat.shiftLeft_eq]
    rw [Nat.mod_eq_of_lt (a := a.toNat % 2 ^ 32 * 2 ^ 24) (by omega), Nat.mod_eq_of_lt (a := b.toNat % 2 ^ 32 * 2 ^ 16) (by omega), Nat.mod_eq_of_lt (a := c.toNat % 2 ^ 32 * 2 ^ 8) (by omega),
      Nat.mod_eq_of_lt (a := a.toNat) (by omega), Nat.mod_eq_of_lt (a := b.toNat) (by omega), Nat.mod_eq_of_lt (a := c.toNat) (by omega), Nat.mod_eq_of_lt (a := d.toNat) (by omega)]
  rw [e, Nat.or_assoc, Nat.or_assoc, shl_or c.toNat d.toNat 8 (by omega), shl_or b.toNat _ 16 (by omega), shl_or a.toNat _ 24 (by omega)]
  omega
theorem val4_nat (a b c d : BitVec 8) : (valS [a, b, c, d]).toNat = a.toNat * 16777216 + b.toNat * 65536 + c.toNat * 256 + d.toNat := by
  have ha := a.isLt
  have hb := b.isLt
  have hc := c.isLt
  have hd := d.isLt
  simp only [valS, List.foldl_cons, List.foldl_nil, BitVec.toNat_add, BitVec.toNat_mul, BitVec.toNat_setWidth, BitVec.toNat_ofNat]
  omega
theorem val8_nat (a b c d e f g h : BitVec 8) : (valS [a, b, c, d, e, f, g, h]).toNat = (a.toNat * 16777216 + b.toNat * 65536 + c.toNat * 256 + d.toNat) * 4294967296 + (e.toNat * 16777216 + f.toNat * 65536 + g.toNat * 256 + h.toNat) := by
  have ha := a.isLt
  have hb := b.isLt
  have hc := c.isLt
  have hd := d.isLt
  have he := e.isLt
  have hf := f.isLt
  have hg := g.isLt
  have hh := h.isLt
  simp only [valS, List.foldl_cons, List.foldl_nil, BitVec.toNat_add, BitVec.toNat_mul, BitVec.toNat_setWidth, BitVec.toNat_ofNat]
  omega
theorem val_num (a b c d : BitVec 8) : (valS [a, b, c, d]).setWidth 32 = numS [a, b, c, d] := by
  apply BitVec.eq_of_toNat_eq
  rw [BitVec.toNat_setWidth, val4_nat, num4_nat]
  have ha := a.isLt
  have hb := b.isLt
  have hc := c.isLt
  have hd := d.isLt
  omega
theorem word_num (a b c d : BitVec 8) : wordB (numS [a, b, c, d]) = [a, b, c, d] := by
  have h := num4_nat a b c d
  have ha := a.isLt
  have hb := b.isLt
  have hc := c.isLt
  have hd := d.isLt
  simp only [wordB, List.cons.injEq, and_true]
  refine ⟨?_, ?_, ?_, ?_⟩ <;> apply BitVec.eq_of_toNat_eq <;> simp only [BitVec.toNat_setWidth, BitVec.toNat_ushiftRight, h, Nat.shiftRight_eq_div_pow] <;> omega
theorem num_zero (a b c d : BitVec 8) : numS [a, b, c, d] = 0#32 ↔ a.toNat = 0 ∧ b.toNat = 0 ∧ c.toNat = 0 ∧ d.toNat = 0 := by
  rw [← BitVec.toNat_inj, num4_nat]
  simp only [BitVec.toNat_ofNat]
  omega
theorem or_zero {n : Nat} (a b : BitVec n) : a ||| b = 0#n ↔ a = 0#n ∧ b = 0#n := by
  constructor
  · intro h
    have := congrArg BitVec.toNat h
    simp only [BitVec.toNat_or, BitVec.toNat_ofNat, Nat.zero_mod, Nat.or_eq_zero_iff] at this
    exact ⟨BitVec.eq_of_toNat_eq (by simpa using this.1), BitVec.eq_of_toNat_eq (by simpa using this.2)⟩
  · rintro ⟨rfl, rfl⟩; simp
theorem numS_take (p : List (BitVec 8)) (n : Nat) (h : 4 ≤ n) : numS (p.take n) = numS p := by
  unfold numS
  simp only [List.getD_eq_getElem?_getD]
  rw [List.getElem?_take_of_lt (by omega), List.getElem?_take_of_lt (by omega), List.getElem?_take_of_lt (by omega), List.getElem?_take_of_lt (by omega)]
theorem numS_drop (p : List (BitVec 8)) (n : Nat) : numS (p.drop n) = numS [p.getD n 0#8, p.getD (n + 1) 0#8, p.getD (n + 2) 0#8, p.getD (n + 3) 0#8] := by
  simp only [numS, List.getD_eq_getElem?_getD, List.getElem?_drop, Nat.add_zero, List.getElem?_cons_zero, List.getElem?_cons_succ, Option.getD_some]
theorem list32 {α : Type} (p : List α) (h : p.length = 32) : ∃ x0 x1 x2 x3 x4 x5 x6 x7 x8 x9 x10 x11 x12 x13 x14 x15 x16 x17 x18 x19 x20 x21 x22 x23 x24 x25 x26 x27 x28 x29 x30 x31,
    p = [x0, x1, x2, x3, x4, x5, x6, x7, x8, x9, x10, x11, x12, x13, x14, x15, x16, x17, x18, x19, x20, x21, x22, x23, x24, x25, x26, x27, x28, x29, x30, x31] := by
  match p, h with
  | [x0, x1, x2, x3, x4, x5, x6, x7, x8, x9, x10, x11, x12, x13, x14, x15, x16, x17, x18, x19, x20, x21, x22, x23, x24, x25, x26, x27, x28, x29, x30, x31], _ =>
    exact ⟨x0, x1, x2, x3, x4, x5, x6, x7, x8, x9, x10, x11, x12, x13, x14, x15, x16, x17, x18, x19, x20, x21, x22, x23, x24, x25, x26, x27, x28, x29, x30, x31, rfl⟩
theorem jobOf_eq (p : List (BitVec 8)) (h : p.length = 32) : refJobOf p = jobOf p := by
  obtain ⟨x0, x1, x2, x3, x4, x5, x6, x7, x8, x9, x10, x11, x12, x13, x14, x15, x16, x17, x18, x19, x20, x21, x22, x23, x24, x25, x26, x27, x28, x29, x30, x31, rfl⟩ := list32 p h
  simp only [refJobOf, jobOf, List.drop_succ_cons, List.drop_zero, List.take_succ_cons, List.take_zero, val_num]
  rfl
theorem rest_eq (p : List (BitVec 8)) (h : p.length = 32) : decide (valS ((p.drop 20).take 8) = 0#64) = decide (numS ((p.drop 20).take 12) ||| numS ((p.drop 24).take 8) = 0#32) := by
  obtain ⟨x0, x1, x2, x3, x4, x5, x6, x7, x8, x9, x10, x11, x12, x13, x14, x15, x16, x17, x18, x19, x20, x21, x22, x23, x24, x25, x26, x27, x28, x29, x30, x31, rfl⟩ := list32 p h
  apply decide_eq_decide.2
  rw [numS_take _ _ (by omega), numS_take _ _ (by omega), numS_drop, numS_drop, or_zero]
  simp only [List.getD_cons_zero, List.getD_cons_succ, List.drop_succ_cons, List.drop_zero, List.take_succ_cons, List.take_zero, num_zero]
  rw [← BitVec.toNat_inj, val8_nat]
  simp only [BitVec.toNat_ofNat]
  omega
theorem parse_eq (p : List (BitVec 8)) : refParseS p = parseS p := by
  unfold refParseS parseS
  by_cases h : p.length = 32
  · rw [rest_eq p h, jobOf_eq p h, right_eq]
  · simp [h]
theorem bytes_jobOf (p : List (BitVec 8)) (h : p.length = 32) (h0 : numS ((p.drop 20).take 12) ||| numS ((p.drop 24).take 8) = 0#32) : bytesS (jobOf p) = p := by
  obtain ⟨x0, x1, x2, x3, x4, x5, x6, x7, x8, x9, x10, x11, x12, x13, x14, x15, x16, x17, x18, x19, x20, x21, x22, x23, x24, x25, x26, x27, x28, x29, x30, x31, rfl⟩ := list32 p h
  rw [numS_take _ _ (by omega), numS_take _ _ (by omega), numS_drop, numS_drop, or_zero] at h0
  simp only [List.getD_cons_zero, List.getD_cons_succ] at h0
  have e1 : wordB 0#32 = [x20, x21, x22, x23] := by rw [← h0.1, word_num]
  have e2 : wordB 0#32 = [x24, x25, x26, x27] := by rw [← h0.2, word_num]
  unfold bytesS jobOf
  rw [numS_take _ _ (by omega), numS_take _ _ (by omega), numS_take _ _ (by omega), numS_take _ _ (by omega), numS_take _ _ (by omega)]
  simp only [numS_drop, List.getD_cons_zero, List.getD_cons_succ, word_num]
  rw [List.append_assoc, List.append_assoc, List.append_assoc, ← List.append_assoc (wordB 0#32) (wordB 0#32)]
  rw [show wordB 0#32 ++ wordB 0#32 = [x20, x21, x22, x23] ++ [x24, x25, x26, x27] by rw [← e1, ← e2]]
  rfl
theorem parse_back (p : List (BitVec 8)) (h : (parseS p).2 = 0) : bytesS (parseS p).1 = p := by
  unfold parseS at h ⊢
  cases hc : (decide (p.length = 32) && decide (numS ((p.drop 20).take 12) ||| numS ((p.drop 24).take 8) = 0#32)) with
  | false => rw [hc] at h; simp at h
  | true =>
    rw [hc] at h
    simp only [Bool.and_eq_true, decide_eq_true_eq] at hc
    simp only [cond_true] at h ⊢
    cases hr : decide (rightS (jobOf p) = 0) with
    | false =>
      rw [hr] at h
      simp only [cond_false, decide_eq_false_iff_not] at h hr
      exact absurd h hr
    | true =>
      simp only [cond_true]
      exact bytes_jobOf p hc.1 hc.2
end Job
end Go.Am
