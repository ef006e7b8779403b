/- AES: products and the substitution, as the reference makes them -/
import Derived.Test.YtloclegkilgglaaAes7
namespace Go.Am
set_option linter.unusedSimpArgs false
set_option linter.unusedVariables false
attribute [local congr] bnd_congr kCond_congr kGd_congr kPick_congr kCall_congr kIdx_congr kSlice_congr kLoop_congr cond_congr' aBin_congr aBounds_congr aApp_congr aCopy_congr kFn_congr
namespace Job
open Go.Am.F
set_option maxRecDepth 10000
theorem b_shriN (p i : Nat) (h : i < 64) (k : D → Prop) : aBin .shr (it (p : Int)) (it (i : Int)) k = k (.raw (it ((p >>> i : Nat) : Int))) := by
  have e : (p : Int).fdiv (2 ^ (min i 64)) = ((p >>> i : Nat) : Int) := by
    rw [show min i 64 = i by omega, Nat.shiftRight_eq_div_pow, show ((2 : Int) ^ i) = ((2 ^ i : Nat) : Int) by simp]
    rw [Int.fdiv_eq_ediv_of_nonneg _ (Int.natCast_nonneg _)]; rfl
  simp only [aBin, it, Int.toNat_natCast, IntKind.bits, e]
  simp
theorem b_shliN (p i : Nat) (h : i < 64) (hp : p <<< i < 9223372036854775808) (k : D → Prop) : aBin .shl (it (p : Int)) (it (i : Int)) k = k (.raw (it ((p <<< i : Nat) : Int))) := by
  have e : (p : Int) * 2 ^ (min i 64) = ((p <<< i : Nat) : Int) := by
    rw [show min i 64 = i by omega, Nat.shiftLeft_eq]; simp
  have e0 : ∀ m : Nat, m < 9223372036854775808 → IntKind.i64.wrap (m : Int) = (m : Int) := fun m hm => wz_id (by omega)
  have e2 := e0 _ hp
  simp only [aBin, it, Int.toNat_natCast, IntKind.bits, e, e2]
  simp
theorem b_xori (a b : Int) (k : D → Prop) : aBin .xor (it a) (it b) k = k (.raw (it (wz ((BitVec.ofInt 64 a ^^^ BitVec.ofInt 64 b).toNat : Nat)))) := by simp only [aBin, it, true_and]; rfl
theorem b_xor16 (p q : BitVec 16) (k : D → Prop) : aBin .xor (it (p.toNat : Int)) (it (q.toNat : Int)) k = k (.raw (it ((p ^^^ q).toNat : Int))) := by
  rw [b_xori]
  have h : ∀ x : BitVec 16, BitVec.ofInt 64 (x.toNat : Int) = x.setWidth 64 := fun x => by
    apply BitVec.eq_of_toNat_eq; simp [BitVec.toNat_ofInt]
  have h2 : (p.setWidth 64 ^^^ q.setWidth 64) = (p ^^^ q).setWidth 64 := by simp
  have h3 := (p ^^^ q).isLt
  have h4 : ((p ^^^ q).setWidth 64).toNat = (p ^^^ q).toNat := by
    rw [BitVec.toNat_setWidth]; omega
  rw [h, h, h2, h4, wz_id (by omega)]
/-- the product, ahead of the rest -/
def cvM (a b : BitVec 8) : Nat → BitVec 16
  | 0 => 0#16
  | i + 1 => cvM a b i ^^^ bif b.getLsbD i then a.setWidth 16 <<< i else 0#16
/-- the rest -/
def rdM (p : BitVec 16) : Nat → BitVec 16
  | 0 => p
  | k + 1 => rdM p k ^^^ bif (rdM p k).getLsbD (14 - k) then 283#16 <<< (6 - k) else 0#16
def sel16 (c : Bool) (t : BitVec 16) : BitVec 16 := bif c then t else 0#16
theorem sel16_xor (c d : Bool) (t : BitVec 16) : sel16 (c ^^ d) t = sel16 c t ^^^ sel16 d t := by cases c <;> cases d <;> simp [sel16]
theorem sel16_lin (c : Bool) (s t : BitVec 16) : sel16 c (s ^^^ t) = sel16 c s ^^^ sel16 c t := by cases c <;> simp [sel16]
theorem y4 (a b c d : BitVec 16) : (a ^^^ b) ^^^ (c ^^^ d) = (a ^^^ c) ^^^ (b ^^^ d) := by
  rw [BitVec.xor_assoc, BitVec.xor_assoc]
  congr 1
  rw [← BitVec.xor_assoc, BitVec.xor_comm b c, BitVec.xor_assoc]
theorem cvM_r (a b c : BitVec 8) : ∀ i, cvM a (b ^^^ c) i = cvM a b i ^^^ cvM a c i
  | 0 => by simp [cvM]
  | i + 1 => by
    rw [cvM, cvM, cvM, cvM_r a b c i, BitVec.getLsbD_xor]
    show _ ^^^ sel16 _ _ = (_ ^^^ sel16 _ _) ^^^ (_ ^^^ sel16 _ _)
    rw [sel16_xor, y4]
theorem cvM_l (a a' b : BitVec 8) : ∀ i, cvM (a ^^^ a') b i = cvM a b i ^^^ cvM a' b i
  | 0 => by simp [cvM]
  | i + 1 => by
    rw [cvM, cvM, cvM, cvM_l a a' b i]
    have : (a ^^^ a').setWidth 16 <<< i = a.setWidth 16 <<< i ^^^ a'.setWidth 16 <<< i := by
      rw [BitVec.setWidth_xor, BitVec.shiftLeft_xor_distrib]
    rw [this]
    show _ ^^^ sel16 _ _ = (_ ^^^ sel16 _ _) ^^^ (_ ^^^ sel16 _ _)
    rw [sel16_lin, y4]
theorem rdM_lin (p q : BitVec 16) : ∀ k, rdM (p ^^^ q) k = rdM p k ^^^ rdM q k
  | 0 => rfl
  | k + 1 => by
    rw [rdM, rdM, rdM, rdM_lin p q k, BitVec.getLsbD_xor]
    show _ ^^^ sel16 _ _ = (_ ^^^ sel16 _ _) ^^^ (_ ^^^ sel16 _ _)
    rw [sel16_xor, y4]
def mulR (a b : BitVec 8) : BitVec 8 := (rdM (cvM a b 8) 7).setWidth 8
theorem mulR_eq (a b : BitVec 8) : mulR a b = gm a b := by
  refine Lin.ext (f := fun a => mulR a b) (g := fun a => gm a b) (fun x y => by simp only [mulR, cvM_l, rdM_lin, BitVec.setWidth_xor]) (fun x y => gm_l x y b) (fun x hx => ?_) a
  refine Lin.ext (f := fun b => mulR x b) (g := fun b => gm x b) (fun u v => by simp only [mulR, cvM_r, rdM_lin, BitVec.setWidth_xor]) (fun u v => gm_r x u v) (fun y hy => ?_) b
  have : ∀ x ∈ basis, ∀ y ∈ basis, mulR x y = gm x y := by decide +kernel
  exact this x hx y hy
theorem bit_at (b : BitVec 8) (i : Nat) (h : i < 8) : (b >>> i % 2#8 = 1#8) = (b.getLsbD i = true) := by
  have : ∀ i : Fin 8, ∀ b : BitVec 8, decide (b >>> i.val % 2#8 = 1#8) = b.getLsbD i.val := by decide +kernel
  rw [← this ⟨i, h⟩ b]; simp
theorem bit16_at (p : BitVec 16) (i : Nat) : (((p.toNat >>> i % 2 : Nat) : Int) = 1) = (p.getLsbD i = true) := by
  rw [BitVec.getLsbD, Nat.testBit_eq_decide_div_mod_eq, Nat.shiftRight_eq_div_pow]
  simp only [decide_eq_true_eq, eq_iff_iff]
  omega
theorem shl_a (a : BitVec 8) (i : Nat) (h : i < 8) : (a.setWidth 16 <<< i).toNat = a.toNat <<< i := by
  have := a.isLt
  rw [BitVec.toNat_shiftLeft, BitVec.toNat_setWidth, Nat.mod_eq_of_lt (by omega : a.toNat < 2 ^ 16), Nat.shiftLeft_eq]
  refine Nat.mod_eq_of_lt ?_
  have h2 : 2 ^ i ≤ 2 ^ 7 := Nat.pow_le_pow_right (by omega) (by omega)
  have := Nat.mul_le_mul (by omega : a.toNat ≤ 255) h2
  omega
def fMulR : Fn := fn2 rd8 rd8 (fun _ _ => true) fun a b => (.raw (u8 (gm a b)), [])
theorem mulR_ok (C : Ctx) (hC : CtxOK C P) : Meets C.glob P 14 (Fn.run fMulR) := by
  refine fn_meets (m_ref03_Mul C hC) fun ds rows r h => ?_
  obtain ⟨d, e, a, b, rfl, rfl, hd, he, hp, rfl⟩ := fn2_some h
  cases rd8_some hd
  cases rd8_some he
  refine ⟨rfl, afun_mk rfl ?_⟩
  clear h hd he
  unfold a_ref03_Mul r_ref03_Mul
  simp only [↓amD, amU, Nat.reduceBEq, Nat.reduceAdd, Nat.reduceSub, Nat.reduceMul, Nat.reduceMod, Nat.reducePow, Nat.reduceLT, Nat.reduceDiv, Int.reduceToNat, BitVec.reduceToNat, zipEnv, Int.reduceLE, Int.reduceLT, Int.reduceNeg, BitVec.reduceEq, Int.reduceAdd, Int.reduceSub, Int.reduceMul, Nat.reduceLeDiff, Int.reduceEq]
  refine kLoop_up 8 (fun i env rows => has env [(6, .raw (it (i : Int))), (0, .raw (u8 a)), (1, .raw (u8 b)), (5, .raw (it ((cvM a b i).toNat : Int)))] ∧ rows = []) ?_ ?_ ⟨?_, rfl⟩
  · rintro i hi env rows ⟨hh, rfl⟩ R hR
    simp only [has] at hh
    obtain ⟨h6, h0, h1, h5, -⟩ := hh
    have e0 : ((i : Int) < 8) = True := eq_true (by omega)
    have e1 : ((0 : Int) ≤ (i : Int)) = True := eq_true (by omega)
    have e2 := wz_succ i (by omega)
    have e3 := bit_at b i hi
    have hlt : a.toNat <<< i < 9223372036854775808 := by
      rw [← shl_a a i hi]; have := (a.setWidth 16 <<< i).isLt; omega
    have sl := fun k => b_shliN a.toNat i (by omega) hlt k
    simp only [← shl_a a i hi] at sl
    cases hb : b.getLsbD i with
    | true =>
      have hn : cvM a b (i + 1) = cvM a b i ^^^ a.setWidth 16 <<< i := by rw [cvM, hb]; rfl
      rw [hb] at e3
      simp only [↓amD, amU, Nat.reduceBEq, Nat.reduceAdd, Nat.reduceSub, Nat.reduceMul, Nat.reduceMod, Nat.reducePow, Nat.reduceLT, Nat.reduceDiv, Int.reduceToNat, BitVec.reduceToNat, zipEnv, Int.reduceLE, Int.reduceLT, Int.reduceNeg, BitVec.reduceEq, Int.reduceAdd, Int.reduceSub, Int.reduceMul, Nat.reduceLeDiff, Int.reduceEq, h6, h0, h1, h5, e0, e1, e2, e3, sl, b_xor16, decide_true]
      exact hR _ _ ⟨by simp only [has, ↓amD, amU, Nat.reduceBEq, Nat.reduceAdd, Nat.reduceSub, Nat.reduceMul, Nat.reduceMod, Nat.reducePow, Nat.reduceLT, Nat.reduceDiv, Int.reduceToNat, BitVec.reduceToNat, zipEnv, Int.reduceLE, Int.reduceLT, Int.reduceNeg, BitVec.reduceEq, Int.reduceAdd, Int.reduceSub, Int.reduceMul, Nat.reduceLeDiff, Int.reduceEq, h0, h1, hn], rfl⟩
    | false =>
      have hn : cvM a b (i + 1) = cvM a b i := by rw [cvM, hb]; simp
      rw [hb] at e3
      simp only [↓amD, amU, Nat.reduceBEq, Nat.reduceAdd, Nat.reduceSub, Nat.reduceMul, Nat.reduceMod, Nat.reducePow, Nat.reduceLT, Nat.reduceDiv, Int.reduceToNat, BitVec.reduceToNat, zipEnv, Int.reduceLE, Int.reduceLT, Int.reduceNeg, BitVec.reduceEq, Int.reduceAdd, Int.reduceSub, Int.reduceMul, Nat.reduceLeDiff, Int.reduceEq, h6, h0, h1, h5, e0, e1, e2, e3, decide_true, Bool.false_eq_true]
      exact hR _ _ ⟨by simp only [has, ↓amD, amU, Nat.reduceBEq, Nat.reduceAdd, Nat.reduceSub, Nat.reduceMul, Nat.reduceMod, Nat.reducePow, Nat.reduceLT, Nat.reduceDiv, Int.reduceToNat, BitVec.reduceToNat, zipEnv, Int.reduceLE, Int.reduceLT, Int.reduceNeg, BitVec.reduceEq, Int.reduceAdd, Int.reduceSub, Int.reduceMul, Nat.reduceLeDiff, Int.reduceEq, h0, h1, h5, hn], rfl⟩
  · rintro env rows ⟨hh, rfl⟩ R
    simp only [has] at hh
    obtain ⟨h6, h0, h1, h5, -⟩ := hh
    simp only [↓amD, amU, Nat.reduceBEq, Nat.reduceAdd, Nat.reduceSub, Nat.reduceMul, Nat.reduceMod, Nat.reducePow, Nat.reduceLT, Nat.reduceDiv, Int.reduceToNat, BitVec.reduceToNat, zipEnv, Int.reduceLE, Int.reduceLT, Int.reduceNeg, BitVec.reduceEq, Int.reduceAdd, Int.reduceSub, Int.reduceMul, Nat.reduceLeDiff, Int.reduceEq, h6, h0, h1, h5]
    generalize hp : cvM a b 8 = p
    refine kLoop_up 7 (fun i env rows => has env [(7, .raw (it ((14 - i : Nat) : Int))), (5, .raw (it ((rdM p i).toNat : Int)))] ∧ rows = []) ?_ ?_ ⟨?_, rfl⟩
    · rintro i hi env rows ⟨hh, rfl⟩ R hR
      simp only [has] at hh
      obtain ⟨h7, h5, -⟩ := hh
      have e0 : ((8 : Int) ≤ ((14 - i : Nat) : Int)) = True := eq_true (by omega)
      have e1 : wz (((14 - i : Nat) : Int) - 1) = ((14 - (i + 1) : Nat) : Int) := by rw [wz_id (by omega)]; omega
      have e2 : wz (((14 - i : Nat) : Int) - 8) = ((6 - i : Nat) : Int) := by rw [wz_id (by omega)]; omega
      have e3 := bit16_at (rdM p i) (14 - i)
      have e4 : ((((rdM p i).toNat >>> (14 - i) : Nat) : Int)).tmod 2 = (((rdM p i).toNat >>> (14 - i) % 2 : Nat) : Int) := rfl
      have s1 := fun k => b_shriN (rdM p i).toNat (14 - i) (by omega) k
      have s2 : ∀ k, aBin .shl (it 283) (it ((6 - i : Nat) : Int)) k = k (.raw (it ((283#16 <<< (6 - i)).toNat : Int))) := by
        intro k
        have : ∀ j : Fin 7, (283 : Nat) <<< j.val = (283#16 <<< j.val).toNat := by decide
        have h2 := this ⟨6 - i, by omega⟩
        have h3 := (283#16 <<< (6 - i)).isLt
        have := b_shliN 283 (6 - i) (by omega) (by rw [h2]; simp only at h3 ⊢; omega) k
        rw [h2] at this
        exact this
      cases hb : (rdM p i).getLsbD (14 - i) with
      | true =>
        have hn : rdM p (i + 1) = rdM p i ^^^ 283#16 <<< (6 - i) := by rw [rdM, hb]; rfl
        rw [hb] at e3
        simp only [↓amD, amU, Nat.reduceBEq, Nat.reduceAdd, Nat.reduceSub, Nat.reduceMul, Nat.reduceMod, Nat.reducePow, Nat.reduceLT, Nat.reduceDiv, Int.reduceToNat, BitVec.reduceToNat, zipEnv, Int.reduceLE, Int.reduceLT, Int.reduceNeg, BitVec.reduceEq, Int.reduceAdd, Int.reduceSub, Int.reduceMul, Nat.reduceLeDiff, Int.reduceEq, h7, h5, e0, e1, e2, e3, e4, s1, s2, b_xor16, decide_true]
        exact hR _ _ ⟨by simp only [has, ↓amD, amU, Nat.reduceBEq, Nat.reduceAdd, Nat.reduceSub, Nat.reduceMul, Nat.reduceMod, Nat.reducePow, Nat.reduceLT, Nat.reduceDiv, Int.reduceToNat, BitVec.reduceToNat, zipEnv, Int.reduceLE, Int.reduceLT, Int.reduceNeg, BitVec.reduceEq, Int.reduceAdd, Int.reduceSub, Int.reduceMul, Nat.reduceLeDiff, Int.reduceEq, hn], rfl⟩
      | false =>
        have hn : rdM p (i + 1) = rdM p i := by rw [rdM, hb]; simp
        rw [hb] at e3
        simp only [↓amD, amU, Nat.reduceBEq, Nat.reduceAdd, Nat.reduceSub, Nat.reduceMul, Nat.reduceMod, Nat.reducePow, Nat.reduceLT, Nat.reduceDiv, Int.reduceToNat, BitVec.reduceToNat, zipEnv, Int.reduceLE, Int.reduceLT, Int.reduceNeg, BitVec.reduceEq, Int.reduceAdd, Int.reduceSub, Int.reduceMul, Nat.reduceLeDiff, Int.reduceEq, h7, h5, e0, e1, e2, e3, e4, s1, decide_true, Bool.false_eq_true]
        exact hR _ _ ⟨by simp only [has, ↓amD, amU, Nat.reduceBEq, Nat.reduceAdd, Nat.reduceSub, Nat.reduceMul, Nat.reduceMod, Nat.reducePow, Nat.reduceLT, Nat.reduceDiv, Int.reduceToNat, BitVec.reduceToNat, zipEnv, Int.reduceLE, Int.reduceLT, Int.reduceNeg, BitVec.reduceEq, Int.reduceAdd, Int.reduceSub, Int.reduceMul, Nat.reduceLeDiff, Int.reduceEq, h5, hn], rfl⟩
    · rintro env rows ⟨hh, rfl⟩ R
      simp only [has] at hh
      obtain ⟨h7, h5, -⟩ := hh
      have e : BitVec.ofInt 8 ((rdM p 7).toNat : Int) = gm a b := by
        rw [← mulR_eq, mulR, hp]
        apply BitVec.eq_of_toNat_eq
        simp [BitVec.toNat_ofInt]
      simp only [↓amD, amU, Nat.reduceBEq, Nat.reduceAdd, Nat.reduceSub, Nat.reduceMul, Nat.reduceMod, Nat.reducePow, Nat.reduceLT, Nat.reduceDiv, Int.reduceToNat, BitVec.reduceToNat, zipEnv, Int.reduceLE, Int.reduceLT, Int.reduceNeg, BitVec.reduceEq, Int.reduceAdd, Int.reduceSub, Int.reduceMul, Nat.reduceLeDiff, Int.reduceEq, h7, h5, e]
      exact .val _ rfl
    · simp only [has, ↓amD, amU, Nat.reduceBEq, Nat.reduceAdd, Nat.reduceSub, Nat.reduceMul, Nat.reduceMod, Nat.reducePow, Nat.reduceLT, Nat.reduceDiv, Int.reduceToNat, BitVec.reduceToNat, zipEnv, Int.reduceLE, Int.reduceLT, Int.reduceNeg, BitVec.reduceEq, Int.reduceAdd, Int.reduceSub, Int.reduceMul, Nat.reduceLeDiff, Int.reduceEq, h5, hp]
      exact rfl
  · simp only [has, ↓amD, amU, Nat.reduceBEq, Nat.reduceAdd, Nat.reduceSub, Nat.reduceMul, Nat.reduceMod, Nat.reducePow, Nat.reduceLT, Nat.reduceDiv, Int.reduceToNat, BitVec.reduceToNat, zipEnv, Int.reduceLE, Int.reduceLT, Int.reduceNeg, BitVec.reduceEq, Int.reduceAdd, Int.reduceSub, Int.reduceMul, Nat.reduceLeDiff, Int.reduceEq]
    exact rfl
theorem kMulR (rows : Rows) (k : D → Rows → Prop) (x y : BitVec 8) : kCall fMulR rows k [.raw (u8 x), .raw (u8 y)] = k (.raw (u8 (gm x y))) rows := by
  refine (kCall_val rfl (r := (.raw (u8 (gm x y)), [])) ?_).trans ?_
  · rw [fMulR, fn2_eq (rd8_eq x) (rd8_eq y) rfl]
  · simp [shift, shiftRows]
end Job
end Go.Am
