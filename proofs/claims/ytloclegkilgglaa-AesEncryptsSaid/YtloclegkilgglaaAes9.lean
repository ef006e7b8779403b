/- AES: the substitution, as the reference makes it; the law of the field -/
import Derived.Test.YtloclegkilgglaaAes8
namespace Go.Am
set_option linter.unusedSimpArgs false
set_option linter.unusedVariables false
attribute [local congr] bnd_congr kCond_congr kGd_congr kPick_congr kCall_congr kIdx_congr kSlice_congr kLoop_congr cond_congr' aBin_congr aBounds_congr aApp_congr aCopy_congr kFn_congr
namespace Job
open Go.Am.F
set_option maxRecDepth 10000
theorem gm_inv (b x : BitVec 8) (hb : b ≠ 0#8) : (gm b x = 1#8) = (x = inv8 b) := by
  have h1 : gm b (inv8 b) = 1#8 := by
    rw [inv_quick]
    have : ∀ b : BitVec 8, b ≠ 0#8 → gm b (invQ b) = 1#8 := by decide +kernel
    exact this b hb
  rw [eq_iff_iff]
  refine ⟨fun h => ?_, fun h => by rw [h, h1]⟩
  have h2 : gm (gm b x) (inv8 b) = gm (gm b (inv8 b)) x := by rw [gm_assoc, gm_comm x, ← gm_assoc]
  rw [h, h1, gm_comm 1#8, gm_one, gm_comm 1#8, gm_one] at h2
  exact h2.symm
theorem inv8_0 : inv8 0#8 = 0#8 := by rw [inv_quick]; decide +kernel
def invT (b : BitVec 8) (i : Nat) : Nat := if (inv8 b).toNat < i then (inv8 b).toNat else 0
def jL : List Nat := [0, 4, 5, 6, 7]
def xP (n i : Nat) : Nat → Nat
  | 0 => 0
  | t + 1 => xP n i t + (n >>> ((i + jL.getD t 0) % 8)) % 2
def oP (n : Nat) : Nat → Nat
  | 0 => 0
  | i + 1 => oP n i + ((xP n i 5 + (99 >>> i) % 2) % 2) <<< i
theorem xP_le (n i : Nat) : ∀ t, xP n i t ≤ t
  | 0 => Nat.le_refl _
  | t + 1 => by have := xP_le n i t; simp only [xP]; omega
theorem oP_lt (n : Nat) : ∀ i, oP n i < 2 ^ i
  | 0 => by simp [oP]
  | i + 1 => by
    have := oP_lt n i
    have h2 : (xP n i 5 + (99 >>> i) % 2) % 2 ≤ 1 := by omega
    rw [oP, Nat.shiftLeft_eq, Nat.pow_succ]
    have := Nat.mul_le_mul_right (2 ^ i) h2
    omega
theorem oP_box (b : BitVec 8) : BitVec.ofNat 8 (oP b.toNat 8) = affN b 5 := by revert b; decide +kernel
def jD : List D := [.raw (it 0), .raw (it 4), .raw (it 5), .raw (it 6), .raw (it 7)]
theorem jD_get (t : Nat) (h : t < 5) : jD[t]? = some (.raw (it (jL.getD t 0 : Nat))) := by
  match t, h with
  | 0, _ => rfl
  | 1, _ => rfl
  | 2, _ => rfl
  | 3, _ => rfl
  | 4, _ => rfl
theorem jL_lt (t : Nat) (h : t < 5) : jL.getD t 0 < 8 := by
  match t, h with
  | 0, _ => decide
  | 1, _ => decide
  | 2, _ => decide
  | 3, _ => decide
  | 4, _ => decide
def fBoxR : Fn := fn1 rd8 (fun _ => true) fun a => (.raw (u8 (box8 a)), [])
theorem boxR_ok (C : Ctx) (hC : CtxOK C P) (hm : C.fn 14 = some fMulR) : Meets C.glob P 16 (Fn.run fBoxR) := by
  refine fn_meets (m_ref03_Box C hC) fun ds rows r h => ?_
  obtain ⟨d, b, rfl, rfl, hd, hp, rfl⟩ := fn1_some h
  cases rd8_some hd
  refine ⟨rfl, afun_mk rfl ?_⟩
  clear h hd
  unfold a_ref03_Box r_ref03_Box
  simp only [↓amD, amU, Nat.reduceBEq, Nat.reduceAdd, Nat.reduceSub, Nat.reduceMul, Nat.reduceMod, Nat.reducePow, Nat.reduceLT, Nat.reduceDiv, Int.reduceToNat, BitVec.reduceToNat, zipEnv, Int.reduceLE, Int.reduceLT, Int.reduceNeg, BitVec.reduceEq, Int.reduceAdd, Int.reduceSub, Int.reduceMul, Nat.reduceLeDiff, Int.reduceEq]
  have hi := (inv8 b).isLt
  refine kLoop_up (if b = 0#8 then 0 else 255) (fun i env rows => has env [(4, .raw (it ((1 + i : Nat) : Int))), (0, .raw (u8 b)), (3, .raw (it ((invT b (1 + i) : Nat) : Int)))] ∧ rows = []) ?_ ?_ ⟨?_, rfl⟩
  · rintro i hi2 env rows ⟨hh, rfl⟩ R hR
    have hb : b ≠ 0#8 := by intro h; rw [if_pos h] at hi2; omega
    rw [if_neg hb] at hi2
    simp only [has] at hh
    obtain ⟨h4, h0, h3, -⟩ := hh
    have e0 : (((1 + i : Nat) : Int) < 256) = True := eq_true (by omega)
    have e1 : (0#8 < b) = True := by
      apply eq_true
      rw [BitVec.lt_def]
      have : b.toNat ≠ 0 := fun h => hb (BitVec.eq_of_toNat_eq h)
      simp; omega
    have e2 : wz (((1 + i : Nat) : Int) + 1) = ((1 + (i + 1) : Nat) : Int) := by rw [wz_id (by omega)]; omega
    have e3 : BitVec.ofInt 8 ((1 + i : Nat) : Int) = BitVec.ofNat 8 (1 + i) := BitVec.ofInt_natCast ..
    have e4 := gm_inv b (BitVec.ofNat 8 (1 + i)) hb
    by_cases hx : BitVec.ofNat 8 (1 + i) = inv8 b
    · have hn : (inv8 b).toNat = 1 + i := by rw [← hx]; simp; omega
      have hv : invT b (1 + (i + 1)) = 1 + i := by rw [invT, if_pos (by omega), hn]
      rw [eq_true hx] at e4
      simp only [↓amD, amU, Nat.reduceBEq, Nat.reduceAdd, Nat.reduceSub, Nat.reduceMul, Nat.reduceMod, Nat.reducePow, Nat.reduceLT, Nat.reduceDiv, Int.reduceToNat, BitVec.reduceToNat, zipEnv, Int.reduceLE, Int.reduceLT, Int.reduceNeg, BitVec.reduceEq, Int.reduceAdd, Int.reduceSub, Int.reduceMul, Nat.reduceLeDiff, Int.reduceEq, h4, h0, h3, hm, kMulR, e0, e1, e2, e3, e4, decide_true]
      exact hR _ _ ⟨by simp only [has, ↓amD, amU, Nat.reduceBEq, Nat.reduceAdd, Nat.reduceSub, Nat.reduceMul, Nat.reduceMod, Nat.reducePow, Nat.reduceLT, Nat.reduceDiv, Int.reduceToNat, BitVec.reduceToNat, zipEnv, Int.reduceLE, Int.reduceLT, Int.reduceNeg, BitVec.reduceEq, Int.reduceAdd, Int.reduceSub, Int.reduceMul, Nat.reduceLeDiff, Int.reduceEq, h0, hv], rfl⟩
    · have hn : (inv8 b).toNat ≠ 1 + i := by
        intro h
        exact hx (BitVec.eq_of_toNat_eq (by simp; omega))
      have hv : invT b (1 + (i + 1)) = invT b (1 + i) := by
        unfold invT
        by_cases h : (inv8 b).toNat < 1 + i
        · rw [if_pos (by omega), if_pos h]
        · rw [if_neg (by omega), if_neg h]
      rw [eq_false hx] at e4
      simp only [↓amD, amU, Nat.reduceBEq, Nat.reduceAdd, Nat.reduceSub, Nat.reduceMul, Nat.reduceMod, Nat.reducePow, Nat.reduceLT, Nat.reduceDiv, Int.reduceToNat, BitVec.reduceToNat, zipEnv, Int.reduceLE, Int.reduceLT, Int.reduceNeg, BitVec.reduceEq, Int.reduceAdd, Int.reduceSub, Int.reduceMul, Nat.reduceLeDiff, Int.reduceEq, h4, h0, h3, hm, kMulR, e0, e1, e2, e3, e4, decide_true]
      exact hR _ _ ⟨by simp only [has, ↓amD, amU, Nat.reduceBEq, Nat.reduceAdd, Nat.reduceSub, Nat.reduceMul, Nat.reduceMod, Nat.reducePow, Nat.reduceLT, Nat.reduceDiv, Int.reduceToNat, BitVec.reduceToNat, zipEnv, Int.reduceLE, Int.reduceLT, Int.reduceNeg, BitVec.reduceEq, Int.reduceAdd, Int.reduceSub, Int.reduceMul, Nat.reduceLeDiff, Int.reduceEq, h0, h3, hv], rfl⟩
  · rintro env rows ⟨hh, rfl⟩ R
    simp only [has] at hh
    obtain ⟨h4, h0, h3, -⟩ := hh
    have hfin : invT b (1 + if b = 0#8 then 0 else 255) = (inv8 b).toNat := by
      by_cases hb : b = 0#8
      · rw [if_pos hb, hb, inv8_0]; rfl
      · rw [if_neg hb, invT, if_pos (by omega)]
    rw [hfin] at h3
    have main : ∀ env : Env, look env 3 = some (.raw (it ((inv8 b).toNat : Int))) → True := fun _ _ => trivial
    have e1 : (((1 + if b = 0#8 then 0 else 255 : Nat) : Int) < 256) = decide (b = 0#8) := by
      by_cases hb : b = 0#8
      · rw [if_pos hb]; simp [hb]
      · rw [if_neg hb]; simp [hb]
    have e2 : (0#8 < b) = decide (b ≠ 0#8) := by
      by_cases hb : b = 0#8
      · subst hb; simp
      · simp only [hb, ne_eq, not_false_eq_true, decide_true, eq_iff_iff, iff_true]
        rw [BitVec.lt_def]
        have : b.toNat ≠ 0 := fun h => hb (BitVec.eq_of_toNat_eq h)
        simp; omega
    generalize (1 + if b = 0#8 then 0 else 255 : Nat) = lim at *
    have he : (((lim : Nat) : Int) < 256) = False ∨ ((((lim : Nat) : Int) < 256) = True ∧ (0#8 < b) = False) := by
      by_cases hb : b = 0#8
      · right; rw [e1, e2]; simp [hb]
      · left; rw [e1]; simp [hb]
    have hF : box8 b = affN (inv8 b) 5 := rfl
    rw [hF]
    clear hfin hF e1 e2
    generalize inv8 b = x at *
    rcases he with he | ⟨he, he2⟩
    all_goals
      simp only [↓amD, amU, Nat.reduceBEq, Nat.reduceAdd, Nat.reduceSub, Nat.reduceMul, Nat.reduceMod, Nat.reducePow, Nat.reduceLT, Nat.reduceDiv, Int.reduceToNat, BitVec.reduceToNat, zipEnv, Int.reduceLE, Int.reduceLT, Int.reduceNeg, BitVec.reduceEq, Int.reduceAdd, Int.reduceSub, Int.reduceMul, Nat.reduceLeDiff, Int.reduceEq, h4, h0, h3, he, decide_false, decide_true]
      try simp only [↓amD, amU, Nat.reduceBEq, Nat.reduceAdd, Nat.reduceSub, Nat.reduceMul, Nat.reduceMod, Nat.reducePow, Nat.reduceLT, Nat.reduceDiv, Int.reduceToNat, BitVec.reduceToNat, zipEnv, Int.reduceLE, Int.reduceLT, Int.reduceNeg, BitVec.reduceEq, Int.reduceAdd, Int.reduceSub, Int.reduceMul, Nat.reduceLeDiff, Int.reduceEq, h4, h0, h3, he2, decide_false, decide_true]
      refine kLoop_up 8 (fun i env rows => has env [(6, .raw (it (i : Int))), (3, .raw (it (x.toNat : Int))), (5, .raw (it (oP x.toNat i : Nat)))]) ?_ ?_ ?_
      · rintro i hi2 env rs hh R hR
        simp only [has] at hh
        obtain ⟨h6, h3, h5, -⟩ := hh
        have e0 : ((i : Int) < 8) = True := eq_true (by omega)
        simp only [↓amD, amU, Nat.reduceBEq, Nat.reduceAdd, Nat.reduceSub, Nat.reduceMul, Nat.reduceMod, Nat.reducePow, Nat.reduceLT, Nat.reduceDiv, Int.reduceToNat, BitVec.reduceToNat, zipEnv, Int.reduceLE, Int.reduceLT, Int.reduceNeg, BitVec.reduceEq, Int.reduceAdd, Int.reduceSub, Int.reduceMul, Nat.reduceLeDiff, Int.reduceEq, h6, h3, h5, e0, decide_true]
        refine kLoop_up 5 (fun t env rs' => has env [(30, .raw (it (t : Int))), (29, .raw (it 5)), (28, .sl LI rs.length [] 0 5 true), (7, .raw (it (xP x.toNat i t : Nat))), (6, .raw (it (i : Int))), (3, .raw (it (x.toNat : Int))), (5, .raw (it (oP x.toNat i : Nat)))] ∧ rs' = rs ++ [some ⟨LI, jD⟩]) ?_ ?_ ⟨?_, rfl⟩
        · rintro t ht env rs' ⟨hh, rfl⟩ R hR
          simp only [has] at hh
          obtain ⟨h30, h29, h28, h7, h6, h3, h5, -⟩ := hh
          have e0 : ((t : Int) < 5) = True := eq_true (by omega)
          have e1 : ((0 : Int) ≤ (t : Int)) = True := eq_true (by omega)
          have e2 := wz_succ t (by omega)
          have hj := jL_lt t ht
          have hxl := xP_le x.toNat i t
          have g := jD_get t ht
          have a1 : wz ((i : Int) + (jL.getD t 0 : Nat)) = ((i + jL.getD t 0 : Nat) : Int) := by rw [wz_id (by omega)]; omega
          have a2 : ((i + jL.getD t 0 : Nat) : Int).tmod 8 = (((i + jL.getD t 0) % 8 : Nat) : Int) := rfl
          have s1 := fun k => b_shriN x.toNat ((i + jL.getD t 0) % 8) (by omega) k
          have a3 : ((x.toNat >>> ((i + jL.getD t 0) % 8) : Nat) : Int).tmod 2 = ((x.toNat >>> ((i + jL.getD t 0) % 8) % 2 : Nat) : Int) := rfl
          have hm2 : x.toNat >>> ((i + jL.getD t 0) % 8) % 2 < 2 := Nat.mod_lt _ (by omega)
          have a4 : wz (((xP x.toNat i t : Nat) : Int) + ((x.toNat >>> ((i + jL.getD t 0) % 8) % 2 : Nat) : Int)) = ((xP x.toNat i (t + 1) : Nat) : Int) := by
            rw [wz_id (by omega), xP]; omega
          simp only [↓amD, amU, Nat.reduceBEq, Nat.reduceAdd, Nat.reduceSub, Nat.reduceMul, Nat.reduceMod, Nat.reducePow, Nat.reduceLT, Nat.reduceDiv, Int.reduceToNat, BitVec.reduceToNat, zipEnv, Int.reduceLE, Int.reduceLT, Int.reduceNeg, BitVec.reduceEq, Int.reduceAdd, Int.reduceSub, Int.reduceMul, Nat.reduceLeDiff, Int.reduceEq, lv_app0, lv_appk, set_app0, set_appk, List.append_assoc, List.append_nil, Nat.add_assoc, h30, h29, h28, h7, h6, h3, h5, e0, e1, e2, g, a1, a2, a3, a4, s1, decide_true]
          exact hR _ _ ⟨by simp only [has, ↓amD, amU, Nat.reduceBEq, Nat.reduceAdd, Nat.reduceSub, Nat.reduceMul, Nat.reduceMod, Nat.reducePow, Nat.reduceLT, Nat.reduceDiv, Int.reduceToNat, BitVec.reduceToNat, zipEnv, Int.reduceLE, Int.reduceLT, Int.reduceNeg, BitVec.reduceEq, Int.reduceAdd, Int.reduceSub, Int.reduceMul, Nat.reduceLeDiff, Int.reduceEq, h29, h28, h6, h3, h5], rfl⟩
        · rintro env rs' ⟨hh, rfl⟩ R
          simp only [has] at hh
          obtain ⟨h30, h29, h28, h7, h6, h3, h5, -⟩ := hh
          have e2 := wz_succ i (by omega)
          have s1 : ∀ k, aBin .shr (it 99) (it (i : Int)) k = k (.raw (it ((99 >>> i : Nat) : Int))) := fun k => b_shriN 99 i (by omega) k
          have a3 : ((99 >>> i : Nat) : Int).tmod 2 = ((99 >>> i % 2 : Nat) : Int) := rfl
          have hxl := xP_le x.toNat i 5
          have hm2 : 99 >>> i % 2 < 2 := Nat.mod_lt _ (by omega)
          have a4 : wz (((xP x.toNat i 5 : Nat) : Int) + ((99 >>> i % 2 : Nat) : Int)) = ((xP x.toNat i 5 + 99 >>> i % 2 : Nat) : Int) := by rw [wz_id (by omega)]; omega
          have a5 : ((xP x.toNat i 5 + 99 >>> i % 2 : Nat) : Int).tmod 2 = (((xP x.toNat i 5 + 99 >>> i % 2) % 2 : Nat) : Int) := rfl
          have ho := oP_lt x.toNat (i + 1)
          have hp2 : 2 ^ (i + 1) ≤ 2 ^ 8 := Nat.pow_le_pow_right (by omega) (by omega)
          have hoe : oP x.toNat (i + 1) = oP x.toNat i + ((xP x.toNat i 5 + (99 >>> i) % 2) % 2) <<< i := rfl
          have s2 := fun k => b_shliN ((xP x.toNat i 5 + 99 >>> i % 2) % 2) i (by omega) (by omega) k
          have a6 : wz (((oP x.toNat i : Nat) : Int) + ((((xP x.toNat i 5 + (99 >>> i) % 2) % 2) <<< i : Nat) : Int)) = ((oP x.toNat (i + 1) : Nat) : Int) := by rw [wz_id (by omega)]; omega
          simp only [↓amD, amU, Nat.reduceBEq, Nat.reduceAdd, Nat.reduceSub, Nat.reduceMul, Nat.reduceMod, Nat.reducePow, Nat.reduceLT, Nat.reduceDiv, Int.reduceToNat, BitVec.reduceToNat, zipEnv, Int.reduceLE, Int.reduceLT, Int.reduceNeg, BitVec.reduceEq, Int.reduceAdd, Int.reduceSub, Int.reduceMul, Nat.reduceLeDiff, Int.reduceEq, h30, h29, h28, h7, h6, h3, h5, e2, s1, s2, a3, a4, a5, a6]
          exact hR _ _ (by simp only [has, ↓amD, amU, Nat.reduceBEq, Nat.reduceAdd, Nat.reduceSub, Nat.reduceMul, Nat.reduceMod, Nat.reducePow, Nat.reduceLT, Nat.reduceDiv, Int.reduceToNat, BitVec.reduceToNat, zipEnv, Int.reduceLE, Int.reduceLT, Int.reduceNeg, BitVec.reduceEq, Int.reduceAdd, Int.reduceSub, Int.reduceMul, Nat.reduceLeDiff, Int.reduceEq, h3])
        · simp only [has, ↓amD, amU, Nat.reduceBEq, Nat.reduceAdd, Nat.reduceSub, Nat.reduceMul, Nat.reduceMod, Nat.reducePow, Nat.reduceLT, Nat.reduceDiv, Int.reduceToNat, BitVec.reduceToNat, zipEnv, Int.reduceLE, Int.reduceLT, Int.reduceNeg, BitVec.reduceEq, Int.reduceAdd, Int.reduceSub, Int.reduceMul, Nat.reduceLeDiff, Int.reduceEq, h6, h3, h5]
          exact rfl
      · rintro env rs hh R
        simp only [has] at hh
        obtain ⟨h6, h3, h5, -⟩ := hh
        have e3 : BitVec.ofInt 8 ((oP x.toNat 8 : Nat) : Int) = affN x 5 := by rw [← oP_box]; exact BitVec.ofInt_natCast ..
        simp only [↓amD, amU, Nat.reduceBEq, Nat.reduceAdd, Nat.reduceSub, Nat.reduceMul, Nat.reduceMod, Nat.reducePow, Nat.reduceLT, Nat.reduceDiv, Int.reduceToNat, BitVec.reduceToNat, zipEnv, Int.reduceLE, Int.reduceLT, Int.reduceNeg, BitVec.reduceEq, Int.reduceAdd, Int.reduceSub, Int.reduceMul, Nat.reduceLeDiff, Int.reduceEq, h6, h3, h5, e3]
        exact .val _ rfl
      · simp only [has, ↓amD, amU, Nat.reduceBEq, Nat.reduceAdd, Nat.reduceSub, Nat.reduceMul, Nat.reduceMod, Nat.reducePow, Nat.reduceLT, Nat.reduceDiv, Int.reduceToNat, BitVec.reduceToNat, zipEnv, Int.reduceLE, Int.reduceLT, Int.reduceNeg, BitVec.reduceEq, Int.reduceAdd, Int.reduceSub, Int.reduceMul, Nat.reduceLeDiff, Int.reduceEq, h3]
        exact rfl
  · have : invT b 1 = 0 := by unfold invT; split <;> omega
    simp only [has, ↓amD, amU, Nat.reduceBEq, Nat.reduceAdd, Nat.reduceSub, Nat.reduceMul, Nat.reduceMod, Nat.reducePow, Nat.reduceLT, Nat.reduceDiv, Int.reduceToNat, BitVec.reduceToNat, zipEnv, Int.reduceLE, Int.reduceLT, Int.reduceNeg, BitVec.reduceEq, Int.reduceAdd, Int.reduceSub, Int.reduceMul, Nat.reduceLeDiff, Int.reduceEq, this]
theorem kBoxR (rows : Rows) (k : D → Rows → Prop) (x : BitVec 8) : kCall fBoxR rows k [.raw (u8 x)] = k (.raw (u8 (box8 x))) rows := by
  refine (kCall_val rfl (r := (.raw (u8 (box8 x)), [])) ?_).trans ?_
  · rw [fBoxR, fn1_eq (rd8_eq x) rfl]
  · simp [shift, shiftRows]
theorem field_law (C : Ctx) (ha : C.fn 8 = some fAwakeA) (h1 : C.fn 13 = some fMul) (h2 : C.fn 14 = some fMulR) (h3 : C.fn 15 = some fBox) (h4 : C.fn 16 = some fBoxR) (h5 : C.fn 17 = some fBack) (a b c : BitVec 8) :
    afun C 3 r_law03_AesField a_law03_AesField [.raw (u8 a), .raw (u8 b), .raw (u8 c)] [] (fun d _ => d = .raw (.bool true)) := by
  refine afun_mk rfl ?_
  unfold a_law03_AesField r_law03_AesField
  have q1 : (gm a b = gm b a) = True := eq_true (gm_comm a b)
  have q2 : (gm a (b ^^^ c) = gm a b ^^^ gm a c) = True := eq_true (gm_r a b c)
  have q3 : (gm (gm a b) c = gm a (gm b c)) = True := eq_true (gm_assoc a b c)
  have q4 : back8 (box8 a) = a := by rw [← back_tab, ← box_tab, back_box]
  have q5 : box8 (back8 b) = b := by rw [← back_tab, ← box_tab, box_back]
  simp only [↓amD, amU, Nat.reduceBEq, Nat.reduceAdd, Nat.reduceSub, Nat.reduceMul, Nat.reduceMod, Nat.reducePow, Nat.reduceLT, Nat.reduceDiv, Int.reduceToNat, BitVec.reduceToNat, zipEnv, Int.reduceLE, Int.reduceLT, Int.reduceNeg, BitVec.reduceEq, Int.reduceAdd, Int.reduceSub, Int.reduceMul, Nat.reduceLeDiff, Int.reduceEq, ha, kAwakeA, h1, h2, h3, h4, h5, kMul, kMulR, kBox, kBoxR, kBack, q1, q2, q3, q4, q5, gm_one, decide_true]
end Job
end Go.Am
