/- tokens: parsing -/
import Derived.Test.YtbkdhjecjdnoeaaDoorTok2
namespace Go.Am
set_option linter.unusedSimpArgs false
set_option linter.unusedVariables false
attribute [local congr] bnd_congr kCond_congr kGd_congr kPick_congr kCall_congr kIdx_congr kSlice_congr kLoop_congr cond_congr' aBin_congr aBounds_congr aApp_congr aCopy_congr kFn_congr
namespace Job.Tk
open Go.Am.F
set_option maxRecDepth 10000
def tokOf (p : List (BitVec 8)) : Tok := ⟨(numS (p.drop 4)).toNat, numS (p.drop 8), p.drop 12⟩
def parseS (p : List (BitVec 8)) : Tok × Int :=
  bif decide (p.length = 28) && decide (p.take 4 = tokn) then
    (bif kindS (numS (p.drop 4)).toNat then (tokOf p, 0) else (zeroT, 1))
  else (zeroT, 2)
noncomputable def fParse : Fn := fn1 rdBs (fun a => Nat.ble a.length most) fun p => (.tup [tokD (parseS p).1, .raw (it (parseS p).2)], [])
theorem kPre (rows : Rows) (k : D → Rows → Prop) (d e : D) (p q : List (BitVec 8)) (h : BsIn rows d p) (h' : BsIn rows e q) (hp : p.length ≤ 1099511627776) (hq : q.length ≤ 1099511627776) : kCall fPre rows k [d, e] = k (.raw (.bool (decide (q.length ≤ p.length) && decide (p.take q.length = q)))) rows := by
  refine (kCall_bs2 h h' (by simpa [most] using ⟨hp, hq⟩) rfl).trans ?_
  simp [shift, shiftRows]
theorem kNum32 (rows : Rows) (k : D → Rows → Prop) (x : List (BitVec 8)) (e : Bool) (h : 4 ≤ x.length) : kCall fNum rows k [.lst L8 (bs x) e] = k (.raw (u32 (numS x))) rows := by
  refine (kCall_val rfl (fn1_eq (rdBs_lst x e) (by simpa using h))).trans ?_
  simp [shift, shiftRows]
set_option maxHeartbeats 2000000 in
theorem parse_ok (C : Ctx) (hC : CtxOK C P) (h15 : C.fn 15 = some fKind) (h17 : C.fn 16 = some fPre) (h18 : C.fn 17 = some fNum) : Meets C.glob P 10 (Fn.run fParse) := by
  refine fn_meetsN (m_token_Parse C hC) fun ds rows r h => ?_
  obtain ⟨d, p, rfl, rfl, hd, hp, rfl⟩ := fn1_some h
  obtain ⟨x, hx⟩ := rdBs_nrm hd
  refine ⟨rfl, _, .cons hx .nil, afun_mk rfl ?_⟩
  simp only [Nat.ble_eq] at hp
  unfold most at hp
  clear h hx hd
  unfold a_token_Parse r_token_Parse
  have hT : [D.raw (u8 84#8), D.raw (u8 79#8), D.raw (u8 75#8), D.raw (u8 78#8)] = bs tokn := rfl
  by_cases hl : p.length = 28
  · have hz : D.fits (.agg S1 [.raw (it 0), .raw (u32 0#32), .agg (.ar 16 L8) (List.replicate 16 (.raw (u8 0#8)))]) S1 = true := rfl
    have hq : parseS p = if p.take 4 = tokn then (if kindS (numS (p.drop 4)).toNat then (tokOf p, 0) else (zeroT, 1)) else (zeroT, 2) := by
      simp only [parseS, hl, decide_true, Bool.true_and]
      by_cases h1 : p.take 4 = tokn <;> cases h2 : kindS (numS (p.drop 4)).toNat <;> simp [h1]
    have h4 : (4 : Nat) ≤ tokn.length := by decide
    have hfit : D.fits (tokD (tokOf p)) S1 = true := rfl
    simp only [↓amD, amU, Nat.reduceBEq, Nat.reduceAdd, Nat.reduceSub, Nat.reduceMul, Nat.reduceMod, Nat.reducePow, Nat.reduceLT, Nat.reduceDiv, Int.reduceToNat, BitVec.reduceToNat, zipEnv, Int.reduceLE, Int.reduceLT, Int.reduceNeg, BitVec.reduceEq, Int.reduceAdd, Int.reduceSub, Int.reduceMul, Nat.reduceLeDiff, Int.reduceEq, bs_len, hl, h17, hT]
    refine ⟨h4, Eq.mpr (kPre _ _ _ _ p tokn (IsBs.to (.inr ⟨x, rfl⟩)) (Own.to (.inr ⟨1, true, rfl, rfl⟩)) (by omega) (by decide)) ?_⟩
    have t4 : tokn.length = 4 := rfl
    have hl2 : ((4 : Nat) ≤ p.length) = True := eq_true (by omega)
    have d4 : 4 ≤ (p.drop 4).length := by rw [List.length_drop]; omega
    have d8 : 4 ≤ (p.drop 8).length := by rw [List.length_drop]; omega
    have e4 : (bs p).drop 4 = bs (p.drop 4) := bs_drop _ _
    have tk4 : (bs (p.drop 4)).take 24 = bs (p.drop 4) := List.take_of_length_le (by rw [bs_len, List.length_drop]; omega)
    have tk8 : (bs (p.drop 8)).take 20 = bs (p.drop 8) := List.take_of_length_le (by rw [bs_len, List.length_drop]; omega)
    have tk12 : (bs (p.drop 12)).take 16 = bs (p.drop 12) := List.take_of_length_le (by rw [bs_len, List.length_drop]; omega)
    simp only [t4, hl2, decide_true, Bool.true_and]
    by_cases ht : p.take 4 = tokn
    · simp only [hq, ht, if_true, decide_true]
      simp only [↓amD, amU, Nat.reduceBEq, Nat.reduceAdd, Nat.reduceSub, Nat.reduceMul, Nat.reduceMod, Nat.reducePow, Nat.reduceLT, Nat.reduceDiv, Int.reduceToNat, BitVec.reduceToNat, zipEnv, Int.reduceLE, Int.reduceLT, Int.reduceNeg, BitVec.reduceEq, Int.reduceAdd, Int.reduceSub, Int.reduceMul, Nat.reduceLeDiff, Int.reduceEq, bs_len, hl, h18, bs_drop, tk4, tk8, tk12, kNum32 _ _ _ _ d4, kNum32 _ _ _ _ d8, List.length_drop, h15, kKind]
      cases hk : kindS (numS (p.drop 4)).toNat
      · simp only [↓amD, amU, Nat.reduceBEq, Nat.reduceAdd, Nat.reduceSub, Nat.reduceMul, Nat.reduceMod, Nat.reducePow, Nat.reduceLT, Nat.reduceDiv, Int.reduceToNat, BitVec.reduceToNat, zipEnv, Int.reduceLE, Int.reduceLT, Int.reduceNeg, BitVec.reduceEq, Int.reduceAdd, Int.reduceSub, Int.reduceMul, Nat.reduceLeDiff, Int.reduceEq]
        exact .val _ rfl
      · simp only [↓amD, amU, Nat.reduceBEq, Nat.reduceAdd, Nat.reduceSub, Nat.reduceMul, Nat.reduceMod, Nat.reducePow, Nat.reduceLT, Nat.reduceDiv, Int.reduceToNat, BitVec.reduceToNat, zipEnv, Int.reduceLE, Int.reduceLT, Int.reduceNeg, BitVec.reduceEq, Int.reduceAdd, Int.reduceSub, Int.reduceMul, Nat.reduceLeDiff, Int.reduceEq]
        exact .val _ rfl
    · simp only [hq, ht, if_false, decide_false]
      simp only [↓amD, amU, Nat.reduceBEq, Nat.reduceAdd, Nat.reduceSub, Nat.reduceMul, Nat.reduceMod, Nat.reducePow, Nat.reduceLT, Nat.reduceDiv, Int.reduceToNat, BitVec.reduceToNat, zipEnv, Int.reduceLE, Int.reduceLT, Int.reduceNeg, BitVec.reduceEq, Int.reduceAdd, Int.reduceSub, Int.reduceMul, Nat.reduceLeDiff, Int.reduceEq]
      exact .val _ rfl
  · have hl1 : ((p.length : Int) = 28) = False := eq_false (by omega)
    have hq : parseS p = (zeroT, 2) := by simp [parseS, hl]
    rw [hq]
    simp only [↓amD, amU, Nat.reduceBEq, Nat.reduceAdd, Nat.reduceSub, Nat.reduceMul, Nat.reduceMod, Nat.reducePow, Nat.reduceLT, Nat.reduceDiv, Int.reduceToNat, BitVec.reduceToNat, zipEnv, Int.reduceLE, Int.reduceLT, Int.reduceNeg, BitVec.reduceEq, Int.reduceAdd, Int.reduceSub, Int.reduceMul, Nat.reduceLeDiff, Int.reduceEq, bs_len, hl1]
    exact .val _ rfl
theorem val_q (q : List (BitVec 8)) (h : 4 ≤ q.length) : (valS (q.take 4)).setWidth 32 = numS q ∧ wz ((valS (q.take 4)).toNat : Int) = ((numS q).toNat : Int) := by
  match q, h with
  | a :: b :: c :: d :: l, _ =>
    have h1 : (a :: b :: c :: d :: l).take 4 = [a, b, c, d] := rfl
    have h2 : numS (a :: b :: c :: d :: l) = numS [a, b, c, d] := rfl
    rw [h1, h2]
    refine ⟨val_num a b c d, ?_⟩
    have h3 := val4_nat a b c d
    have h4 := num4_nat a b c d
    have h5 := a.isLt
    have h6 := b.isLt
    have h7 := c.isLt
    have h8 := d.isLt
    rw [wz_id (by omega)]
    omega
set_option maxHeartbeats 2000000 in
theorem refParse_ok (C : Ctx) (hC : CtxOK C P) (h19 : C.fn 12 = some fValue) : Meets C.glob P 6 (Fn.run fParse) := by
  refine fn_meetsN (m_ref09_Parse C hC) fun ds rows r h => ?_
  obtain ⟨d, p, rfl, rfl, hd, hp, rfl⟩ := fn1_some h
  obtain ⟨x, hx⟩ := rdBs_nrm hd
  refine ⟨rfl, _, .cons hx .nil, afun_mk rfl ?_⟩
  simp only [Nat.ble_eq] at hp
  unfold most at hp
  clear h hx hd
  unfold a_ref09_Parse r_ref09_Parse
  by_cases hl : p.length = 28
  · have hq : parseS p = if p.take 4 = tokn then (if kindS (numS (p.drop 4)).toNat then (tokOf p, 0) else (zeroT, 1)) else (zeroT, 2) := by
      simp only [parseS, hl, decide_true, Bool.true_and]
      by_cases h1 : p.take 4 = tokn <;> cases h2 : kindS (numS (p.drop 4)).toNat <;> simp [h1]
    have d4 : ((p.drop 4).take 4).length ≤ 64 := by rw [List.length_take]; omega
    have d8 : ((p.drop 8).take 4).length ≤ 64 := by rw [List.length_take]; omega
    have tk12 : (bs (p.drop 12)).take 16 = bs (p.drop 12) := List.take_of_length_le (by rw [bs_len, List.length_drop]; omega)
    have hsh : ∀ l e, sshape L8 (.lst L8 (bs l) e) = true := fun l e => IsBs.sshape (.inr ⟨e, rfl⟩)
    have hst : (⟨(ub (p.take 4)).toArray⟩ : ByteArray).toList = ub (p.take 4) := by rw [ByteArray.toList_eq]
    have hst2 : (⟨#[84, 79, 75, 78]⟩ : ByteArray).toList = ub tokn := by rw [ByteArray.toList_eq]; rfl
    simp only [↓amD, amU, Nat.reduceBEq, Nat.reduceAdd, Nat.reduceSub, Nat.reduceMul, Nat.reduceMod, Nat.reducePow, Nat.reduceLT, Nat.reduceDiv, Int.reduceToNat, BitVec.reduceToNat, zipEnv, Int.reduceLE, Int.reduceLT, Int.reduceNeg, BitVec.reduceEq, Int.reduceAdd, Int.reduceSub, Int.reduceMul, Nat.reduceLeDiff, Int.reduceEq, bs_len, hl, bs_take, bs_drop, hsh, byte_bs, hst, hst2, ub_beq, h19]
    by_cases ht : p.take 4 = tokn
    · simp only [hq, ht, if_true, decide_true]
      simp only [↓amD, amU, Nat.reduceBEq, Nat.reduceAdd, Nat.reduceSub, Nat.reduceMul, Nat.reduceMod, Nat.reducePow, Nat.reduceLT, Nat.reduceDiv, Int.reduceToNat, BitVec.reduceToNat, zipEnv, Int.reduceLE, Int.reduceLT, Int.reduceNeg, BitVec.reduceEq, Int.reduceAdd, Int.reduceSub, Int.reduceMul, Nat.reduceLeDiff, Int.reduceEq, bs_len, hl, h19, bs_drop, bs_take, tk12, kVal _ _ _ _ d4, kVal _ _ _ _ d8, List.length_drop]
      obtain ⟨-, v1⟩ := val_q (p.drop 4) (by rw [List.length_drop]; omega)
      obtain ⟨v2, -⟩ := val_q (p.drop 8) (by rw [List.length_drop]; omega)
      simp only [v1, v2]
      by_cases h1 : ((numS (p.drop 4)).toNat : Int) < 1
      · have hk : kindS (numS (p.drop 4)).toNat = false := by
          unfold kindS
          rw [Bool.and_eq_false_iff]
          exact .inl (decide_eq_false (by omega))
        simp only [↓amD, amU, Nat.reduceBEq, Nat.reduceAdd, Nat.reduceSub, Nat.reduceMul, Nat.reduceMod, Nat.reducePow, Nat.reduceLT, Nat.reduceDiv, Int.reduceToNat, BitVec.reduceToNat, zipEnv, Int.reduceLE, Int.reduceLT, Int.reduceNeg, BitVec.reduceEq, Int.reduceAdd, Int.reduceSub, Int.reduceMul, Nat.reduceLeDiff, Int.reduceEq, h1, hk]
        exact .val _ rfl
      · by_cases h2 : (3 : Int) < ((numS (p.drop 4)).toNat : Int)
        · have hk : kindS (numS (p.drop 4)).toNat = false := by
            unfold kindS
            rw [Bool.and_eq_false_iff]
            exact .inr (decide_eq_false (by omega))
          simp only [↓amD, amU, Nat.reduceBEq, Nat.reduceAdd, Nat.reduceSub, Nat.reduceMul, Nat.reduceMod, Nat.reducePow, Nat.reduceLT, Nat.reduceDiv, Int.reduceToNat, BitVec.reduceToNat, zipEnv, Int.reduceLE, Int.reduceLT, Int.reduceNeg, BitVec.reduceEq, Int.reduceAdd, Int.reduceSub, Int.reduceMul, Nat.reduceLeDiff, Int.reduceEq, h1, h2, hk]
          exact .val _ rfl
        · have hk : kindS (numS (p.drop 4)).toNat = true := by
            unfold kindS
            rw [Bool.and_eq_true]
            exact ⟨decide_eq_true (by omega), decide_eq_true (by omega)⟩
          simp only [↓amD, amU, Nat.reduceBEq, Nat.reduceAdd, Nat.reduceSub, Nat.reduceMul, Nat.reduceMod, Nat.reducePow, Nat.reduceLT, Nat.reduceDiv, Int.reduceToNat, BitVec.reduceToNat, zipEnv, Int.reduceLE, Int.reduceLT, Int.reduceNeg, BitVec.reduceEq, Int.reduceAdd, Int.reduceSub, Int.reduceMul, Nat.reduceLeDiff, Int.reduceEq, h1, h2, hk]
          exact .val _ rfl
    · simp only [hq, ht, if_false, decide_false]
      simp only [↓amD, amU, Nat.reduceBEq, Nat.reduceAdd, Nat.reduceSub, Nat.reduceMul, Nat.reduceMod, Nat.reducePow, Nat.reduceLT, Nat.reduceDiv, Int.reduceToNat, BitVec.reduceToNat, zipEnv, Int.reduceLE, Int.reduceLT, Int.reduceNeg, BitVec.reduceEq, Int.reduceAdd, Int.reduceSub, Int.reduceMul, Nat.reduceLeDiff, Int.reduceEq]
      exact .val _ rfl
  · have hl1 : ((p.length : Int) = 28) = False := eq_false (by omega)
    have hq : parseS p = (zeroT, 2) := by simp [parseS, hl]
    rw [hq]
    simp only [↓amD, amU, Nat.reduceBEq, Nat.reduceAdd, Nat.reduceSub, Nat.reduceMul, Nat.reduceMod, Nat.reducePow, Nat.reduceLT, Nat.reduceDiv, Int.reduceToNat, BitVec.reduceToNat, zipEnv, Int.reduceLE, Int.reduceLT, Int.reduceNeg, BitVec.reduceEq, Int.reduceAdd, Int.reduceSub, Int.reduceMul, Nat.reduceLeDiff, Int.reduceEq, bs_len, hl1]
    exact .val _ rfl
end Job.Tk
end Go.Am
