/- tokens that are too short: the check and the law -/
import Derived.Test.YtbkdhjecjdnoeaaDoorLm3
import Derived.Test.YtbkdhjecjdnoeaaDoorTok4
namespace Go.Am
set_option linter.unusedSimpArgs false
set_option linter.unusedVariables false
attribute [local congr] bnd_congr kCond_congr kGd_congr kPick_congr kCall_congr kIdx_congr kSlice_congr kLoop_congr cond_congr' aBin_congr aBounds_congr aApp_congr aCopy_congr kFn_congr
namespace Job.Tk
open Go.Am.F
set_option maxRecDepth 10000
def chipD (l : List (BitVec 8)) : D := .agg (.ar 16 L8) (bs l)
theorem chipD_inj : ∀ x y, chipD x = chipD y → x = y := by
  intro x y h
  simp only [chipD, D.agg.injEq, true_and] at h
  exact Job.Tk.bs_inj h
theorem rdIn_chip {rows : Rows} (x : List (BitVec 8)) : RdIn rows (rdOf chipD) (.agg (.ar 16 L8) (bs x)) x := RdIn.agg rfl (rdOf_eq chipD_inj x)
def checkE (pub p : List (BitVec 8)) : Int :=
  if p.length < 28 then 2 else if (parseS (p.take 28)).2 = 0 then rootE pub (p.drop 28) else (parseS (p.take 28)).2
theorem parseS_le (q : List (BitVec 8)) : (parseS q).2 = 0 ∨ (parseS q).2 = 1 ∨ (parseS q).2 = 2 := by
  unfold parseS
  cases decide (q.length = 28) && decide (q.take 4 = tokn)
  · exact .inr (.inr rfl)
  · cases kindS (numS (q.drop 4)).toNat
    · exact .inr (.inl rfl)
    · exact .inl rfl
theorem checkE_le (pub p : List (BitVec 8)) : checkE pub p = 1 ∨ checkE pub p = 2 ∨ checkE pub p = 6 := by
  unfold checkE
  split
  · exact .inr (.inl rfl)
  · split
    · rcases rootE_ne pub (p.drop 28) with h | h
      · exact .inr (.inr h)
      · exact .inr (.inl h)
    · rcases parseS_le (p.take 28) with h | h | h
      · exact absurd h (by assumption)
      · exact .inl h
      · exact .inr (.inl h)
noncomputable def fCheckS : Fn := gn4 rdBs (rdOf chipD) rd32 rdBs (fun a b _ d => Nat.ble a.length most && b.length == 16 && Nat.ble d.length 40) fun a _ _ d => (.tup [tokD zeroT, .raw (it (checkE a d))], [])
theorem checkS_ok (C : Ctx) (hC : CtxOK C P) (h1 : C.fn 10 = some fParse) (h2 : C.fn 7 = some fVerS) : Meets C.glob P 8 (Fn.run fCheckS) := by
  refine fn_meetsN (m_token_Check C hC) fun ds rows r h => ?_
  obtain ⟨d0, d1, d2, d3, pub, chip, nonce, p, rfl, rfl, g0, g1, g2, g3, hp, rfl⟩ := gn4_some h
  obtain ⟨x, hx⟩ := rdBs_nrm g0
  obtain ⟨y, hy⟩ := rdBs_nrm g3
  cases rdOf_some g1
  cases rd32_some g2
  refine ⟨rfl, _, .cons hx (.cons (.refl _) (.cons (.refl _) (.cons hy .nil))), afun_mk rfl ?_⟩
  simp only [Bool.and_eq_true, Nat.ble_eq, beq_iff_eq] at hp
  obtain ⟨⟨hpub, hch⟩, hp⟩ := hp
  unfold most at hpub
  clear h hx hy g0 g1 g2 g3
  unfold a_token_Check r_token_Check chipD
  have hf : ∀ q, D.fits (tokD (parseS q).1) S1 = true := fun _ => rfl
  have hfc : D.fits (.agg (.ar 16 L8) (bs chip)) (.ar 16 L8) = true := rfl
  have hz : D.fits (.agg S1 [.raw (it 0), .raw (u32 0#32), .agg (.ar 16 L8) (List.replicate 16 (.raw (u8 0#8)))]) S1 = true := rfl
  by_cases hl : p.length < 28
  · have hq : checkE pub p = 2 := by unfold checkE; rw [if_pos hl]
    have c1 : ((p.length : Int) < 28) = True := eq_true (by omega)
    rw [hq]
    simp only [↓amD, amU, Nat.reduceBEq, Nat.reduceAdd, Nat.reduceSub, Nat.reduceMul, Nat.reduceMod, Nat.reducePow, Nat.reduceLT, Nat.reduceDiv, Int.reduceToNat, BitVec.reduceToNat, zipEnv, Int.reduceLE, Int.reduceLT, Int.reduceNeg, BitVec.reduceEq, Int.reduceAdd, Int.reduceSub, Int.reduceMul, Nat.reduceLeDiff, Int.reduceEq, lv_app0, lv_appk, set_app0, set_appk, List.append_assoc, List.append_nil, Nat.add_assoc, bs_len, c1, hfc, hz]
    exact .val _ rfl
  · have c1 : ((p.length : Int) < 28) = False := eq_false (by omega)
    have c2 : ((28 : Int) ≤ (p.length : Int)) = True := eq_true (by omega)
    have l28 : (p.take 28).length = 28 := by rw [List.length_take]; omega
    have ld : (p.drop 28).length ≤ 12 := by rw [List.length_drop]; omega
    have k1 := fun rows k e => kParse rows k (.lst L8 (bs (p.take 28)) e) (p.take 28) (IsBs.to (.inr ⟨e, rfl⟩)) (by omega)
    have k2 := fun rows k e e' => kVerS rows k (.lst L8 (bs pub) x) (.lst L8 (bs (p.take 28)) e) (.lst L8 (bs (p.drop 28)) e') pub (p.take 28) (p.drop 28) (IsBs.to (.inr ⟨x, rfl⟩)) (IsBs.to (.inr ⟨e, rfl⟩)) (IsBs.to (.inr ⟨e', rfl⟩)) hpub (by omega) ld
    have tk : (bs p).take 28 = bs (p.take 28) := bs_take _ _
    have td : (bs (p.drop 28)).take (p.length - 28) = bs (p.drop 28) := List.take_of_length_le (by rw [bs_len, List.length_drop]; exact Nat.le_refl _)
    rcases parseS_le (p.take 28) with hr | hr | hr
    · have hq : checkE pub p = rootE pub (p.drop 28) := by unfold checkE; rw [if_neg hl, if_pos hr]
      rw [hq]
      rcases rootE_ne pub (p.drop 28) with hs | hs
      · simp only [↓amD, amU, Nat.reduceBEq, Nat.reduceAdd, Nat.reduceSub, Nat.reduceMul, Nat.reduceMod, Nat.reducePow, Nat.reduceLT, Nat.reduceDiv, Int.reduceToNat, BitVec.reduceToNat, zipEnv, Int.reduceLE, Int.reduceLT, Int.reduceNeg, BitVec.reduceEq, Int.reduceAdd, Int.reduceSub, Int.reduceMul, Nat.reduceLeDiff, Int.reduceEq, lv_app0, lv_appk, set_app0, set_appk, List.append_assoc, List.append_nil, Nat.add_assoc, bs_len, c1, c2, hfc, hf, hz, h1, tk, bs_drop, td, k1, hr, h2, k2, hs]
        exact .val _ rfl
      · simp only [↓amD, amU, Nat.reduceBEq, Nat.reduceAdd, Nat.reduceSub, Nat.reduceMul, Nat.reduceMod, Nat.reducePow, Nat.reduceLT, Nat.reduceDiv, Int.reduceToNat, BitVec.reduceToNat, zipEnv, Int.reduceLE, Int.reduceLT, Int.reduceNeg, BitVec.reduceEq, Int.reduceAdd, Int.reduceSub, Int.reduceMul, Nat.reduceLeDiff, Int.reduceEq, lv_app0, lv_appk, set_app0, set_appk, List.append_assoc, List.append_nil, Nat.add_assoc, bs_len, c1, c2, hfc, hf, hz, h1, tk, bs_drop, td, k1, hr, h2, k2, hs]
        exact .val _ rfl
    · have hq : checkE pub p = 1 := by unfold checkE; rw [if_neg hl, if_neg (by rw [hr]; decide), hr]
      rw [hq]
      simp only [↓amD, amU, Nat.reduceBEq, Nat.reduceAdd, Nat.reduceSub, Nat.reduceMul, Nat.reduceMod, Nat.reducePow, Nat.reduceLT, Nat.reduceDiv, Int.reduceToNat, BitVec.reduceToNat, zipEnv, Int.reduceLE, Int.reduceLT, Int.reduceNeg, BitVec.reduceEq, Int.reduceAdd, Int.reduceSub, Int.reduceMul, Nat.reduceLeDiff, Int.reduceEq, lv_app0, lv_appk, set_app0, set_appk, List.append_assoc, List.append_nil, Nat.add_assoc, bs_len, c1, c2, hfc, hf, hz, h1, tk, bs_drop, td, k1, hr]
      exact .val _ rfl
    · have hq : checkE pub p = 2 := by unfold checkE; rw [if_neg hl, if_neg (by rw [hr]; decide), hr]
      rw [hq]
      simp only [↓amD, amU, Nat.reduceBEq, Nat.reduceAdd, Nat.reduceSub, Nat.reduceMul, Nat.reduceMod, Nat.reducePow, Nat.reduceLT, Nat.reduceDiv, Int.reduceToNat, BitVec.reduceToNat, zipEnv, Int.reduceLE, Int.reduceLT, Int.reduceNeg, BitVec.reduceEq, Int.reduceAdd, Int.reduceSub, Int.reduceMul, Nat.reduceLeDiff, Int.reduceEq, lv_app0, lv_appk, set_app0, set_appk, List.append_assoc, List.append_nil, Nat.add_assoc, bs_len, c1, c2, hfc, hf, hz, h1, tk, bs_drop, td, k1, hr]
      exact .val _ rfl
theorem kCheckS (rows : Rows) (k : D → Rows → Prop) (d e : D) (pub p chip : List (BitVec 8)) (n : BitVec 32) (h : BsIn rows d pub) (h' : BsIn rows e p) (hp : pub.length ≤ 1099511627776) (hc : chip.length = 16) (hq : p.length ≤ 40) :
    kCall fCheckS rows k [d, .agg (.ar 16 L8) (bs chip), .raw (u32 n), e] = k (.tup [tokD zeroT, .raw (it (checkE pub p))]) rows := by
  refine (kCall_g4 (RdIn.bs h) (rdIn_chip chip) (RdIn.raw (rd32_eq n)) (RdIn.bs h') (by simpa [most] using ⟨⟨hp, hc⟩, hq⟩) rfl k).trans ?_
  simp [shift, shiftL, shiftRows, tokD_sh]
set_option maxHeartbeats 4000000 in
theorem short_law (C : Ctx) (h4 : C.fn 4 = some fAwake) (h5 : C.fn 5 = some fCut) (h6 : C.fn 6 = some fParse) (h7 : C.fn 7 = some fVerS) (h8 : C.fn 8 = some fCheckS)
    (d0 d1 : D) (pub p chip : List (BitVec 8)) (n : BitVec 32) (h0 : IsBs d0 pub) (h1 : IsBs d1 p) (l0 : pub.length ≤ 9223372036854775807) (l1 : p.length ≤ 9223372036854775807) (hc : chip.length = 16) :
    afun C 4 r_law09_TokenShort a_law09_TokenShort [d0, d1, .agg (.ar 16 L8) (bs chip), .raw (u32 n)] [] (fun d rows => d = .raw (.bool true)) := by
  refine afun_mk rfl ?_
  have kc0 := fun rows k => kCut rows k d0 pub 60 h0 l0 (by rw [List.length_take]; omega)
  have kc1 := fun rows k => kCut rows k d1 p 40 h1 l1 (by rw [List.length_take]; omega)
  have e40 : (40 : Int).toNat = 40 := rfl
  have e60 : (60 : Int).toNat = 60 := rfl
  simp only [e40, e60] at kc0 kc1
  have hl0 : (pub.take 60).length ≤ 60 := by rw [List.length_take]; omega
  have hl1 : (p.take 40).length ≤ 40 := by rw [List.length_take]; omega
  generalize pub.take 60 = v at kc0 hl0
  generalize p.take 40 = w at kc1 hl1
  have hfc : D.fits (.agg (.ar 16 L8) (bs chip)) (.ar 16 L8) = true := rfl
  have hz : D.fits (.agg S1 [.raw (it 0), .raw (u32 0#32), .agg (.ar 16 L8) (List.replicate 16 (.raw (u8 0#8)))]) S1 = true := rfl
  have hzt : tokD zeroT = .agg S1 [.raw (it 0), .raw (u32 0#32), .agg (.ar 16 L8) (List.replicate 16 (.raw (u8 0#8)))] := rfl
  unfold a_law09_TokenShort r_law09_TokenShort
  have hf : ∀ q, D.fits (tokD q) S1 = true := fun _ => rfl
  have heq : ∀ q : Int, (q == q) = true := fun q => beq_self_eq_true q
  have hea : bnd (eqA S1 (tokD zeroT) (.agg S1 [.raw (it 0), .raw (u32 0#32), .agg (.ar 16 L8) (List.replicate 16 (.raw (u8 0#8)))])) (fun b => D.raw (Value.bool b) = D.raw (Value.bool true)) := rfl
  by_cases hl : w.length < 28
  · have hq : checkE v w = 2 := by unfold checkE; rw [if_pos hl]
    have c1 : ((28 : Int) ≤ (w.length : Int)) = False := eq_false (by omega)
    simp only [↓amD, amU, Nat.reduceBEq, Nat.reduceAdd, Nat.reduceSub, Nat.reduceMul, Nat.reduceMod, Nat.reducePow, Nat.reduceLT, Nat.reduceDiv, Int.reduceToNat, BitVec.reduceToNat, zipEnv, Int.reduceLE, Int.reduceLT, Int.reduceNeg, BitVec.reduceEq, Int.reduceAdd, Int.reduceSub, Int.reduceMul, Nat.reduceLeDiff, Int.reduceEq, lv_app0, lv_appk, set_app0, set_appk, List.append_assoc, List.append_nil, Nat.add_assoc, hfc, h4, kAwake, h5, kc0, kc1, c1, h8]
    refine Eq.mpr (kCheckS _ _ _ _ v w chip n (BsIn.own rfl _ rfl) (BsIn.own rfl _ rfl) (by omega) hc hl1) ?_
    simp only [↓amD, amU, Nat.reduceBEq, Nat.reduceAdd, Nat.reduceSub, Nat.reduceMul, Nat.reduceMod, Nat.reducePow, Nat.reduceLT, Nat.reduceDiv, Int.reduceToNat, BitVec.reduceToNat, zipEnv, Int.reduceLE, Int.reduceLT, Int.reduceNeg, BitVec.reduceEq, Int.reduceAdd, Int.reduceSub, Int.reduceMul, Nat.reduceLeDiff, Int.reduceEq, lv_app0, lv_appk, set_app0, set_appk, List.append_assoc, List.append_nil, Nat.add_assoc, hq, hf]
    exact hea
  · have c1 : ((28 : Int) ≤ (w.length : Int)) = True := eq_true (by omega)
    have l28 : (w.take 28).length = 28 := by rw [List.length_take]; omega
    have ld : (w.drop 28).length ≤ 12 := by rw [List.length_drop]; omega
    simp only [↓amD, amU, Nat.reduceBEq, Nat.reduceAdd, Nat.reduceSub, Nat.reduceMul, Nat.reduceMod, Nat.reducePow, Nat.reduceLT, Nat.reduceDiv, Int.reduceToNat, BitVec.reduceToNat, zipEnv, Int.reduceLE, Int.reduceLT, Int.reduceNeg, BitVec.reduceEq, Int.reduceAdd, Int.reduceSub, Int.reduceMul, Nat.reduceLeDiff, Int.reduceEq, lv_app0, lv_appk, set_app0, set_appk, List.append_assoc, List.append_nil, Nat.add_assoc, hfc, h4, kAwake, h5, kc0, kc1, c1, h6, bs_len]
    refine Eq.mpr (kParse _ _ _ (w.take 28) (BsIn.sub (off := 0) (len := 28) rfl (by omega)) (by omega)) ?_
    rcases parseS_le (w.take 28) with hr | hr | hr
    · have hq : checkE v w = rootE v (w.drop 28) := by unfold checkE; rw [if_neg hl, if_pos hr]
      simp only [↓amD, amU, Nat.reduceBEq, Nat.reduceAdd, Nat.reduceSub, Nat.reduceMul, Nat.reduceMod, Nat.reducePow, Nat.reduceLT, Nat.reduceDiv, Int.reduceToNat, BitVec.reduceToNat, zipEnv, Int.reduceLE, Int.reduceLT, Int.reduceNeg, BitVec.reduceEq, Int.reduceAdd, Int.reduceSub, Int.reduceMul, Nat.reduceLeDiff, Int.reduceEq, lv_app0, lv_appk, set_app0, set_appk, List.append_assoc, List.append_nil, Nat.add_assoc, hr, h7, c1]
      have td : (w.drop 28).take (w.length - 28) = w.drop 28 := List.take_of_length_le (by rw [List.length_drop]; exact Nat.le_refl _)
      refine Eq.mpr (kVerS _ _ _ _ _ v (w.take 28) (w.drop 28) (BsIn.own rfl _ rfl) (BsIn.sub (off := 0) (len := 28) rfl (by omega)) (td ▸ BsIn.sub (off := 28) (len := w.length - 28) rfl (by omega)) (by omega) (by omega) ld) ?_
      rcases rootE_ne v (w.drop 28) with hs | hs
      · simp only [↓amD, amU, Nat.reduceBEq, Nat.reduceAdd, Nat.reduceSub, Nat.reduceMul, Nat.reduceMod, Nat.reducePow, Nat.reduceLT, Nat.reduceDiv, Int.reduceToNat, BitVec.reduceToNat, zipEnv, Int.reduceLE, Int.reduceLT, Int.reduceNeg, BitVec.reduceEq, Int.reduceAdd, Int.reduceSub, Int.reduceMul, Nat.reduceLeDiff, Int.reduceEq, lv_app0, lv_appk, set_app0, set_appk, List.append_assoc, List.append_nil, Nat.add_assoc, hs, h8, hfc]
        refine Eq.mpr (kCheckS _ _ _ _ v w chip n (BsIn.own rfl _ rfl) (BsIn.own rfl _ rfl) (by omega) hc hl1) ?_
        simp only [↓amD, amU, Nat.reduceBEq, Nat.reduceAdd, Nat.reduceSub, Nat.reduceMul, Nat.reduceMod, Nat.reducePow, Nat.reduceLT, Nat.reduceDiv, Int.reduceToNat, BitVec.reduceToNat, zipEnv, Int.reduceLE, Int.reduceLT, Int.reduceNeg, BitVec.reduceEq, Int.reduceAdd, Int.reduceSub, Int.reduceMul, Nat.reduceLeDiff, Int.reduceEq, lv_app0, lv_appk, set_app0, set_appk, List.append_assoc, List.append_nil, Nat.add_assoc, hq, hs, hf]
        exact hea
      · simp only [↓amD, amU, Nat.reduceBEq, Nat.reduceAdd, Nat.reduceSub, Nat.reduceMul, Nat.reduceMod, Nat.reducePow, Nat.reduceLT, Nat.reduceDiv, Int.reduceToNat, BitVec.reduceToNat, zipEnv, Int.reduceLE, Int.reduceLT, Int.reduceNeg, BitVec.reduceEq, Int.reduceAdd, Int.reduceSub, Int.reduceMul, Nat.reduceLeDiff, Int.reduceEq, lv_app0, lv_appk, set_app0, set_appk, List.append_assoc, List.append_nil, Nat.add_assoc, hs, h8, hfc]
        refine Eq.mpr (kCheckS _ _ _ _ v w chip n (BsIn.own rfl _ rfl) (BsIn.own rfl _ rfl) (by omega) hc hl1) ?_
        simp only [↓amD, amU, Nat.reduceBEq, Nat.reduceAdd, Nat.reduceSub, Nat.reduceMul, Nat.reduceMod, Nat.reducePow, Nat.reduceLT, Nat.reduceDiv, Int.reduceToNat, BitVec.reduceToNat, zipEnv, Int.reduceLE, Int.reduceLT, Int.reduceNeg, BitVec.reduceEq, Int.reduceAdd, Int.reduceSub, Int.reduceMul, Nat.reduceLeDiff, Int.reduceEq, lv_app0, lv_appk, set_app0, set_appk, List.append_assoc, List.append_nil, Nat.add_assoc, hq, hs, hf]
        exact hea
    · have hq : checkE v w = 1 := by unfold checkE; rw [if_neg hl, if_neg (by rw [hr]; decide), hr]
      simp only [↓amD, amU, Nat.reduceBEq, Nat.reduceAdd, Nat.reduceSub, Nat.reduceMul, Nat.reduceMod, Nat.reducePow, Nat.reduceLT, Nat.reduceDiv, Int.reduceToNat, BitVec.reduceToNat, zipEnv, Int.reduceLE, Int.reduceLT, Int.reduceNeg, BitVec.reduceEq, Int.reduceAdd, Int.reduceSub, Int.reduceMul, Nat.reduceLeDiff, Int.reduceEq, lv_app0, lv_appk, set_app0, set_appk, List.append_assoc, List.append_nil, Nat.add_assoc, hr, h8, hfc]
      refine Eq.mpr (kCheckS _ _ _ _ v w chip n (BsIn.own rfl _ rfl) (BsIn.own rfl _ rfl) (by omega) hc hl1) ?_
      simp only [↓amD, amU, Nat.reduceBEq, Nat.reduceAdd, Nat.reduceSub, Nat.reduceMul, Nat.reduceMod, Nat.reducePow, Nat.reduceLT, Nat.reduceDiv, Int.reduceToNat, BitVec.reduceToNat, zipEnv, Int.reduceLE, Int.reduceLT, Int.reduceNeg, BitVec.reduceEq, Int.reduceAdd, Int.reduceSub, Int.reduceMul, Nat.reduceLeDiff, Int.reduceEq, lv_app0, lv_appk, set_app0, set_appk, List.append_assoc, List.append_nil, Nat.add_assoc, hq, hf]
      exact hea
    · have hq : checkE v w = 2 := by unfold checkE; rw [if_neg hl, if_neg (by rw [hr]; decide), hr]
      simp only [↓amD, amU, Nat.reduceBEq, Nat.reduceAdd, Nat.reduceSub, Nat.reduceMul, Nat.reduceMod, Nat.reducePow, Nat.reduceLT, Nat.reduceDiv, Int.reduceToNat, BitVec.reduceToNat, zipEnv, Int.reduceLE, Int.reduceLT, Int.reduceNeg, BitVec.reduceEq, Int.reduceAdd, Int.reduceSub, Int.reduceMul, Nat.reduceLeDiff, Int.reduceEq, lv_app0, lv_appk, set_app0, set_appk, List.append_assoc, List.append_nil, Nat.add_assoc, hr, h8, hfc]
      refine Eq.mpr (kCheckS _ _ _ _ v w chip n (BsIn.own rfl _ rfl) (BsIn.own rfl _ rfl) (by omega) hc hl1) ?_
      simp only [↓amD, amU, Nat.reduceBEq, Nat.reduceAdd, Nat.reduceSub, Nat.reduceMul, Nat.reduceMod, Nat.reducePow, Nat.reduceLT, Nat.reduceDiv, Int.reduceToNat, BitVec.reduceToNat, zipEnv, Int.reduceLE, Int.reduceLT, Int.reduceNeg, BitVec.reduceEq, Int.reduceAdd, Int.reduceSub, Int.reduceMul, Nat.reduceLeDiff, Int.reduceEq, lv_app0, lv_appk, set_app0, set_appk, List.append_assoc, List.append_nil, Nat.add_assoc, hq, hf]
      exact hea
end Job.Tk
end Go.Am
