/- LM-OTS: the law of digits -/
import Derived.Test.YtgbmfdnkcelkdaaDoorOt16
namespace Go.Am
set_option linter.unusedSimpArgs false
set_option linter.unusedVariables false
attribute [local congr] bnd_congr kCond_congr kGd_congr kPick_congr kCall_congr kIdx_congr kSlice_congr kLoop_congr cond_congr' aBin_congr aBounds_congr aApp_congr aCopy_congr kFn_congr
namespace Job
open Go.Am.F
set_option maxRecDepth 10000
def fstB : ACode → ACode
  | .seq a _ => a
  | c => c
def sndB : ACode → ACode
  | .seq _ b => b
  | c => c
theorem fstB_seq (a b : ACode) : fstB (.seq a b) = a := Eq.trans rfl rfl
theorem sndB_seq (a b : ACode) : sndB (.seq a b) = b := Eq.trans rfl rfl
def dgl (t : BitVec 32) (d : List (BitVec 8)) : List Nat := bif okT t.toNat then digitsS t.toNat d else []
theorem kDigitsAny (rows : Rows) (k : D → Rows → Prop) (t : BitVec 32) (d : List (BitVec 8)) (hd : d.length = 32) :
    kCall fDigits rows k [.raw (u32 t), .agg (.ar 32 L8) (bs d)] = k (.sl LI (0 + rows.length) [] 0 (dgl t d).length false) (rows ++ [some ⟨LI, (dgl t d).map natD⟩]) := by
  refine (kCall_rd2 (RdIn.raw (rd32_eq t)) (rdIn_d32 d) (by simp [hd]) rfl k).trans ?_
  simp [outI, shift, shiftRows, Sh.pure, dgl]
theorem kAllAny (rows : Rows) (k : D → Rows → Prop) (t : BitVec 32) (d : List (BitVec 8)) (hd : d.length = 32) :
    kCall fAllD rows k [.raw (u32 t), .agg (.ar 32 L8) (bs d)] = k (.sl LI (0 + rows.length) [] 0 (dgl t d).length false) (rows ++ [some ⟨LI, (dgl t d).map natD⟩]) := by
  refine (kCall_rd2 (RdIn.raw (rd32_eq t)) (rdIn_d32 d) (by simp [hd]) rfl k).trans ?_
  simp [outI, shift, shiftRows, Sh.pure, dgl]
theorem par_mk (w p l : Nat) : D.agg SPar [.raw (it (w : Int)), .raw (it (p : Int)), .raw (it (l : Int))] = parD ⟨w, p, l⟩ := rfl
theorem eqA_par (x : Par) : eqA SPar (parD x) (parD x) = some true := by simp [eqA, parD, eqL, eqD, eqLeaf, it]
theorem dgl_len (t : BitVec 32) (d : List (BitVec 8)) : (dgl t d).length ≤ 265 := by
  unfold dgl
  cases hk : okT t.toNat
  · simp
  · have := (parT_ok hk).2.2.1
    have hl : (digitsS t.toNat d).length = pT t.toNat := by simp [digitsS, digsP]
    rw [cond_true, hl]; exact this
set_option maxHeartbeats 4000000 in
theorem digits_law (C : Ctx) (H : OG C) (t : BitVec 32) (d p0 : List (BitVec 8)) (i w : Int) (hd : d.length = 32) (hp0 : p0.length ≤ 9223372036854775807) :
    afun C 5 r_law05_OtsDigits a_law05_OtsDigits [.raw (u32 t), .agg (.ar 32 L8) (bs d), .lst L8 (bs p0) false, .raw (it i), .raw (it w)] [] (fun d rows => d = .raw (.bool true)) := by
  refine afun_mk rfl ?_
  have hz : D.agg SPar [.raw (it 0), .raw (it 0), .raw (it 0)] = parD ⟨0, 0, 0⟩ := rfl
  have b0 : ∀ n : Nat, ((0 : Int) ≤ (n : Int)) = True := fun n => eq_true (by omega)
  have key : ∀ (T : BitVec 32) env rows, has env [(0, .raw (u32 T)), (2, .lst L8 (bs p0) false), (3, .raw (it i)), (4, .raw (it w)), (6, .ptr (.ar 32 L8) 0 [0])] ∧ rows = [some ⟨.ar 32 L8, [.agg (.ar 32 L8) (bs d)]⟩] →
      aw C (sndB (sndB (sndB a_law05_OtsDigits))) (kFin r_law05_OtsDigits fun d rows => d = .raw (.bool true)) env rows := by
    rintro T env rows ⟨hh, rfl⟩
    simp only [has] at hh
    unfold a_law05_OtsDigits r_law05_OtsDigits
    simp only [sndB_seq, hz]
    have kT := fun rows k => kTable rows k T
    have kP := fun rows k => kParams rows k T
    have kD := fun rows k => kDigitsAny rows k T d hd
    have kA := fun rows k => kAllAny rows k T d hd
    have hpar : parT T.toNat = ⟨wT T.toNat, pT T.toNat, lT T.toNat⟩ := rfl
    have hq : ((0 : Int) < (wT T.toNat : Int)) = (okT T.toNat = true) := by
      apply propext
      constructor
      · intro h
        cases hk : okT T.toNat
        · have := (okT_not hk).1; omega
        · rfl
      · intro h
        have := w4_eq.1 (parT_ok h).1
        rw [hpar] at this
        have h2 : wT T.toNat = 1 ∨ wT T.toNat = 2 ∨ wT T.toNat = 4 ∨ wT T.toNat = 8 := this
        omega
    have hq2 : decide ((0 : Int) < (wT T.toNat : Int)) = okT T.toNat := by
      simp only [hq]
      cases okT T.toNat <;> rfl
    have hbb : ∀ b : Bool, (b == b) = true := fun b => by cases b <;> rfl
    have ep := eqA_par (parT T.toNat)
    have pf := par_fits
    have hpm : D.agg SPar [.raw (it (wT T.toNat : Int)), .raw (it (pT T.toNat : Int)), .raw (it (lT T.toNat : Int))] = parD (parT T.toNat) := rfl
    simp only [↓amD, amU, Nat.reduceBEq, Nat.reduceAdd, Nat.reduceSub, Nat.reduceMul, Nat.reduceMod, Nat.reducePow, Nat.reduceLT, Nat.reduceDiv, Int.reduceToNat, BitVec.reduceToNat, zipEnv, Int.reduceLE, Int.reduceLT, Int.reduceNeg, BitVec.reduceEq, Int.reduceAdd, Int.reduceSub, Int.reduceMul, Nat.reduceLeDiff, Int.reduceEq, lv_app0, lv_appk, set_app0, set_appk, List.append_assoc, List.append_nil, Nat.add_assoc, hh, H.table, kT, H.params, kP, pf, hpm, hq2, hbb, ep, Bool.not_true, H.digits, kD, H.alld, kA, decide_true, Bool.not_false]
    have hdl := dgl_len T d
    generalize dgl T d = dg at *
    have gl : ∀ i (h : i < dg.length), (dg.map natD)[i]? = some (natD dg[i]) := fun i h => by simp [h]
    have kc := fun rows k => kCut rows k (.lst L8 (bs p0) false) p0 40 (.inr ⟨false, rfl⟩) hp0 (by rw [List.length_take]; omega)
    have hpl : (p0.take (40 : Int).toNat).length ≤ 40 := by rw [List.length_take]; exact Nat.min_le_left _ _
    generalize p0.take (40 : Int).toNat = p at kc hpl
    refine kLoop_up dg.length (fun k env rows => has env [(62, .raw (it (k : Int))), (61, .raw (it (dg.length : Int))), (16, .sl LI 2 [] 0 dg.length false), (17, .sl LI 3 [] 0 dg.length false), (2, .lst L8 (bs p0) false), (3, .raw (it i)), (4, .raw (it w))] ∧
      rows = [some ⟨.ar 32 L8, [.agg (.ar 32 L8) (bs d)]⟩, some ⟨SPar, [parD (parT T.toNat)]⟩, some ⟨LI, dg.map natD⟩, some ⟨LI, dg.map natD⟩]) ?_ ?_ ⟨?_, rfl⟩
    · clear hh
      rintro k hk env rows ⟨hh, rfl⟩ R hR
      simp only [has] at hh
      have e0 : ((k : Int) < (dg.length : Int)) = True := eq_true (by omega)
      have e1 := wz_succ k (by omega)
      have gk : (dg.map natD)[k]? = some (.raw (it (dg[k] : Int))) := gl k hk
      simp only [↓amD, amU, Nat.reduceBEq, Nat.reduceAdd, Nat.reduceSub, Nat.reduceMul, Nat.reduceMod, Nat.reducePow, Nat.reduceLT, Nat.reduceDiv, Int.reduceToNat, BitVec.reduceToNat, zipEnv, Int.reduceLE, Int.reduceLT, Int.reduceNeg, BitVec.reduceEq, Int.reduceAdd, Int.reduceSub, Int.reduceMul, Nat.reduceLeDiff, Int.reduceEq, lv_app0, lv_appk, set_app0, set_appk, List.append_assoc, List.append_nil, Nat.add_assoc, hh, e0, e1, b0, gk, decide_true, Bool.not_true]
      exact hR _ _ ⟨by simp only [has, ↓amD, amU, Nat.reduceBEq, Nat.reduceAdd, Nat.reduceSub, Nat.reduceMul, Nat.reduceMod, Nat.reducePow, Nat.reduceLT, Nat.reduceDiv, Int.reduceToNat, BitVec.reduceToNat, zipEnv, Int.reduceLE, Int.reduceLT, Int.reduceNeg, BitVec.reduceEq, Int.reduceAdd, Int.reduceSub, Int.reduceMul, Nat.reduceLeDiff, Int.reduceEq, hh], rfl⟩
    · clear hh
      rintro env rows ⟨hh, rfl⟩ R
      simp only [has] at hh
      have e0 : ((dg.length : Int) < (dg.length : Int)) = False := eq_false (by omega)
      simp only [↓amD, amU, Nat.reduceBEq, Nat.reduceAdd, Nat.reduceSub, Nat.reduceMul, Nat.reduceMod, Nat.reducePow, Nat.reduceLT, Nat.reduceDiv, Int.reduceToNat, BitVec.reduceToNat, zipEnv, Int.reduceLE, Int.reduceLT, Int.reduceNeg, BitVec.reduceEq, Int.reduceAdd, Int.reduceSub, Int.reduceMul, Nat.reduceLeDiff, Int.reduceEq, lv_app0, lv_appk, set_app0, set_appk, List.append_assoc, List.append_nil, Nat.add_assoc, hh, e0, H.cut, kc]
      have hrp : live [some ⟨.ar 32 L8, [.agg (.ar 32 L8) (bs d)]⟩, some ⟨SPar, [parD (parT T.toNat)]⟩, some ⟨LI, dg.map natD⟩, some ⟨LI, dg.map natD⟩, some ⟨L8, bs p⟩] 4 = some ⟨L8, bs p⟩ := rfl
      by_cases c1 : w = 1
      · subst c1
        by_cases h0 : (0 : Int) ≤ i
        · have h0' : ((0 : Int) ≤ i) = True := eq_true h0
          obtain ⟨i, rfl⟩ := Int.eq_ofNat_of_zero_le h0
          have qm : wz ((p.length : Int) * 8) = ((p.length * 8 : Nat) : Int) := by rw [wz_id (by omega)]; omega
          have qd : wz (((p.length * 8 : Nat) : Int).tdiv 1) = ((p.length * 8 / 1 : Nat) : Int) := tdivN (p.length * 8) 1 (by omega)
          by_cases hc : i < p.length * 8
          · have hc' : ((i : Int) < ((p.length * 8 / 1 : Nat) : Int)) = True := eq_true (by omega)
            have hin : i < p.length * (8 / 1) := hc
            have qi := wz_succ i (by omega)
            have hz : coefZ p (i : Int) 1 = (coefN p i 1 : Int) := coefZ_nat (w := 1) (by decide) hin
            have hdc := dig_coef p i 1 (by decide) hin
            have gi : ((List.range (i + 1)).map (digR (bitsS p) 1)).map natD = ((List.range (i + 1)).map (digR (bitsS p) 1)).map natD := rfl
            have g2 : (((List.range (i + 1)).map (digR (bitsS p) 1)).map natD)[i]? = some (.raw (it (coefN p i 1 : Int))) := by rw [← hdc]; simp [natD]
            have b1 : ((i : Int) < ((i + 1 : Nat) : Int)) = True := eq_true (by omega)
            simp only [↓amD, amU, Nat.reduceBEq, Nat.reduceAdd, Nat.reduceSub, Nat.reduceMul, Nat.reduceMod, Nat.reducePow, Nat.reduceLT, Nat.reduceDiv, Int.reduceToNat, BitVec.reduceToNat, zipEnv, Int.reduceLE, Int.reduceLT, Int.reduceNeg, BitVec.reduceEq, Int.reduceAdd, Int.reduceSub, Int.reduceMul, Nat.reduceLeDiff, Int.reduceEq, lv_app0, lv_appk, set_app0, set_appk, List.append_assoc, List.append_nil, Nat.add_assoc, hh, h0', qm, qd, hc', decide_true, H.bits]
            refine Eq.mpr (kBits _ _ _ p (BsIn.own hrp _ rfl) (by omega)) ?_
            simp only [↓amD, amU, Nat.reduceBEq, Nat.reduceAdd, Nat.reduceSub, Nat.reduceMul, Nat.reduceMod, Nat.reducePow, Nat.reduceLT, Nat.reduceDiv, Int.reduceToNat, BitVec.reduceToNat, zipEnv, Int.reduceLE, Int.reduceLT, Int.reduceNeg, BitVec.reduceEq, Int.reduceAdd, Int.reduceSub, Int.reduceMul, Nat.reduceLeDiff, Int.reduceEq, lv_app0, lv_appk, set_app0, set_appk, List.append_assoc, List.append_nil, Nat.add_assoc, hh, qi, H.rdig]
            refine Eq.mpr (kRDig _ _ _ (bitsS p) 1 (i + 1) (RdIn.il rfl rfl) (by rw [bits_len]; omega) (bits_le p) (by decide) (by omega)) ?_
            simp only [↓amD, amU, Nat.reduceBEq, Nat.reduceAdd, Nat.reduceSub, Nat.reduceMul, Nat.reduceMod, Nat.reducePow, Nat.reduceLT, Nat.reduceDiv, Int.reduceToNat, BitVec.reduceToNat, zipEnv, Int.reduceLE, Int.reduceLT, Int.reduceNeg, BitVec.reduceEq, Int.reduceAdd, Int.reduceSub, Int.reduceMul, Nat.reduceLeDiff, Int.reduceEq, lv_app0, lv_appk, set_app0, set_appk, List.append_assoc, List.append_nil, Nat.add_assoc, hh, b0, b1, g2, H.coef]
            refine Eq.mpr (kCoef _ _ _ p (i : Int) 1 (BsIn.own rfl _ rfl) (by omega)) ?_
            rw [hz]
            simp only [↓amD, amU, Nat.reduceBEq, Nat.reduceAdd, Nat.reduceSub, Nat.reduceMul, Nat.reduceMod, Nat.reducePow, Nat.reduceLT, Nat.reduceDiv, Int.reduceToNat, BitVec.reduceToNat, zipEnv, Int.reduceLE, Int.reduceLT, Int.reduceNeg, BitVec.reduceEq, Int.reduceAdd, Int.reduceSub, Int.reduceMul, Nat.reduceLeDiff, Int.reduceEq, lv_app0, lv_appk, set_app0, set_appk, List.append_assoc, List.append_nil, Nat.add_assoc, hh, decide_true]
          · have hc' : ((i : Int) < ((p.length * 8 / 1 : Nat) : Int)) = False := eq_false (by omega)
            have hz : coefZ p (i : Int) 1 = 0 := by
              rw [coefZ, if_neg (fun h => by have h2 : (i : Int) < ((p.length * 8 : Nat) : Int) := h.2.2; omega)]
            simp only [↓amD, amU, Nat.reduceBEq, Nat.reduceAdd, Nat.reduceSub, Nat.reduceMul, Nat.reduceMod, Nat.reducePow, Nat.reduceLT, Nat.reduceDiv, Int.reduceToNat, BitVec.reduceToNat, zipEnv, Int.reduceLE, Int.reduceLT, Int.reduceNeg, BitVec.reduceEq, Int.reduceAdd, Int.reduceSub, Int.reduceMul, Nat.reduceLeDiff, Int.reduceEq, lv_app0, lv_appk, set_app0, set_appk, List.append_assoc, List.append_nil, Nat.add_assoc, hh, h0', qm, qd, hc', decide_true, decide_false, H.coef]
            refine Eq.mpr (kCoef _ _ _ p (i : Int) 1 (BsIn.own hrp _ rfl) (by omega)) ?_
            rw [hz]
            simp only [↓amD, amU, Nat.reduceBEq, Nat.reduceAdd, Nat.reduceSub, Nat.reduceMul, Nat.reduceMod, Nat.reducePow, Nat.reduceLT, Nat.reduceDiv, Int.reduceToNat, BitVec.reduceToNat, zipEnv, Int.reduceLE, Int.reduceLT, Int.reduceNeg, BitVec.reduceEq, Int.reduceAdd, Int.reduceSub, Int.reduceMul, Nat.reduceLeDiff, Int.reduceEq, lv_app0, lv_appk, set_app0, set_appk, List.append_assoc, List.append_nil, Nat.add_assoc, hh, decide_true]
        · have h0' : ((0 : Int) ≤ i) = False := eq_false h0
          have hz : coefZ p i 1 = 0 := by rw [coefZ, if_neg (fun h => by omega)]
          simp only [↓amD, amU, Nat.reduceBEq, Nat.reduceAdd, Nat.reduceSub, Nat.reduceMul, Nat.reduceMod, Nat.reducePow, Nat.reduceLT, Nat.reduceDiv, Int.reduceToNat, BitVec.reduceToNat, zipEnv, Int.reduceLE, Int.reduceLT, Int.reduceNeg, BitVec.reduceEq, Int.reduceAdd, Int.reduceSub, Int.reduceMul, Nat.reduceLeDiff, Int.reduceEq, lv_app0, lv_appk, set_app0, set_appk, List.append_assoc, List.append_nil, Nat.add_assoc, hh, h0', decide_true, decide_false, H.coef]
          refine Eq.mpr (kCoef _ _ _ p i 1 (BsIn.own hrp _ rfl) (by omega)) ?_
          rw [hz]
          simp only [↓amD, amU, Nat.reduceBEq, Nat.reduceAdd, Nat.reduceSub, Nat.reduceMul, Nat.reduceMod, Nat.reducePow, Nat.reduceLT, Nat.reduceDiv, Int.reduceToNat, BitVec.reduceToNat, zipEnv, Int.reduceLE, Int.reduceLT, Int.reduceNeg, BitVec.reduceEq, Int.reduceAdd, Int.reduceSub, Int.reduceMul, Nat.reduceLeDiff, Int.reduceEq, lv_app0, lv_appk, set_app0, set_appk, List.append_assoc, List.append_nil, Nat.add_assoc, hh, decide_true]
      have n1 : (w = 1) = False := eq_false c1
      by_cases c2 : w = 2
      · subst c2
        by_cases h0 : (0 : Int) ≤ i
        · have h0' : ((0 : Int) ≤ i) = True := eq_true h0
          obtain ⟨i, rfl⟩ := Int.eq_ofNat_of_zero_le h0
          have qm : wz ((p.length : Int) * 8) = ((p.length * 8 : Nat) : Int) := by rw [wz_id (by omega)]; omega
          have qd : wz (((p.length * 8 : Nat) : Int).tdiv 2) = ((p.length * 8 / 2 : Nat) : Int) := tdivN (p.length * 8) 2 (by omega)
          by_cases hc : i < p.length * 4
          · have hc' : ((i : Int) < ((p.length * 8 / 2 : Nat) : Int)) = True := eq_true (by omega)
            have hin : i < p.length * (8 / 2) := hc
            have qi := wz_succ i (by omega)
            have hz : coefZ p (i : Int) 2 = (coefN p i 2 : Int) := coefZ_nat (w := 2) (by decide) hin
            have hdc := dig_coef p i 2 (by decide) hin
            have gi : ((List.range (i + 1)).map (digR (bitsS p) 2)).map natD = ((List.range (i + 1)).map (digR (bitsS p) 2)).map natD := rfl
            have g2 : (((List.range (i + 1)).map (digR (bitsS p) 2)).map natD)[i]? = some (.raw (it (coefN p i 2 : Int))) := by rw [← hdc]; simp [natD]
            have b1 : ((i : Int) < ((i + 1 : Nat) : Int)) = True := eq_true (by omega)
            simp only [↓amD, amU, Nat.reduceBEq, Nat.reduceAdd, Nat.reduceSub, Nat.reduceMul, Nat.reduceMod, Nat.reducePow, Nat.reduceLT, Nat.reduceDiv, Int.reduceToNat, BitVec.reduceToNat, zipEnv, Int.reduceLE, Int.reduceLT, Int.reduceNeg, BitVec.reduceEq, Int.reduceAdd, Int.reduceSub, Int.reduceMul, Nat.reduceLeDiff, Int.reduceEq, lv_app0, lv_appk, set_app0, set_appk, List.append_assoc, List.append_nil, Nat.add_assoc, hh, h0', qm, qd, hc', decide_true, H.bits]
            refine Eq.mpr (kBits _ _ _ p (BsIn.own hrp _ rfl) (by omega)) ?_
            simp only [↓amD, amU, Nat.reduceBEq, Nat.reduceAdd, Nat.reduceSub, Nat.reduceMul, Nat.reduceMod, Nat.reducePow, Nat.reduceLT, Nat.reduceDiv, Int.reduceToNat, BitVec.reduceToNat, zipEnv, Int.reduceLE, Int.reduceLT, Int.reduceNeg, BitVec.reduceEq, Int.reduceAdd, Int.reduceSub, Int.reduceMul, Nat.reduceLeDiff, Int.reduceEq, lv_app0, lv_appk, set_app0, set_appk, List.append_assoc, List.append_nil, Nat.add_assoc, hh, qi, H.rdig]
            refine Eq.mpr (kRDig _ _ _ (bitsS p) 2 (i + 1) (RdIn.il rfl rfl) (by rw [bits_len]; omega) (bits_le p) (by decide) (by omega)) ?_
            simp only [↓amD, amU, Nat.reduceBEq, Nat.reduceAdd, Nat.reduceSub, Nat.reduceMul, Nat.reduceMod, Nat.reducePow, Nat.reduceLT, Nat.reduceDiv, Int.reduceToNat, BitVec.reduceToNat, zipEnv, Int.reduceLE, Int.reduceLT, Int.reduceNeg, BitVec.reduceEq, Int.reduceAdd, Int.reduceSub, Int.reduceMul, Nat.reduceLeDiff, Int.reduceEq, lv_app0, lv_appk, set_app0, set_appk, List.append_assoc, List.append_nil, Nat.add_assoc, hh, b0, b1, g2, H.coef]
            refine Eq.mpr (kCoef _ _ _ p (i : Int) 2 (BsIn.own rfl _ rfl) (by omega)) ?_
            rw [hz]
            simp only [↓amD, amU, Nat.reduceBEq, Nat.reduceAdd, Nat.reduceSub, Nat.reduceMul, Nat.reduceMod, Nat.reducePow, Nat.reduceLT, Nat.reduceDiv, Int.reduceToNat, BitVec.reduceToNat, zipEnv, Int.reduceLE, Int.reduceLT, Int.reduceNeg, BitVec.reduceEq, Int.reduceAdd, Int.reduceSub, Int.reduceMul, Nat.reduceLeDiff, Int.reduceEq, lv_app0, lv_appk, set_app0, set_appk, List.append_assoc, List.append_nil, Nat.add_assoc, hh, decide_true]
          · have hc' : ((i : Int) < ((p.length * 8 / 2 : Nat) : Int)) = False := eq_false (by omega)
            have hz : coefZ p (i : Int) 2 = 0 := by
              rw [coefZ, if_neg (fun h => by have h2 : (i : Int) < ((p.length * 4 : Nat) : Int) := h.2.2; omega)]
            simp only [↓amD, amU, Nat.reduceBEq, Nat.reduceAdd, Nat.reduceSub, Nat.reduceMul, Nat.reduceMod, Nat.reducePow, Nat.reduceLT, Nat.reduceDiv, Int.reduceToNat, BitVec.reduceToNat, zipEnv, Int.reduceLE, Int.reduceLT, Int.reduceNeg, BitVec.reduceEq, Int.reduceAdd, Int.reduceSub, Int.reduceMul, Nat.reduceLeDiff, Int.reduceEq, lv_app0, lv_appk, set_app0, set_appk, List.append_assoc, List.append_nil, Nat.add_assoc, hh, h0', qm, qd, hc', decide_true, decide_false, H.coef]
            refine Eq.mpr (kCoef _ _ _ p (i : Int) 2 (BsIn.own hrp _ rfl) (by omega)) ?_
            rw [hz]
            simp only [↓amD, amU, Nat.reduceBEq, Nat.reduceAdd, Nat.reduceSub, Nat.reduceMul, Nat.reduceMod, Nat.reducePow, Nat.reduceLT, Nat.reduceDiv, Int.reduceToNat, BitVec.reduceToNat, zipEnv, Int.reduceLE, Int.reduceLT, Int.reduceNeg, BitVec.reduceEq, Int.reduceAdd, Int.reduceSub, Int.reduceMul, Nat.reduceLeDiff, Int.reduceEq, lv_app0, lv_appk, set_app0, set_appk, List.append_assoc, List.append_nil, Nat.add_assoc, hh, decide_true]
        · have h0' : ((0 : Int) ≤ i) = False := eq_false h0
          have hz : coefZ p i 2 = 0 := by rw [coefZ, if_neg (fun h => by omega)]
          simp only [↓amD, amU, Nat.reduceBEq, Nat.reduceAdd, Nat.reduceSub, Nat.reduceMul, Nat.reduceMod, Nat.reducePow, Nat.reduceLT, Nat.reduceDiv, Int.reduceToNat, BitVec.reduceToNat, zipEnv, Int.reduceLE, Int.reduceLT, Int.reduceNeg, BitVec.reduceEq, Int.reduceAdd, Int.reduceSub, Int.reduceMul, Nat.reduceLeDiff, Int.reduceEq, lv_app0, lv_appk, set_app0, set_appk, List.append_assoc, List.append_nil, Nat.add_assoc, hh, h0', decide_true, decide_false, H.coef]
          refine Eq.mpr (kCoef _ _ _ p i 2 (BsIn.own hrp _ rfl) (by omega)) ?_
          rw [hz]
          simp only [↓amD, amU, Nat.reduceBEq, Nat.reduceAdd, Nat.reduceSub, Nat.reduceMul, Nat.reduceMod, Nat.reducePow, Nat.reduceLT, Nat.reduceDiv, Int.reduceToNat, BitVec.reduceToNat, zipEnv, Int.reduceLE, Int.reduceLT, Int.reduceNeg, BitVec.reduceEq, Int.reduceAdd, Int.reduceSub, Int.reduceMul, Nat.reduceLeDiff, Int.reduceEq, lv_app0, lv_appk, set_app0, set_appk, List.append_assoc, List.append_nil, Nat.add_assoc, hh, decide_true]
      have n2 : (w = 2) = False := eq_false c2
      by_cases c4 : w = 4
      · subst c4
        by_cases h0 : (0 : Int) ≤ i
        · have h0' : ((0 : Int) ≤ i) = True := eq_true h0
          obtain ⟨i, rfl⟩ := Int.eq_ofNat_of_zero_le h0
          have qm : wz ((p.length : Int) * 8) = ((p.length * 8 : Nat) : Int) := by rw [wz_id (by omega)]; omega
          have qd : wz (((p.length * 8 : Nat) : Int).tdiv 4) = ((p.length * 8 / 4 : Nat) : Int) := tdivN (p.length * 8) 4 (by omega)
          by_cases hc : i < p.length * 2
          · have hc' : ((i : Int) < ((p.length * 8 / 4 : Nat) : Int)) = True := eq_true (by omega)
            have hin : i < p.length * (8 / 4) := hc
            have qi := wz_succ i (by omega)
            have hz : coefZ p (i : Int) 4 = (coefN p i 4 : Int) := coefZ_nat (w := 4) (by decide) hin
            have hdc := dig_coef p i 4 (by decide) hin
            have gi : ((List.range (i + 1)).map (digR (bitsS p) 4)).map natD = ((List.range (i + 1)).map (digR (bitsS p) 4)).map natD := rfl
            have g2 : (((List.range (i + 1)).map (digR (bitsS p) 4)).map natD)[i]? = some (.raw (it (coefN p i 4 : Int))) := by rw [← hdc]; simp [natD]
            have b1 : ((i : Int) < ((i + 1 : Nat) : Int)) = True := eq_true (by omega)
            simp only [↓amD, amU, Nat.reduceBEq, Nat.reduceAdd, Nat.reduceSub, Nat.reduceMul, Nat.reduceMod, Nat.reducePow, Nat.reduceLT, Nat.reduceDiv, Int.reduceToNat, BitVec.reduceToNat, zipEnv, Int.reduceLE, Int.reduceLT, Int.reduceNeg, BitVec.reduceEq, Int.reduceAdd, Int.reduceSub, Int.reduceMul, Nat.reduceLeDiff, Int.reduceEq, lv_app0, lv_appk, set_app0, set_appk, List.append_assoc, List.append_nil, Nat.add_assoc, hh, h0', qm, qd, hc', decide_true, H.bits]
            refine Eq.mpr (kBits _ _ _ p (BsIn.own hrp _ rfl) (by omega)) ?_
            simp only [↓amD, amU, Nat.reduceBEq, Nat.reduceAdd, Nat.reduceSub, Nat.reduceMul, Nat.reduceMod, Nat.reducePow, Nat.reduceLT, Nat.reduceDiv, Int.reduceToNat, BitVec.reduceToNat, zipEnv, Int.reduceLE, Int.reduceLT, Int.reduceNeg, BitVec.reduceEq, Int.reduceAdd, Int.reduceSub, Int.reduceMul, Nat.reduceLeDiff, Int.reduceEq, lv_app0, lv_appk, set_app0, set_appk, List.append_assoc, List.append_nil, Nat.add_assoc, hh, qi, H.rdig]
            refine Eq.mpr (kRDig _ _ _ (bitsS p) 4 (i + 1) (RdIn.il rfl rfl) (by rw [bits_len]; omega) (bits_le p) (by decide) (by omega)) ?_
            simp only [↓amD, amU, Nat.reduceBEq, Nat.reduceAdd, Nat.reduceSub, Nat.reduceMul, Nat.reduceMod, Nat.reducePow, Nat.reduceLT, Nat.reduceDiv, Int.reduceToNat, BitVec.reduceToNat, zipEnv, Int.reduceLE, Int.reduceLT, Int.reduceNeg, BitVec.reduceEq, Int.reduceAdd, Int.reduceSub, Int.reduceMul, Nat.reduceLeDiff, Int.reduceEq, lv_app0, lv_appk, set_app0, set_appk, List.append_assoc, List.append_nil, Nat.add_assoc, hh, b0, b1, g2, H.coef]
            refine Eq.mpr (kCoef _ _ _ p (i : Int) 4 (BsIn.own rfl _ rfl) (by omega)) ?_
            rw [hz]
            simp only [↓amD, amU, Nat.reduceBEq, Nat.reduceAdd, Nat.reduceSub, Nat.reduceMul, Nat.reduceMod, Nat.reducePow, Nat.reduceLT, Nat.reduceDiv, Int.reduceToNat, BitVec.reduceToNat, zipEnv, Int.reduceLE, Int.reduceLT, Int.reduceNeg, BitVec.reduceEq, Int.reduceAdd, Int.reduceSub, Int.reduceMul, Nat.reduceLeDiff, Int.reduceEq, lv_app0, lv_appk, set_app0, set_appk, List.append_assoc, List.append_nil, Nat.add_assoc, hh, decide_true]
          · have hc' : ((i : Int) < ((p.length * 8 / 4 : Nat) : Int)) = False := eq_false (by omega)
            have hz : coefZ p (i : Int) 4 = 0 := by
              rw [coefZ, if_neg (fun h => by have h2 : (i : Int) < ((p.length * 2 : Nat) : Int) := h.2.2; omega)]
            simp only [↓amD, amU, Nat.reduceBEq, Nat.reduceAdd, Nat.reduceSub, Nat.reduceMul, Nat.reduceMod, Nat.reducePow, Nat.reduceLT, Nat.reduceDiv, Int.reduceToNat, BitVec.reduceToNat, zipEnv, Int.reduceLE, Int.reduceLT, Int.reduceNeg, BitVec.reduceEq, Int.reduceAdd, Int.reduceSub, Int.reduceMul, Nat.reduceLeDiff, Int.reduceEq, lv_app0, lv_appk, set_app0, set_appk, List.append_assoc, List.append_nil, Nat.add_assoc, hh, h0', qm, qd, hc', decide_true, decide_false, H.coef]
            refine Eq.mpr (kCoef _ _ _ p (i : Int) 4 (BsIn.own hrp _ rfl) (by omega)) ?_
            rw [hz]
            simp only [↓amD, amU, Nat.reduceBEq, Nat.reduceAdd, Nat.reduceSub, Nat.reduceMul, Nat.reduceMod, Nat.reducePow, Nat.reduceLT, Nat.reduceDiv, Int.reduceToNat, BitVec.reduceToNat, zipEnv, Int.reduceLE, Int.reduceLT, Int.reduceNeg, BitVec.reduceEq, Int.reduceAdd, Int.reduceSub, Int.reduceMul, Nat.reduceLeDiff, Int.reduceEq, lv_app0, lv_appk, set_app0, set_appk, List.append_assoc, List.append_nil, Nat.add_assoc, hh, decide_true]
        · have h0' : ((0 : Int) ≤ i) = False := eq_false h0
          have hz : coefZ p i 4 = 0 := by rw [coefZ, if_neg (fun h => by omega)]
          simp only [↓amD, amU, Nat.reduceBEq, Nat.reduceAdd, Nat.reduceSub, Nat.reduceMul, Nat.reduceMod, Nat.reducePow, Nat.reduceLT, Nat.reduceDiv, Int.reduceToNat, BitVec.reduceToNat, zipEnv, Int.reduceLE, Int.reduceLT, Int.reduceNeg, BitVec.reduceEq, Int.reduceAdd, Int.reduceSub, Int.reduceMul, Nat.reduceLeDiff, Int.reduceEq, lv_app0, lv_appk, set_app0, set_appk, List.append_assoc, List.append_nil, Nat.add_assoc, hh, h0', decide_true, decide_false, H.coef]
          refine Eq.mpr (kCoef _ _ _ p i 4 (BsIn.own hrp _ rfl) (by omega)) ?_
          rw [hz]
          simp only [↓amD, amU, Nat.reduceBEq, Nat.reduceAdd, Nat.reduceSub, Nat.reduceMul, Nat.reduceMod, Nat.reducePow, Nat.reduceLT, Nat.reduceDiv, Int.reduceToNat, BitVec.reduceToNat, zipEnv, Int.reduceLE, Int.reduceLT, Int.reduceNeg, BitVec.reduceEq, Int.reduceAdd, Int.reduceSub, Int.reduceMul, Nat.reduceLeDiff, Int.reduceEq, lv_app0, lv_appk, set_app0, set_appk, List.append_assoc, List.append_nil, Nat.add_assoc, hh, decide_true]
      have n4 : (w = 4) = False := eq_false c4
      by_cases c8 : w = 8
      · subst c8
        by_cases h0 : (0 : Int) ≤ i
        · have h0' : ((0 : Int) ≤ i) = True := eq_true h0
          obtain ⟨i, rfl⟩ := Int.eq_ofNat_of_zero_le h0
          have qm : wz ((p.length : Int) * 8) = ((p.length * 8 : Nat) : Int) := by rw [wz_id (by omega)]; omega
          have qd : wz (((p.length * 8 : Nat) : Int).tdiv 8) = ((p.length * 8 / 8 : Nat) : Int) := tdivN (p.length * 8) 8 (by omega)
          by_cases hc : i < p.length * 1
          · have hc' : ((i : Int) < ((p.length * 8 / 8 : Nat) : Int)) = True := eq_true (by omega)
            have hin : i < p.length * (8 / 8) := hc
            have qi := wz_succ i (by omega)
            have hz : coefZ p (i : Int) 8 = (coefN p i 8 : Int) := coefZ_nat (w := 8) (by decide) hin
            have hdc := dig_coef p i 8 (by decide) hin
            have gi : ((List.range (i + 1)).map (digR (bitsS p) 8)).map natD = ((List.range (i + 1)).map (digR (bitsS p) 8)).map natD := rfl
            have g2 : (((List.range (i + 1)).map (digR (bitsS p) 8)).map natD)[i]? = some (.raw (it (coefN p i 8 : Int))) := by rw [← hdc]; simp [natD]
            have b1 : ((i : Int) < ((i + 1 : Nat) : Int)) = True := eq_true (by omega)
            simp only [↓amD, amU, Nat.reduceBEq, Nat.reduceAdd, Nat.reduceSub, Nat.reduceMul, Nat.reduceMod, Nat.reducePow, Nat.reduceLT, Nat.reduceDiv, Int.reduceToNat, BitVec.reduceToNat, zipEnv, Int.reduceLE, Int.reduceLT, Int.reduceNeg, BitVec.reduceEq, Int.reduceAdd, Int.reduceSub, Int.reduceMul, Nat.reduceLeDiff, Int.reduceEq, lv_app0, lv_appk, set_app0, set_appk, List.append_assoc, List.append_nil, Nat.add_assoc, hh, h0', qm, qd, hc', decide_true, H.bits]
            refine Eq.mpr (kBits _ _ _ p (BsIn.own hrp _ rfl) (by omega)) ?_
            simp only [↓amD, amU, Nat.reduceBEq, Nat.reduceAdd, Nat.reduceSub, Nat.reduceMul, Nat.reduceMod, Nat.reducePow, Nat.reduceLT, Nat.reduceDiv, Int.reduceToNat, BitVec.reduceToNat, zipEnv, Int.reduceLE, Int.reduceLT, Int.reduceNeg, BitVec.reduceEq, Int.reduceAdd, Int.reduceSub, Int.reduceMul, Nat.reduceLeDiff, Int.reduceEq, lv_app0, lv_appk, set_app0, set_appk, List.append_assoc, List.append_nil, Nat.add_assoc, hh, qi, H.rdig]
            refine Eq.mpr (kRDig _ _ _ (bitsS p) 8 (i + 1) (RdIn.il rfl rfl) (by rw [bits_len]; omega) (bits_le p) (by decide) (by omega)) ?_
            simp only [↓amD, amU, Nat.reduceBEq, Nat.reduceAdd, Nat.reduceSub, Nat.reduceMul, Nat.reduceMod, Nat.reducePow, Nat.reduceLT, Nat.reduceDiv, Int.reduceToNat, BitVec.reduceToNat, zipEnv, Int.reduceLE, Int.reduceLT, Int.reduceNeg, BitVec.reduceEq, Int.reduceAdd, Int.reduceSub, Int.reduceMul, Nat.reduceLeDiff, Int.reduceEq, lv_app0, lv_appk, set_app0, set_appk, List.append_assoc, List.append_nil, Nat.add_assoc, hh, b0, b1, g2, H.coef]
            refine Eq.mpr (kCoef _ _ _ p (i : Int) 8 (BsIn.own rfl _ rfl) (by omega)) ?_
            rw [hz]
            simp only [↓amD, amU, Nat.reduceBEq, Nat.reduceAdd, Nat.reduceSub, Nat.reduceMul, Nat.reduceMod, Nat.reducePow, Nat.reduceLT, Nat.reduceDiv, Int.reduceToNat, BitVec.reduceToNat, zipEnv, Int.reduceLE, Int.reduceLT, Int.reduceNeg, BitVec.reduceEq, Int.reduceAdd, Int.reduceSub, Int.reduceMul, Nat.reduceLeDiff, Int.reduceEq, lv_app0, lv_appk, set_app0, set_appk, List.append_assoc, List.append_nil, Nat.add_assoc, hh, decide_true]
          · have hc' : ((i : Int) < ((p.length * 8 / 8 : Nat) : Int)) = False := eq_false (by omega)
            have hz : coefZ p (i : Int) 8 = 0 := by
              rw [coefZ, if_neg (fun h => by have h2 : (i : Int) < ((p.length * 1 : Nat) : Int) := h.2.2; omega)]
            simp only [↓amD, amU, Nat.reduceBEq, Nat.reduceAdd, Nat.reduceSub, Nat.reduceMul, Nat.reduceMod, Nat.reducePow, Nat.reduceLT, Nat.reduceDiv, Int.reduceToNat, BitVec.reduceToNat, zipEnv, Int.reduceLE, Int.reduceLT, Int.reduceNeg, BitVec.reduceEq, Int.reduceAdd, Int.reduceSub, Int.reduceMul, Nat.reduceLeDiff, Int.reduceEq, lv_app0, lv_appk, set_app0, set_appk, List.append_assoc, List.append_nil, Nat.add_assoc, hh, h0', qm, qd, hc', decide_true, decide_false, H.coef]
            refine Eq.mpr (kCoef _ _ _ p (i : Int) 8 (BsIn.own hrp _ rfl) (by omega)) ?_
            rw [hz]
            simp only [↓amD, amU, Nat.reduceBEq, Nat.reduceAdd, Nat.reduceSub, Nat.reduceMul, Nat.reduceMod, Nat.reducePow, Nat.reduceLT, Nat.reduceDiv, Int.reduceToNat, BitVec.reduceToNat, zipEnv, Int.reduceLE, Int.reduceLT, Int.reduceNeg, BitVec.reduceEq, Int.reduceAdd, Int.reduceSub, Int.reduceMul, Nat.reduceLeDiff, Int.reduceEq, lv_app0, lv_appk, set_app0, set_appk, List.append_assoc, List.append_nil, Nat.add_assoc, hh, decide_true]
        · have h0' : ((0 : Int) ≤ i) = False := eq_false h0
          have hz : coefZ p i 8 = 0 := by rw [coefZ, if_neg (fun h => by omega)]
          simp only [↓amD, amU, Nat.reduceBEq, Nat.reduceAdd, Nat.reduceSub, Nat.reduceMul, Nat.reduceMod, Nat.reducePow, Nat.reduceLT, Nat.reduceDiv, Int.reduceToNat, BitVec.reduceToNat, zipEnv, Int.reduceLE, Int.reduceLT, Int.reduceNeg, BitVec.reduceEq, Int.reduceAdd, Int.reduceSub, Int.reduceMul, Nat.reduceLeDiff, Int.reduceEq, lv_app0, lv_appk, set_app0, set_appk, List.append_assoc, List.append_nil, Nat.add_assoc, hh, h0', decide_true, decide_false, H.coef]
          refine Eq.mpr (kCoef _ _ _ p i 8 (BsIn.own hrp _ rfl) (by omega)) ?_
          rw [hz]
          simp only [↓amD, amU, Nat.reduceBEq, Nat.reduceAdd, Nat.reduceSub, Nat.reduceMul, Nat.reduceMod, Nat.reducePow, Nat.reduceLT, Nat.reduceDiv, Int.reduceToNat, BitVec.reduceToNat, zipEnv, Int.reduceLE, Int.reduceLT, Int.reduceNeg, BitVec.reduceEq, Int.reduceAdd, Int.reduceSub, Int.reduceMul, Nat.reduceLeDiff, Int.reduceEq, lv_app0, lv_appk, set_app0, set_appk, List.append_assoc, List.append_nil, Nat.add_assoc, hh, decide_true]
      have n8 : (w = 8) = False := eq_false c8
      have hz0 : coefZ p i w = 0 := by rw [coefZ, if_neg (fun h => by omega)]
      simp only [↓amD, amU, Nat.reduceBEq, Nat.reduceAdd, Nat.reduceSub, Nat.reduceMul, Nat.reduceMod, Nat.reducePow, Nat.reduceLT, Nat.reduceDiv, Int.reduceToNat, BitVec.reduceToNat, zipEnv, Int.reduceLE, Int.reduceLT, Int.reduceNeg, BitVec.reduceEq, Int.reduceAdd, Int.reduceSub, Int.reduceMul, Nat.reduceLeDiff, Int.reduceEq, lv_app0, lv_appk, set_app0, set_appk, List.append_assoc, List.append_nil, Nat.add_assoc, hh, n1, n2, n4, n8, decide_false, decide_true, H.coef]
      refine Eq.mpr (kCoef _ _ _ p i w (BsIn.own hrp _ rfl) (by omega)) ?_
      rw [hz0]
      simp only [↓amD, amU, Nat.reduceBEq, Nat.reduceAdd, Nat.reduceSub, Nat.reduceMul, Nat.reduceMod, Nat.reducePow, Nat.reduceLT, Nat.reduceDiv, Int.reduceToNat, BitVec.reduceToNat, zipEnv, Int.reduceLE, Int.reduceLT, Int.reduceNeg, BitVec.reduceEq, Int.reduceAdd, Int.reduceSub, Int.reduceMul, Nat.reduceLeDiff, Int.reduceEq, lv_app0, lv_appk, set_app0, set_appk, List.append_assoc, List.append_nil, Nat.add_assoc, hh, decide_true]
    · simp only [has, ↓amD, amU, Nat.reduceBEq, Nat.reduceAdd, Nat.reduceSub, Nat.reduceMul, Nat.reduceMod, Nat.reducePow, Nat.reduceLT, Nat.reduceDiv, Int.reduceToNat, BitVec.reduceToNat, zipEnv, Int.reduceLE, Int.reduceLT, Int.reduceNeg, BitVec.reduceEq, Int.reduceAdd, Int.reduceSub, Int.reduceMul, Nat.reduceLeDiff, Int.reduceEq, hh]
  obtain ⟨c, hc⟩ : ∃ c, c = sndB (sndB (sndB a_law05_OtsDigits)) := ⟨_, rfl⟩
  rw [← hc] at key
  have ha : a_law05_OtsDigits = .seq (fstB a_law05_OtsDigits) (.seq (fstB (sndB a_law05_OtsDigits)) (.seq (fstB (sndB (sndB a_law05_OtsDigits))) c)) := by rw [hc]; rfl
  rw [ha]
  clear ha hc
  unfold a_law05_OtsDigits
  simp only [fstB_seq, sndB_seq]
  by_cases c9 : 9#32 < t
  · have c9' : (9#32 < t) = True := eq_true c9
    simp only [↓amD, amU, Nat.reduceBEq, Nat.reduceAdd, Nat.reduceSub, Nat.reduceMul, Nat.reduceMod, Nat.reducePow, Nat.reduceLT, Nat.reduceDiv, Int.reduceToNat, BitVec.reduceToNat, zipEnv, Int.reduceLE, Int.reduceLT, Int.reduceNeg, BitVec.reduceEq, Int.reduceAdd, Int.reduceSub, Int.reduceMul, Nat.reduceLeDiff, Int.reduceEq, lv_app0, lv_appk, set_app0, set_appk, List.append_assoc, List.append_nil, Nat.add_assoc, H.awake, kAwakeO, c9', decide_true]
    exact key _ _ _ ⟨⟨rfl, rfl, rfl, rfl, rfl, trivial⟩, rfl⟩
  · have c9' : (9#32 < t) = False := eq_false c9
    simp only [↓amD, amU, Nat.reduceBEq, Nat.reduceAdd, Nat.reduceSub, Nat.reduceMul, Nat.reduceMod, Nat.reducePow, Nat.reduceLT, Nat.reduceDiv, Int.reduceToNat, BitVec.reduceToNat, zipEnv, Int.reduceLE, Int.reduceLT, Int.reduceNeg, BitVec.reduceEq, Int.reduceAdd, Int.reduceSub, Int.reduceMul, Nat.reduceLeDiff, Int.reduceEq, lv_app0, lv_appk, set_app0, set_appk, List.append_assoc, List.append_nil, Nat.add_assoc, H.awake, kAwakeO, c9', decide_false]
    exact key _ _ _ ⟨⟨rfl, rfl, rfl, rfl, rfl, trivial⟩, rfl⟩
end Job
end Go.Am
