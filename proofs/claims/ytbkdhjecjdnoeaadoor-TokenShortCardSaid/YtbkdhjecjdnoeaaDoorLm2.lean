/- LMS: public keys -/
import Derived.Test.YtbkdhjecjdnoeaaDoorLm1
namespace Go.Am
set_option linter.unusedSimpArgs false
set_option linter.unusedVariables false
attribute [local congr] bnd_congr kCond_congr kGd_congr kPick_congr kCall_congr kIdx_congr kSlice_congr kLoop_congr cond_congr' aBin_congr aBounds_congr aApp_congr aCopy_congr kFn_congr
namespace Job
open Go.Am.F
set_option maxRecDepth 10000
structure Key where
  t : BitVec 32
  o : BitVec 32
  id : List (BitVec 8)
  root : List (BitVec 8)
def keyD (k : Key) : D := .agg SKey [.raw (u32 k.t), .raw (u32 k.o), .agg (.ar 16 L8) (bs k.id), .agg (.ar 32 L8) (bs k.root)]
def key0 : Key := ⟨0#32, 0#32, List.replicate 16 0#8, List.replicate 32 0#8⟩
def keyOf (p : List (BitVec 8)) : Key := ⟨numS p, numS (p.drop 4), (p.drop 8).take 16, p.drop 24⟩
def readS (p : List (BitVec 8)) : Key × Int :=
  bif decide (p.length = 56) then
    (bif okH (numS p).toNat && okT (numS (p.drop 4)).toNat then (keyOf p, 0) else (key0, 6))
  else (key0, 2)
noncomputable def fReadK : Fn := fn1 rdBs (fun a => Nat.ble a.length most) fun p => (.tup [keyD (readS p).1, .raw (it (readS p).2)], [])
theorem kLNumL (rows : Rows) (k : D → Rows → Prop) (x : List (BitVec 8)) (e : Bool) (h : 4 ≤ x.length) : kCall fLNum rows k [.lst L8 (bs x) e] = k (.raw (u32 (numS x))) rows := by
  refine (kCall_val rfl (fn1_eq (rdBs_lst x e) (by simpa using h))).trans ?_
  simp [shift, shiftRows]
set_option maxHeartbeats 2000000 in
theorem readK_ok (C : Ctx) (hC : CtxOK C P) (h1 : C.fn 19 = some fLNum) (h2 : C.fn 23 = some fHeight) (h3 : C.fn 24 = some fParams) : Meets C.glob P 14 (Fn.run fReadK) := by
  refine fn_meetsN (m_lms_read C hC) fun ds rows r h => ?_
  obtain ⟨d, p, rfl, rfl, hd, hp, rfl⟩ := fn1_some h
  obtain ⟨x, hx⟩ := rdBs_nrm hd
  refine ⟨rfl, _, .cons hx .nil, afun_mk rfl ?_⟩
  simp only [Nat.ble_eq] at hp
  unfold most at hp
  clear h hx hd
  unfold a_lms_read r_lms_read
  have hz : D.fits (.agg SKey [.raw (u32 0#32), .raw (u32 0#32), .agg (.ar 16 L8) (List.replicate 16 (.raw (u8 0#8))), .agg (.ar 32 L8) (List.replicate 32 (.raw (u8 0#8)))]) SKey = true := rfl
  by_cases hl : p.length = 56
  · have d0 : 4 ≤ p.length := by omega
    have d4 : 4 ≤ (p.drop 4).length := by rw [List.length_drop]; omega
    have tk4 : (bs (p.drop 4)).take 52 = bs (p.drop 4) := List.take_of_length_le (by rw [bs_len, List.length_drop]; omega)
    have tk8 : (bs (p.drop 8)).take 16 = bs ((p.drop 8).take 16) := bs_take _ _
    have tkk : (bs ((p.drop 8).take 16)).take 16 = bs ((p.drop 8).take 16) := List.take_of_length_le (by rw [bs_len, List.length_take]; omega)
    have tk24 : (bs (p.drop 24)).take 32 = bs (p.drop 24) := List.take_of_length_le (by rw [bs_len, List.length_drop]; omega)
    simp only [↓amD, amU, Nat.reduceBEq, Nat.reduceAdd, Nat.reduceSub, Nat.reduceMul, Nat.reduceMod, Nat.reducePow, Nat.reduceLT, Nat.reduceDiv, Int.reduceToNat, BitVec.reduceToNat, zipEnv, Int.reduceLE, Int.reduceLT, Int.reduceNeg, BitVec.reduceEq, Int.reduceAdd, Int.reduceSub, Int.reduceMul, Nat.reduceLeDiff, Int.reduceEq, bs_len, hl, h1, kLNumL _ _ _ _ d0, kLNumL _ _ _ _ d4, bs_drop, tk4, tk8, tkk, tk24, List.length_drop, hz]
    have l16 : (List.take 16 (List.drop 8 p)).length = 16 := by rw [List.length_take, List.length_drop]; omega
    have l32 : (List.drop 24 p).length = 32 := by rw [List.length_drop]; omega
    refine ⟨by omega, ?_⟩
    simp only [↓amD, amU, Nat.reduceBEq, Nat.reduceAdd, Nat.reduceSub, Nat.reduceMul, Nat.reduceMod, Nat.reducePow, Nat.reduceLT, Nat.reduceDiv, Int.reduceToNat, BitVec.reduceToNat, zipEnv, Int.reduceLE, Int.reduceLT, Int.reduceNeg, BitVec.reduceEq, Int.reduceAdd, Int.reduceSub, Int.reduceMul, Nat.reduceLeDiff, Int.reduceEq, lv_app0, lv_appk, set_app0, set_appk, List.append_assoc, List.append_nil, Nat.add_assoc, l16, l32, h2, h3, kHeight, kParams, hz, parD, tkk, tk24]
    have hq : readS p = if okH (numS p).toNat && okT (numS (p.drop 4)).toNat then (keyOf p, 0) else (key0, 6) := by
      simp only [readS, hl, decide_true, cond_true]
      cases okH (numS p).toNat && okT (numS (p.drop 4)).toNat <;> rfl
    rw [hq]
    cases g1 : okH (numS p).toNat <;> cases g2 : okT (numS (p.drop 4)).toNat <;>
    · simp only [↓amD, amU, Nat.reduceBEq, Nat.reduceAdd, Nat.reduceSub, Nat.reduceMul, Nat.reduceMod, Nat.reducePow, Nat.reduceLT, Nat.reduceDiv, Int.reduceToNat, BitVec.reduceToNat, zipEnv, Int.reduceLE, Int.reduceLT, Int.reduceNeg, BitVec.reduceEq, Int.reduceAdd, Int.reduceSub, Int.reduceMul, Nat.reduceLeDiff, Int.reduceEq, Bool.not_true, Bool.not_false, Bool.and_self, Bool.and_false, Bool.false_and, if_true, Bool.false_eq_true, if_false, D.fits]
      try exact .val _ rfl
  · have hl1 : ((p.length : Int) = 56) = False := eq_false (by omega)
    have hq : readS p = (key0, 2) := by simp [readS, hl]
    rw [hq]
    simp only [↓amD, amU, Nat.reduceBEq, Nat.reduceAdd, Nat.reduceSub, Nat.reduceMul, Nat.reduceMod, Nat.reducePow, Nat.reduceLT, Nat.reduceDiv, Int.reduceToNat, BitVec.reduceToNat, zipEnv, Int.reduceLE, Int.reduceLT, Int.reduceNeg, BitVec.reduceEq, Int.reduceAdd, Int.reduceSub, Int.reduceMul, Nat.reduceLeDiff, Int.reduceEq, bs_len, hl1]
    exact .val _ rfl
end Job
end Go.Am
