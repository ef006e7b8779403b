/- LMS: signatures that are too short -/
import Derived.Test.YtbkdhjecjdnoeaaDoorLm2
namespace Go.Am
set_option linter.unusedSimpArgs false
set_option linter.unusedVariables false
attribute [local congr] bnd_congr kCond_congr kGd_congr kPick_congr kCall_congr kIdx_congr kSlice_congr kLoop_congr cond_congr' aBin_congr aBounds_congr aApp_congr aCopy_congr kFn_congr
namespace Job
open Go.Am.F
set_option maxRecDepth 10000
theorem kReadK (rows : Rows) (k : D → Rows → Prop) (d : D) (p : List (BitVec 8)) (h : BsIn rows d p) (hp : p.length ≤ 1099511627776) : kCall fReadK rows k [d] = k (.tup [keyD (readS p).1, .raw (it (readS p).2)]) rows := by
  refine (kCall_rd1 (RdIn.bs h) (by simpa [most] using hp) rfl k).trans ?_
  simp [shift, shiftL, shiftRows, keyD, Sh.pure]
def fNoneP : Fn := fn1 rdI (fun _ => true) fun e => (.tup [.raw (u32 0#32), .raw (.slice none 0 0), .raw (u32 0#32), .raw (.slice none 0 0), .raw (it e)], [])
theorem nonep_ok (C : Ctx) (hC : CtxOK C P) : Meets C.glob P 26 (Fn.run fNoneP) := by
  refine fn_meets (m_lms_Parts_1 C hC) fun ds rows r h => ?_
  obtain ⟨d, t, rfl, rfl, hd, hp, rfl⟩ := fn1_some h
  cases rdI_some hd
  refine ⟨rfl, afun_mk rfl ?_⟩
  clear h hd
  unfold a_lms_Parts_1 r_lms_Parts_1
  simp only [↓amD, amU, Nat.reduceBEq, Nat.reduceAdd, Nat.reduceSub, Nat.reduceMul, Nat.reduceMod, Nat.reducePow, Nat.reduceLT, Nat.reduceDiv, Int.reduceToNat, BitVec.reduceToNat, zipEnv, Int.reduceLE, Int.reduceLT, Int.reduceNeg, BitVec.reduceEq, Int.reduceAdd, Int.reduceSub, Int.reduceMul, Nat.reduceLeDiff, Int.reduceEq]
  exact .val _ rfl
theorem kNoneP (rows : Rows) (k : D → Rows → Prop) (e : Int) : kCall fNoneP rows k [.raw (it e)] = k (.tup [.raw (u32 0#32), .raw (.slice none 0 0), .raw (u32 0#32), .raw (.slice none 0 0), .raw (it e)]) rows := by
  refine (kCall_rd1 (RdIn.int e) rfl rfl k).trans ?_
  simp [shift, shiftL, shiftRows]
def partE (p : List (BitVec 8)) : Int := if p.length < 8 then 2 else if okT (numS (p.drop 4)).toNat then 2 else 6
noncomputable def fPartsS : Fn := fn1 rdBs (fun a => Nat.ble a.length 12) fun p => (.tup [.raw (u32 0#32), .raw (.slice none 0 0), .raw (u32 0#32), .raw (.slice none 0 0), .raw (it (partE p))], [])
set_option maxHeartbeats 2000000 in
theorem partsS_ok (C CT : Ctx) (hC : CtxOK C P) (h1 : C.fn 19 = some fLNum) (h3 : C.fn 24 = some fParams) (h4 : C.fn 26 = some fNoneP) (n5 : C.fn 27 = none) (r5 : C.fnr 27 = some (afun CT 2 r_lms_take a_lms_take)) :
    Meets C.glob P 18 (Fn.run fPartsS) := by
  refine fn_meetsN (m_lms_Parts C hC) fun ds rows r h => ?_
  obtain ⟨d, p, rfl, rfl, hd, hp, rfl⟩ := fn1_some h
  obtain ⟨x, hx⟩ := rdBs_nrm hd
  refine ⟨rfl, _, .cons hx .nil, afun_mk rfl ?_⟩
  simp only [Nat.ble_eq] at hp
  clear h hx hd
  unfold a_lms_Parts r_lms_Parts
  have mb : memB 26 [26] = true := rfl
  by_cases hl : p.length < 4
  · have hq : partE p = 2 := by unfold partE; rw [if_pos (by omega)]
    have c1 : ((p.length : Int) < 4) = True := eq_true (by omega)
    rw [hq]
    simp only [↓amD, amU, Nat.reduceBEq, Nat.reduceAdd, Nat.reduceSub, Nat.reduceMul, Nat.reduceMod, Nat.reducePow, Nat.reduceLT, Nat.reduceDiv, Int.reduceToNat, BitVec.reduceToNat, zipEnv, Int.reduceLE, Int.reduceLT, Int.reduceNeg, BitVec.reduceEq, Int.reduceAdd, Int.reduceSub, Int.reduceMul, Nat.reduceLeDiff, Int.reduceEq, lv_app0, lv_appk, set_app0, set_appk, List.append_assoc, List.append_nil, Nat.add_assoc, bs_len, q_afun, n5, r5, a_lms_take, r_lms_take, c1, mb, h4, kNoneP]
    exact .val _ rfl
  · have c1 : ((p.length : Int) < 4) = False := eq_false (by omega)
    have g1 : ((4 : Int) ≤ (p.length : Int)) = True := eq_true (by omega)
    have tk : (bs (p.drop 4)).take (p.length - 4) = bs (p.drop 4) := List.take_of_length_le (by rw [bs_len, List.length_drop]; exact Nat.le_refl _)
    by_cases h8 : p.length < 8
    · have hq : partE p = 2 := by unfold partE; rw [if_pos h8]
      have c2 : (((p.length - 4 : Nat) : Int) < 4) = True := eq_true (by omega)
      rw [hq]
      simp only [↓amD, amU, Nat.reduceBEq, Nat.reduceAdd, Nat.reduceSub, Nat.reduceMul, Nat.reduceMod, Nat.reducePow, Nat.reduceLT, Nat.reduceDiv, Int.reduceToNat, BitVec.reduceToNat, zipEnv, Int.reduceLE, Int.reduceLT, Int.reduceNeg, BitVec.reduceEq, Int.reduceAdd, Int.reduceSub, Int.reduceMul, Nat.reduceLeDiff, Int.reduceEq, lv_app0, lv_appk, set_app0, set_appk, List.append_assoc, List.append_nil, Nat.add_assoc, bs_len, q_afun, n5, r5, a_lms_take, r_lms_take, c1, c2, g1, bs_drop, tk, List.length_drop, mb, h4, kNoneP]
      exact .val _ rfl
    · have c2 : (((p.length - 4 : Nat) : Int) < 4) = False := eq_false (by omega)
      have d4 : 4 ≤ (p.drop 4).length := by rw [List.length_drop]; omega
      simp only [↓amD, amU, Nat.reduceBEq, Nat.reduceAdd, Nat.reduceSub, Nat.reduceMul, Nat.reduceMod, Nat.reducePow, Nat.reduceLT, Nat.reduceDiv, Int.reduceToNat, BitVec.reduceToNat, zipEnv, Int.reduceLE, Int.reduceLT, Int.reduceNeg, BitVec.reduceEq, Int.reduceAdd, Int.reduceSub, Int.reduceMul, Nat.reduceLeDiff, Int.reduceEq, lv_app0, lv_appk, set_app0, set_appk, List.append_assoc, List.append_nil, Nat.add_assoc, bs_len, q_afun, n5, r5, a_lms_take, r_lms_take, c1, c2, g1, bs_drop, tk, List.length_drop, mb, h4, kNoneP, h1, kLNumL _ _ _ _ d4, h3, kParams, parD]
      cases ho : okT (numS (p.drop 4)).toNat
      · have hq : partE p = 6 := by unfold partE; rw [if_neg h8, ho]; rfl
        obtain ⟨e1, e2, e3⟩ := okT_not ho
        rw [hq]
        simp only [↓amD, amU, Nat.reduceBEq, Nat.reduceAdd, Nat.reduceSub, Nat.reduceMul, Nat.reduceMod, Nat.reducePow, Nat.reduceLT, Nat.reduceDiv, Int.reduceToNat, BitVec.reduceToNat, zipEnv, Int.reduceLE, Int.reduceLT, Int.reduceNeg, BitVec.reduceEq, Int.reduceAdd, Int.reduceSub, Int.reduceMul, Nat.reduceLeDiff, Int.reduceEq, lv_app0, lv_appk, set_app0, set_appk, List.append_assoc, List.append_nil, Nat.add_assoc, parT, D.fits, Bool.not_false, Bool.not_true, mb, h4, kNoneP]
        exact .val _ rfl
      · have hq : partE p = 2 := by unfold partE; rw [if_neg h8, ho]; rfl
        rw [hq]
        have cc : ∀ m : Nat, 12 ≤ m → (((p.length - 4 : Nat) : Int) < (m : Int)) = True := fun m hm => eq_true (by omega)
        rcases okT_cases ho with e | e | e | e
        all_goals
          rw [e]
          have c3 : (((p.length - 4 : Nat) : Int) < 8516) = True := eq_true (by omega)
          have c4 : (((p.length - 4 : Nat) : Int) < 4292) = True := eq_true (by omega)
          have c5 : (((p.length - 4 : Nat) : Int) < 2180) = True := eq_true (by omega)
          have c6 : (((p.length - 4 : Nat) : Int) < 1124) = True := eq_true (by omega)
          have w1 : parT 1 = ⟨1, 265, 7⟩ := rfl
          have w2 : parT 2 = ⟨2, 133, 6⟩ := rfl
          have w3 : parT 3 = ⟨4, 67, 4⟩ := rfl
          have w4 : parT 4 = ⟨8, 34, 0⟩ := rfl
          simp only [↓amD, amU, Nat.reduceBEq, Nat.reduceAdd, Nat.reduceSub, Nat.reduceMul, Nat.reduceMod, Nat.reducePow, Nat.reduceLT, Nat.reduceDiv, Int.reduceToNat, BitVec.reduceToNat, zipEnv, Int.reduceLE, Int.reduceLT, Int.reduceNeg, BitVec.reduceEq, Int.reduceAdd, Int.reduceSub, Int.reduceMul, Nat.reduceLeDiff, Int.reduceEq, lv_app0, lv_appk, set_app0, set_appk, List.append_assoc, List.append_nil, Nat.add_assoc, w1, w2, w3, w4, D.fits, Bool.not_false, Bool.not_true, mb, h4, kNoneP, q_afun, n5, r5, a_lms_take, r_lms_take, bs_len, List.length_drop, c3, c4, c5, c6]
          exact .val _ rfl
theorem kPartsS (rows : Rows) (k : D → Rows → Prop) (d : D) (p : List (BitVec 8)) (h : BsIn rows d p) (hp : p.length ≤ 12) : kCall fPartsS rows k [d] = k (.tup [.raw (u32 0#32), .raw (.slice none 0 0), .raw (u32 0#32), .raw (.slice none 0 0), .raw (it (partE p))]) rows := by
  refine (kCall_rd1 (RdIn.bs h) (by simpa using hp) rfl k).trans ?_
  simp [shift, shiftL, shiftRows]
def z32 : List (BitVec 8) := List.replicate 32 0#8
theorem readS_le (p : List (BitVec 8)) : (readS p).2 = 0 ∨ (readS p).2 = 6 ∨ (readS p).2 = 2 := by
  unfold readS
  cases decide (p.length = 56)
  · exact .inr (.inr rfl)
  · cases okH (numS p).toNat && okT (numS (p.drop 4)).toNat
    · exact .inr (.inl rfl)
    · exact .inl rfl
theorem partE_le (p : List (BitVec 8)) : partE p = 6 ∨ partE p = 2 := by
  unfold partE
  split
  · exact .inr rfl
  · split
    · exact .inr rfl
    · exact .inl rfl
def rootE (pub sig : List (BitVec 8)) : Int := if (readS pub).2 = 0 then partE sig else (readS pub).2
theorem rootE_ne (pub sig : List (BitVec 8)) : rootE pub sig = 6 ∨ rootE pub sig = 2 := by
  unfold rootE
  split
  · exact partE_le sig
  · rcases readS_le pub with h | h | h
    · exact absurd h (by assumption)
    · exact .inl h
    · exact .inr h
noncomputable def fRootS : Fn := fn3 rdBs rdBs rdBs (fun a b c => Nat.ble a.length most && Nat.ble b.length most && Nat.ble c.length 12) fun a b c => (.tup [d32D z32, .raw (it (rootE a c))], [])
theorem rootS_ok (C : Ctx) (hC : CtxOK C P) (h1 : C.fn 14 = some fReadK) (h2 : C.fn 18 = some fPartsS) : Meets C.glob P 13 (Fn.run fRootS) := by
  refine fn_meetsN (m_lms_Root C hC) fun ds rows r h => ?_
  obtain ⟨d, e, f, p, q, s, rfl, rfl, hd, he, hf, hp, rfl⟩ := fn3_some h
  obtain ⟨x, hx⟩ := rdBs_nrm hd
  obtain ⟨y, hy⟩ := rdBs_nrm he
  obtain ⟨z, hz⟩ := rdBs_nrm hf
  refine ⟨rfl, _, .cons hx (.cons hy (.cons hz .nil)), afun_mk rfl ?_⟩
  simp only [Bool.and_eq_true, Nat.ble_eq] at hp
  unfold most at hp
  clear h hx hd he hf hy hz
  unfold a_lms_Root r_lms_Root
  have k1 := fun rows k => kReadK rows k (.lst L8 (bs p) x) p (IsBs.to (.inr ⟨x, rfl⟩)) hp.1.1
  have k2 := fun rows k => kPartsS rows k (.lst L8 (bs s) z) s (IsBs.to (.inr ⟨z, rfl⟩)) hp.2
  have hfit : D.fits (keyD (readS p).1) SKey = true := rfl
  rcases readS_le p with hr | hr | hr
  · have hq : rootE p s = partE s := by unfold rootE; rw [if_pos hr]
    rw [hq]
    rcases partE_le s with hs | hs
    · simp only [↓amD, amU, Nat.reduceBEq, Nat.reduceAdd, Nat.reduceSub, Nat.reduceMul, Nat.reduceMod, Nat.reducePow, Nat.reduceLT, Nat.reduceDiv, Int.reduceToNat, BitVec.reduceToNat, zipEnv, Int.reduceLE, Int.reduceLT, Int.reduceNeg, BitVec.reduceEq, Int.reduceAdd, Int.reduceSub, Int.reduceMul, Nat.reduceLeDiff, Int.reduceEq, lv_app0, lv_appk, set_app0, set_appk, List.append_assoc, List.append_nil, Nat.add_assoc, h1, k1, hr, hfit, h2, k2, hs]
      exact .val _ rfl
    · simp only [↓amD, amU, Nat.reduceBEq, Nat.reduceAdd, Nat.reduceSub, Nat.reduceMul, Nat.reduceMod, Nat.reducePow, Nat.reduceLT, Nat.reduceDiv, Int.reduceToNat, BitVec.reduceToNat, zipEnv, Int.reduceLE, Int.reduceLT, Int.reduceNeg, BitVec.reduceEq, Int.reduceAdd, Int.reduceSub, Int.reduceMul, Nat.reduceLeDiff, Int.reduceEq, lv_app0, lv_appk, set_app0, set_appk, List.append_assoc, List.append_nil, Nat.add_assoc, h1, k1, hr, hfit, h2, k2, hs]
      exact .val _ rfl
  · have hq : rootE p s = 6 := by unfold rootE; rw [if_neg (by rw [hr]; decide), hr]
    rw [hq]
    simp only [↓amD, amU, Nat.reduceBEq, Nat.reduceAdd, Nat.reduceSub, Nat.reduceMul, Nat.reduceMod, Nat.reducePow, Nat.reduceLT, Nat.reduceDiv, Int.reduceToNat, BitVec.reduceToNat, zipEnv, Int.reduceLE, Int.reduceLT, Int.reduceNeg, BitVec.reduceEq, Int.reduceAdd, Int.reduceSub, Int.reduceMul, Nat.reduceLeDiff, Int.reduceEq, lv_app0, lv_appk, set_app0, set_appk, List.append_assoc, List.append_nil, Nat.add_assoc, h1, k1, hr, hfit]
    exact .val _ rfl
  · have hq : rootE p s = 2 := by unfold rootE; rw [if_neg (by rw [hr]; decide), hr]
    rw [hq]
    simp only [↓amD, amU, Nat.reduceBEq, Nat.reduceAdd, Nat.reduceSub, Nat.reduceMul, Nat.reduceMod, Nat.reducePow, Nat.reduceLT, Nat.reduceDiv, Int.reduceToNat, BitVec.reduceToNat, zipEnv, Int.reduceLE, Int.reduceLT, Int.reduceNeg, BitVec.reduceEq, Int.reduceAdd, Int.reduceSub, Int.reduceMul, Nat.reduceLeDiff, Int.reduceEq, lv_app0, lv_appk, set_app0, set_appk, List.append_assoc, List.append_nil, Nat.add_assoc, h1, k1, hr, hfit]
    exact .val _ rfl
theorem kRootS (rows : Rows) (k : D → Rows → Prop) (d e f : D) (p q s : List (BitVec 8)) (h : BsIn rows d p) (h' : BsIn rows e q) (h2 : BsIn rows f s) (hp : p.length ≤ 1099511627776) (hq : q.length ≤ 1099511627776) (hs : s.length ≤ 12) :
    kCall fRootS rows k [d, e, f] = k (.tup [d32D z32, .raw (it (rootE p s))]) rows := by
  refine (kCall_rd3 (RdIn.bs h) (RdIn.bs h') (RdIn.bs h2) (by simpa [most] using ⟨⟨hp, hq⟩, hs⟩) rfl k).trans ?_
  simp [shift, shiftL, shiftRows, d32D, Sh.pure]
noncomputable def fVerS : Fn := fn3 rdBs rdBs rdBs (fun a b c => Nat.ble a.length most && Nat.ble b.length most && Nat.ble c.length 12) fun a b c => (.raw (it (rootE a c)), [])
theorem verS_ok (C : Ctx) (hC : CtxOK C P) (h1 : C.fn 13 = some fRootS) : Meets C.glob P 7 (Fn.run fVerS) := by
  refine fn_meetsN (m_lms_Verify C hC) fun ds rows r h => ?_
  obtain ⟨d, e, f, p, q, s, rfl, rfl, hd, he, hf, hp, rfl⟩ := fn3_some h
  obtain ⟨x, hx⟩ := rdBs_nrm hd
  obtain ⟨y, hy⟩ := rdBs_nrm he
  obtain ⟨z, hz⟩ := rdBs_nrm hf
  refine ⟨rfl, _, .cons hx (.cons hy (.cons hz .nil)), afun_mk rfl ?_⟩
  simp only [Bool.and_eq_true, Nat.ble_eq] at hp
  unfold most at hp
  clear h hx hd he hf hy hz
  unfold a_lms_Verify r_lms_Verify
  have k1 := fun rows k => kRootS rows k (.lst L8 (bs p) x) (.lst L8 (bs q) y) (.lst L8 (bs s) z) p q s (IsBs.to (.inr ⟨x, rfl⟩)) (IsBs.to (.inr ⟨y, rfl⟩)) (IsBs.to (.inr ⟨z, rfl⟩)) hp.1.1 hp.1.2 hp.2
  have hfit : D.fits (d32D z32) (.ar 32 L8) = true := rfl
  rcases rootE_ne p s with hr | hr
  · simp only [↓amD, amU, Nat.reduceBEq, Nat.reduceAdd, Nat.reduceSub, Nat.reduceMul, Nat.reduceMod, Nat.reducePow, Nat.reduceLT, Nat.reduceDiv, Int.reduceToNat, BitVec.reduceToNat, zipEnv, Int.reduceLE, Int.reduceLT, Int.reduceNeg, BitVec.reduceEq, Int.reduceAdd, Int.reduceSub, Int.reduceMul, Nat.reduceLeDiff, Int.reduceEq, lv_app0, lv_appk, set_app0, set_appk, List.append_assoc, List.append_nil, Nat.add_assoc, h1, k1, hr, hfit]
    exact .val _ rfl
  · simp only [↓amD, amU, Nat.reduceBEq, Nat.reduceAdd, Nat.reduceSub, Nat.reduceMul, Nat.reduceMod, Nat.reducePow, Nat.reduceLT, Nat.reduceDiv, Int.reduceToNat, BitVec.reduceToNat, zipEnv, Int.reduceLE, Int.reduceLT, Int.reduceNeg, BitVec.reduceEq, Int.reduceAdd, Int.reduceSub, Int.reduceMul, Nat.reduceLeDiff, Int.reduceEq, lv_app0, lv_appk, set_app0, set_appk, List.append_assoc, List.append_nil, Nat.add_assoc, h1, k1, hr, hfit]
    exact .val _ rfl
theorem kVerS (rows : Rows) (k : D → Rows → Prop) (d e f : D) (p q s : List (BitVec 8)) (h : BsIn rows d p) (h' : BsIn rows e q) (h2 : BsIn rows f s) (hp : p.length ≤ 1099511627776) (hq : q.length ≤ 1099511627776) (hs : s.length ≤ 12) :
    kCall fVerS rows k [d, e, f] = k (.raw (it (rootE p s))) rows := by
  refine (kCall_rd3 (RdIn.bs h) (RdIn.bs h') (RdIn.bs h2) (by simpa [most] using ⟨⟨hp, hq⟩, hs⟩) rfl k).trans ?_
  simp [shift, shiftL, shiftRows]
end Job
end Go.Am
