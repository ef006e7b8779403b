/- manifests: the document's body, parsing, of a payload -/
import Derived.Test.YtbipaoihfpklgaaDoorMan1
namespace Go.Am
set_option linter.unusedSimpArgs false
set_option linter.unusedVariables false
attribute [local congr] bnd_congr kCond_congr kGd_congr kPick_congr kCall_congr kIdx_congr kSlice_congr kLoop_congr cond_congr' aBin_congr aBounds_congr aApp_congr aCopy_congr kFn_congr
namespace Job
open Go.Am.F
set_option maxRecDepth 10000
noncomputable def fOwn : Fn := fn1 (rdOf manD) (fun _ => true) fun m => (manD m, [])
theorem own_ok (C : Ctx) (hC : CtxOK C P) : Meets C.glob P 9 (Fn.run fOwn) := by
  refine fn_meets (m_law08_own C hC) fun ds rows r h => ?_
  obtain ⟨d, m, rfl, rfl, hd, hp, rfl⟩ := fn1_some h
  cases rdOf_some hd
  refine ⟨rfl, afun_mk rfl ?_⟩
  clear h hd
  unfold a_law08_own r_law08_own
  simp only [↓amD, amU, Nat.reduceBEq, Nat.reduceAdd, Nat.reduceSub, Nat.reduceMul, Nat.reduceMod, Nat.reducePow, Nat.reduceLT, Nat.reduceDiv, Int.reduceToNat, BitVec.reduceToNat, zipEnv, Int.reduceLE, Int.reduceLT, Int.reduceNeg, BitVec.reduceEq, Int.reduceAdd, Int.reduceSub, Int.reduceMul, Nat.reduceLeDiff, Int.reduceEq, manD_fits]
  exact .val _ (manD_ref m)
theorem kOwn (rows : Rows) (k : D → Rows → Prop) (m : Man) : kCall fOwn rows k [manD m] = k (manD m) rows := by
  refine (kCall_val (by simp [hasRefL, manD_ref]) (r := (manD m, [])) ?_).trans ?_
  · rw [fOwn, fn1_eq (rdOf_eq manD_inj m) rfl]
  · simp [manD_shift, shiftRows]
noncomputable def fRefBodyM : Fn := fn1 (rdOf manD) (fun m => decide (m.dg.length = 32) && rightS m) fun m => outBs (bodyL m) false
theorem refBody_ok (C : Ctx) (hC : CtxOK C P) (h10 : C.fn 12 = some fJoin) (h16 : C.fn 23 = some fNumS) : Meets C.glob P 11 (Fn.run fRefBodyM) := by
  refine fn_meets (m_ref08_Body C hC) fun ds rows r h => ?_
  obtain ⟨d, m, rfl, rfl, hd, hp, rfl⟩ := fn1_some h
  cases rdOf_some hd
  refine ⟨rfl, afun_mk rfl ?_⟩
  clear h hd
  unfold a_ref08_Body r_ref08_Body
  simp only [Bool.and_eq_true, decide_eq_true_eq] at hp
  obtain ⟨hl, hk⟩ := hp
  obtain ⟨v, s, e, hv, hs, he, b1, b2, b3, b4, -, -⟩ := right_nat hk
  have hg : manD m = .agg SM [.raw (it (v : Int)), .raw (it (s : Int)), .raw (it (e : Int)), .agg (.ar 32 L8) (bs m.dg)] := by rw [manD, hv, hs, he]
  have hfm := manD_fits m
  rw [hg] at hfm ⊢
  have hT : [D.raw (u8 67#8), D.raw (u8 85#8), D.raw (u8 82#8), D.raw (u8 84#8)] = bs curt := rfl
  have l1 : ∀ n, (numI n).length = 4 := fun n => rfl
  have l2 : curt.length = 4 := rfl
  have kn := fun (rows : Rows) (k : D → Rows → Prop) (n : Nat) (h : n ≤ 2048) => kNumS4 rows k n (by omega)
  simp only [↓amD, amU, Nat.reduceBEq, Nat.reduceAdd, Nat.reduceSub, Nat.reduceMul, Nat.reduceMod, Nat.reducePow, Nat.reduceLT, Nat.reduceDiv, Int.reduceToNat, BitVec.reduceToNat, zipEnv, Int.reduceLE, Int.reduceLT, Int.reduceNeg, BitVec.reduceEq, Int.reduceAdd, Int.reduceSub, Int.reduceMul, Nat.reduceLeDiff, Int.reduceEq, hfm, h16, kn _ _ v (by omega), kn _ _ s (by omega), kn _ _ e (by omega), h10, hT]
  have e1 : (bs m.dg).length = 32 := by rw [bs_len, hl]
  have e2 : ∀ l : List (BitVec 8), l.length = 4 → (bs l).take 4 = bs l := fun l h => List.take_of_length_le (by rw [bs_len, h]; exact Nat.le_refl _)
  have e3 : (bs m.dg).take 32 = bs m.dg := List.take_of_length_le (by rw [e1]; exact Nat.le_refl _)
  simp only [↓amD, amU, Nat.reduceBEq, Nat.reduceAdd, Nat.reduceSub, Nat.reduceMul, Nat.reduceMod, Nat.reducePow, Nat.reduceLT, Nat.reduceDiv, Int.reduceToNat, BitVec.reduceToNat, zipEnv, Int.reduceLE, Int.reduceLT, Int.reduceNeg, BitVec.reduceEq, Int.reduceAdd, Int.reduceSub, Int.reduceMul, Nat.reduceLeDiff, Int.reduceEq, amC, fJoin, rdBss, el_sp, aggO_agg, e1, e2 _ l2, e2 _ (l1 _), e3, l1, l2, beq_self_eq_true, outBs, List.flatten_cons, List.flatten_nil, List.append_nil, List.drop_zero]
  have hb : curt ++ (numI v ++ (numI s ++ (numI e ++ m.dg))) = bodyL m := by
    simp only [bodyL, List.append_assoc, hv, hs, he, Int.toNat_natCast]
  have hn : (bodyL m).length = 48 := body_len m hl
  have hss : decide (4 + (4 + (4 + (4 + m.dg.length))) ≤ 1099511627776) = true := by rw [hl]; rfl
  rw [hss, hb, hl]
  simp only [↓amD, amU, Nat.reduceBEq, Nat.reduceAdd, Nat.reduceSub, Nat.reduceMul, Nat.reduceMod, Nat.reducePow, Nat.reduceLT, Nat.reduceDiv, Int.reduceToNat, BitVec.reduceToNat, zipEnv, Int.reduceLE, Int.reduceLT, Int.reduceNeg, BitVec.reduceEq, Int.reduceAdd, Int.reduceSub, Int.reduceMul, Nat.reduceLeDiff, Int.reduceEq, amC]
  rw [hn]
  exact .own L8 6 0 48 false false _ rfl rfl id
theorem kRefBodyM (rows : Rows) (k : D → Rows → Prop) (m : Man) (h : m.dg.length = 32) (hk : rightS m = true) : kCall fRefBodyM rows k [manD m] = k (.sl L8 (0 + rows.length) [] 0 48 false) (rows ++ [some ⟨L8, bs (bodyL m)⟩]) := by
  refine (kCall_val (by simp [hasRefL, manD_ref]) (r := outBs (bodyL m) false) ?_).trans ?_
  · rw [fRefBodyM, fn1_eq (rdOf_eq manD_inj m) (by simp [h, hk])]
  · simp [outBs, shift, shiftL, shiftRows, Sh.pure, body_len m h]
def z32 : List (BitVec 8) := List.replicate 32 0#8
def zeroM : Man := ⟨0, 0, 0, z32⟩
def manOf (p : List (BitVec 8)) : Man := ⟨(numS (p.drop 4)).toNat, (numS (p.drop 8)).toNat, (numS (p.drop 12)).toNat, p.drop 16⟩
def parseS (p : List (BitVec 8)) : Man × Int :=
  bif decide (p.length = 48) && decide (p.take 4 = curt) then
    (bif rightS (manOf p) then (manOf p, 0) else (zeroM, 1))
  else (zeroM, 2)
noncomputable def fParse : Fn := fn1 rdBs (fun a => Nat.ble a.length most) fun p => (.tup [manD (parseS p).1, .raw (it (parseS p).2)], [])
theorem kNum32 (rows : Rows) (k : D → Rows → Prop) (x : List (BitVec 8)) (e : Bool) (h : 4 ≤ x.length) : kCall fNum rows k [.lst L8 (bs x) e] = k (.raw (it (((numS x).toNat : Nat) : Int))) rows := by
  refine (kCall_val rfl (fn1_eq (rdBs_lst x e) (by simpa using h))).trans ?_
  simp [shift, shiftRows]
theorem manD_mk (a b c : Int) (l : List (BitVec 8)) : D.agg SM [.raw (it a), .raw (it b), .raw (it c), .agg (.ar 32 L8) (bs l)] = manD ⟨a, b, c, l⟩ := rfl
theorem manD_z : D.agg SM [.raw (it 0), .raw (it 0), .raw (it 0), .agg (.ar 32 L8) (List.replicate 32 (.raw (u8 0#8)))] = manD zeroM := by rw [manD, zeroM, z32, bs_rep]
set_option maxHeartbeats 2000000 in
theorem parse_ok (C : Ctx) (hC : CtxOK C P) (h15 : C.fn 22 = some fRight) (h17 : C.fn 24 = some fPre) (h18 : C.fn 25 = some fNum) : Meets C.glob P 13 (Fn.run fParse) := by
  refine fn_meetsN (m_manifest_Parse C hC) fun ds rows r h => ?_
  obtain ⟨d, p, rfl, rfl, hd, hp, rfl⟩ := fn1_some h
  obtain ⟨x, hx⟩ := rdBs_nrm hd
  refine ⟨rfl, _, .cons hx .nil, afun_mk rfl ?_⟩
  simp only [Nat.ble_eq] at hp
  unfold most at hp
  clear h hx hd
  unfold a_manifest_Parse r_manifest_Parse
  have hz := manD_z
  have hfz := manD_fits zeroM
  have hT : [D.raw (u8 67#8), D.raw (u8 85#8), D.raw (u8 82#8), D.raw (u8 84#8)] = bs curt := rfl
  by_cases hl : p.length = 48
  · have hq : parseS p = if p.take 4 = curt then (if rightS (manOf p) then (manOf p, 0) else (zeroM, 1)) else (zeroM, 2) := by
      simp only [parseS, hl, decide_true, Bool.true_and]
      by_cases h1 : p.take 4 = curt <;> cases h2 : rightS (manOf p) <;> simp [h1]
    have h4 : (4 : Nat) ≤ curt.length := by decide
    simp only [↓amD, amU, Nat.reduceBEq, Nat.reduceAdd, Nat.reduceSub, Nat.reduceMul, Nat.reduceMod, Nat.reducePow, Nat.reduceLT, Nat.reduceDiv, Int.reduceToNat, BitVec.reduceToNat, zipEnv, Int.reduceLE, Int.reduceLT, Int.reduceNeg, BitVec.reduceEq, Int.reduceAdd, Int.reduceSub, Int.reduceMul, Nat.reduceLeDiff, Int.reduceEq, bs_len, hl, h17, hT, hz, hfz]
    refine ⟨h4, Eq.mpr (kPre _ _ _ _ p curt (IsBs.to (.inr ⟨x, rfl⟩)) (Own.to (.inr ⟨1, true, rfl, rfl⟩)) (by omega) (by decide)) ?_⟩
    have t4 : curt.length = 4 := rfl
    have hl2 : ((4 : Nat) ≤ p.length) = True := eq_true (by omega)
    have d4 : 4 ≤ (p.drop 4).length := by rw [List.length_drop]; omega
    have d8 : 4 ≤ (p.drop 8).length := by rw [List.length_drop]; omega
    have d12 : 4 ≤ (p.drop 12).length := by rw [List.length_drop]; omega
    have tk4 : (bs (p.drop 4)).take 44 = bs (p.drop 4) := List.take_of_length_le (by rw [bs_len, List.length_drop]; omega)
    have tk8 : (bs (p.drop 8)).take 40 = bs (p.drop 8) := List.take_of_length_le (by rw [bs_len, List.length_drop]; omega)
    have tk12 : (bs (p.drop 12)).take 36 = bs (p.drop 12) := List.take_of_length_le (by rw [bs_len, List.length_drop]; omega)
    have tk16 : (bs (p.drop 16)).take 32 = bs (p.drop 16) := List.take_of_length_le (by rw [bs_len, List.length_drop]; omega)
    simp only [t4, hl2, decide_true, Bool.true_and]
    by_cases ht : p.take 4 = curt
    · have hmo : ∀ l, D.agg SM [.raw (it ((numS (p.drop 4)).toNat : Int)), .raw (it ((numS (p.drop 8)).toNat : Int)), .raw (it ((numS (p.drop 12)).toNat : Int)), .agg (.ar 32 L8) (bs l)] = manD ⟨(numS (p.drop 4)).toNat, (numS (p.drop 8)).toNat, (numS (p.drop 12)).toNat, l⟩ := fun l => rfl
      have hmf : manD ⟨(numS (p.drop 4)).toNat, (numS (p.drop 8)).toNat, (numS (p.drop 12)).toNat, p.drop 16⟩ = manD (manOf p) := rfl
      have hfm := manD_fits (manOf p)
      simp only [hq, ht, if_true, decide_true]
      simp only [↓amD, amU, Nat.reduceBEq, Nat.reduceAdd, Nat.reduceSub, Nat.reduceMul, Nat.reduceMod, Nat.reducePow, Nat.reduceLT, Nat.reduceDiv, Int.reduceToNat, BitVec.reduceToNat, zipEnv, Int.reduceLE, Int.reduceLT, Int.reduceNeg, BitVec.reduceEq, Int.reduceAdd, Int.reduceSub, Int.reduceMul, Nat.reduceLeDiff, Int.reduceEq, bs_len, hl, h18, bs_drop, tk4, tk8, tk12, tk16, kNum32 _ _ _ _ d4, kNum32 _ _ _ _ d8, kNum32 _ _ _ _ d12, List.length_drop, hmo, hmf, hfm, h15, kRight]
      cases hk : rightS (manOf p)
      · simp only [↓amD, amU, Nat.reduceBEq, Nat.reduceAdd, Nat.reduceSub, Nat.reduceMul, Nat.reduceMod, Nat.reducePow, Nat.reduceLT, Nat.reduceDiv, Int.reduceToNat, BitVec.reduceToNat, zipEnv, Int.reduceLE, Int.reduceLT, Int.reduceNeg, BitVec.reduceEq, Int.reduceAdd, Int.reduceSub, Int.reduceMul, Nat.reduceLeDiff, Int.reduceEq, hz, hfz]
        exact .val _ rfl
      · simp only [↓amD, amU, Nat.reduceBEq, Nat.reduceAdd, Nat.reduceSub, Nat.reduceMul, Nat.reduceMod, Nat.reducePow, Nat.reduceLT, Nat.reduceDiv, Int.reduceToNat, BitVec.reduceToNat, zipEnv, Int.reduceLE, Int.reduceLT, Int.reduceNeg, BitVec.reduceEq, Int.reduceAdd, Int.reduceSub, Int.reduceMul, Nat.reduceLeDiff, Int.reduceEq, hfm]
        exact .val _ rfl
    · simp only [hq, ht, if_false, decide_false]
      simp only [↓amD, amU, Nat.reduceBEq, Nat.reduceAdd, Nat.reduceSub, Nat.reduceMul, Nat.reduceMod, Nat.reducePow, Nat.reduceLT, Nat.reduceDiv, Int.reduceToNat, BitVec.reduceToNat, zipEnv, Int.reduceLE, Int.reduceLT, Int.reduceNeg, BitVec.reduceEq, Int.reduceAdd, Int.reduceSub, Int.reduceMul, Nat.reduceLeDiff, Int.reduceEq, hz, hfz]
      exact .val _ rfl
  · have hl1 : ((p.length : Int) = 48) = False := eq_false (by omega)
    have hq : parseS p = (zeroM, 2) := by simp [parseS, hl]
    rw [hq]
    simp only [↓amD, amU, Nat.reduceBEq, Nat.reduceAdd, Nat.reduceSub, Nat.reduceMul, Nat.reduceMod, Nat.reducePow, Nat.reduceLT, Nat.reduceDiv, Int.reduceToNat, BitVec.reduceToNat, zipEnv, Int.reduceLE, Int.reduceLT, Int.reduceNeg, BitVec.reduceEq, Int.reduceAdd, Int.reduceSub, Int.reduceMul, Nat.reduceLeDiff, Int.reduceEq, bs_len, hl1, hz, hfz]
    exact .val _ rfl
set_option maxHeartbeats 2000000 in
theorem refParse_ok (C : Ctx) (hC : CtxOK C P) (h15 : C.fn 8 = some fRight) (h19 : C.fn 26 = some fValue) : Meets C.glob P 14 (Fn.run fParse) := by
  refine fn_meetsN (m_ref08_Parse C hC) fun ds rows r h => ?_
  obtain ⟨d, p, rfl, rfl, hd, hp, rfl⟩ := fn1_some h
  obtain ⟨x, hx⟩ := rdBs_nrm hd
  refine ⟨rfl, _, .cons hx .nil, afun_mk rfl ?_⟩
  simp only [Nat.ble_eq] at hp
  unfold most at hp
  clear h hx hd
  unfold a_ref08_Parse r_ref08_Parse
  have hz := manD_z
  have hfz := manD_fits zeroM
  by_cases hl : p.length = 48
  · have hq : parseS p = if p.take 4 = curt then (if rightS (manOf p) then (manOf p, 0) else (zeroM, 1)) else (zeroM, 2) := by
      simp only [parseS, hl, decide_true, Bool.true_and]
      by_cases h1 : p.take 4 = curt <;> cases h2 : rightS (manOf p) <;> simp [h1]
    have d4 : ((p.drop 4).take 4).length ≤ 64 := by rw [List.length_take]; omega
    have d8 : ((p.drop 8).take 4).length ≤ 64 := by rw [List.length_take]; omega
    have d12 : ((p.drop 12).take 4).length ≤ 64 := by rw [List.length_take]; omega
    have tk16 : (bs (p.drop 16)).take 32 = bs (p.drop 16) := List.take_of_length_le (by rw [bs_len, List.length_drop]; omega)
    have hsh : ∀ l e, sshape L8 (.lst L8 (bs l) e) = true := fun l e => IsBs.sshape (.inr ⟨e, rfl⟩)
    have hst : (⟨(ub (p.take 4)).toArray⟩ : ByteArray).toList = ub (p.take 4) := by rw [ByteArray.toList_eq]
    have hst2 : (⟨#[67, 85, 82, 84]⟩ : ByteArray).toList = ub curt := by rw [ByteArray.toList_eq]; rfl
    simp only [↓amD, amU, Nat.reduceBEq, Nat.reduceAdd, Nat.reduceSub, Nat.reduceMul, Nat.reduceMod, Nat.reducePow, Nat.reduceLT, Nat.reduceDiv, Int.reduceToNat, BitVec.reduceToNat, zipEnv, Int.reduceLE, Int.reduceLT, Int.reduceNeg, BitVec.reduceEq, Int.reduceAdd, Int.reduceSub, Int.reduceMul, Nat.reduceLeDiff, Int.reduceEq, bs_len, hl, bs_take, bs_drop, hsh, byte_bs, hst, hst2, ub_beq, h19, hz, hfz]
    by_cases ht : p.take 4 = curt
    · obtain ⟨-, v1⟩ := val_q (p.drop 4) (by rw [List.length_drop]; omega)
      obtain ⟨-, v2⟩ := val_q (p.drop 8) (by rw [List.length_drop]; omega)
      obtain ⟨-, v3⟩ := val_q (p.drop 12) (by rw [List.length_drop]; omega)
      have hmo : ∀ l, D.agg SM [.raw (it ((numS (p.drop 4)).toNat : Int)), .raw (it ((numS (p.drop 8)).toNat : Int)), .raw (it ((numS (p.drop 12)).toNat : Int)), .agg (.ar 32 L8) (bs l)] = manD ⟨(numS (p.drop 4)).toNat, (numS (p.drop 8)).toNat, (numS (p.drop 12)).toNat, l⟩ := fun l => rfl
      have hmf : manD ⟨(numS (p.drop 4)).toNat, (numS (p.drop 8)).toNat, (numS (p.drop 12)).toNat, p.drop 16⟩ = manD (manOf p) := rfl
      have hfm := manD_fits (manOf p)
      simp only [hq, ht, if_true, decide_true]
      simp only [↓amD, amU, Nat.reduceBEq, Nat.reduceAdd, Nat.reduceSub, Nat.reduceMul, Nat.reduceMod, Nat.reducePow, Nat.reduceLT, Nat.reduceDiv, Int.reduceToNat, BitVec.reduceToNat, zipEnv, Int.reduceLE, Int.reduceLT, Int.reduceNeg, BitVec.reduceEq, Int.reduceAdd, Int.reduceSub, Int.reduceMul, Nat.reduceLeDiff, Int.reduceEq, bs_len, hl, h19, bs_drop, bs_take, tk16, kVal _ _ _ _ d4, kVal _ _ _ _ d8, kVal _ _ _ _ d12, List.length_drop, v1, v2, v3, hmo, hmf, hfm, h15, kRight]
      cases hk : rightS (manOf p)
      · simp only [↓amD, amU, Nat.reduceBEq, Nat.reduceAdd, Nat.reduceSub, Nat.reduceMul, Nat.reduceMod, Nat.reducePow, Nat.reduceLT, Nat.reduceDiv, Int.reduceToNat, BitVec.reduceToNat, zipEnv, Int.reduceLE, Int.reduceLT, Int.reduceNeg, BitVec.reduceEq, Int.reduceAdd, Int.reduceSub, Int.reduceMul, Nat.reduceLeDiff, Int.reduceEq, hz, hfz]
        exact .val _ rfl
      · simp only [↓amD, amU, Nat.reduceBEq, Nat.reduceAdd, Nat.reduceSub, Nat.reduceMul, Nat.reduceMod, Nat.reducePow, Nat.reduceLT, Nat.reduceDiv, Int.reduceToNat, BitVec.reduceToNat, zipEnv, Int.reduceLE, Int.reduceLT, Int.reduceNeg, BitVec.reduceEq, Int.reduceAdd, Int.reduceSub, Int.reduceMul, Nat.reduceLeDiff, Int.reduceEq, hfm]
        exact .val _ rfl
    · simp only [hq, ht, if_false, decide_false]
      simp only [↓amD, amU, Nat.reduceBEq, Nat.reduceAdd, Nat.reduceSub, Nat.reduceMul, Nat.reduceMod, Nat.reducePow, Nat.reduceLT, Nat.reduceDiv, Int.reduceToNat, BitVec.reduceToNat, zipEnv, Int.reduceLE, Int.reduceLT, Int.reduceNeg, BitVec.reduceEq, Int.reduceAdd, Int.reduceSub, Int.reduceMul, Nat.reduceLeDiff, Int.reduceEq, hz, hfz]
      exact .val _ rfl
  · have hl1 : ((p.length : Int) = 48) = False := eq_false (by omega)
    have hq : parseS p = (zeroM, 2) := by simp [parseS, hl]
    rw [hq]
    simp only [↓amD, amU, Nat.reduceBEq, Nat.reduceAdd, Nat.reduceSub, Nat.reduceMul, Nat.reduceMod, Nat.reducePow, Nat.reduceLT, Nat.reduceDiv, Int.reduceToNat, BitVec.reduceToNat, zipEnv, Int.reduceLE, Int.reduceLT, Int.reduceNeg, BitVec.reduceEq, Int.reduceAdd, Int.reduceSub, Int.reduceMul, Nat.reduceLeDiff, Int.reduceEq, bs_len, hl1, hz, hfz]
    exact .val _ rfl
theorem kParse (rows : Rows) (k : D → Rows → Prop) (d : D) (p : List (BitVec 8)) (h : BsIn rows d p) (hp : p.length ≤ 1099511627776) : kCall fParse rows k [d] = k (.tup [manD (parseS p).1, .raw (it (parseS p).2)]) rows := by
  refine (kCall_bs1 h (by simpa [most] using hp) ?_).trans ?_
  · simp [manD, noLst, noLstL, noLstRows, Sh.pure]
  · simp [shift, shiftL, manD_shift, shiftRows]
end Job
end Go.Am
