/- manifests: of a payload; awake -/
import Derived.Test.YtbipaoihfpklgaaDoorMan2
import Derived.Test.YtbipaoihfpklgaaDoorRd
namespace Go.Am
set_option linter.unusedSimpArgs false
set_option linter.unusedVariables false
attribute [local congr] bnd_congr kCond_congr kGd_congr kPick_congr kCall_congr kIdx_congr kSlice_congr kLoop_congr cond_congr' aBin_congr aBounds_congr aApp_congr aCopy_congr kFn_congr
namespace Job
open Go.Am.F
set_option maxRecDepth 10000
def ofS (v e : Int) (p : List (BitVec 8)) : Man := ⟨v, p.length, e, sumS p⟩
noncomputable def fOf : Fn := fn3 rdI rdI rdBs (fun _ _ p => Nat.ble p.length 1099511627000) fun v e p => (manD (ofS v e p), [])
theorem of_ok (C : Ctx) (hC : CtxOK C P) (hs : C.fn 27 = some fSum) : Meets C.glob P 16 (Fn.run fOf) := by
  refine fn_meetsN (m_manifest_Of C hC) fun ds rows r h => ?_
  obtain ⟨d, e, f, v, en, p, rfl, rfl, hd, he, hf, hp, rfl⟩ := fn3_some h
  cases rdI_some hd
  cases rdI_some he
  obtain ⟨x, hx⟩ := rdBs_nrm hf
  refine ⟨rfl, _, .cons (.refl _) (.cons (.refl _) (.cons hx .nil)), afun_mk rfl ?_⟩
  simp only [Nat.ble_eq] at hp
  clear h hd he hf hx
  unfold a_manifest_Of r_manifest_Of
  have ks := fun k => kSum [some ⟨SM, [manD zeroM]⟩, some ⟨.ref, [.lst L8 (bs p) x]⟩] k 1 1 true [.lst L8 (bs p) x] [p] rfl rfl (.cons (IsBs.to (.inr ⟨x, rfl⟩)) .nil) (by simp) (by simp; omega)
  simp only [List.flatten_cons, List.flatten_nil, List.append_nil] at ks
  have hz := manD_z
  have hfz := manD_fits zeroM
  have hmo := manD_mk
  have hfm := manD_fits (ofS v en p)
  have hmf : manD ⟨v, p.length, en, sumS p⟩ = manD (ofS v en p) := rfl
  simp only [-List.reduceReplicate, manD_z]
  simp only [↓amD, amU, Nat.reduceBEq, Nat.reduceAdd, Nat.reduceSub, Nat.reduceMul, Nat.reduceMod, Nat.reducePow, Nat.reduceLT, Nat.reduceDiv, Int.reduceToNat, BitVec.reduceToNat, zipEnv, Int.reduceLE, Int.reduceLT, Int.reduceNeg, BitVec.reduceEq, Int.reduceAdd, Int.reduceSub, Int.reduceMul, Nat.reduceLeDiff, Int.reduceEq, bs_len, hz, hfz, hs, ks, hmo, hmf, hfm]
  exact .val _ (manD_ref _)
theorem kOf (rows : Rows) (k : D → Rows → Prop) (v e : Int) (d : D) (p : List (BitVec 8)) (h : BsIn rows d p) (hp : p.length ≤ 1099511627000) : kCall fOf rows k [.raw (it v), .raw (it e), d] = k (manD (ofS v e p)) rows := by
  refine (kCall_rd3 (.int v) (.int e) (.bs h) (by simpa using hp) ?_ k).trans ?_
  · simp [manD, noLst, noLstL, noLstRows, Sh.pure]
  · simp [manD_shift, shiftRows]
theorem num_back (n : Nat) (h : n < 4294967296) (l : List (BitVec 8)) : (numS (numI n ++ l)).toNat = n := by
  have e : numS (numI n ++ l) = numS [BitVec.ofNat 8 (n / 16777216), BitVec.ofNat 8 (n / 65536), BitVec.ofNat 8 (n / 256), BitVec.ofNat 8 n] := rfl
  rw [e, num4_nat]
  simp only [BitVec.toNat_ofNat]
  omega
theorem parse_body (m : Man) (hl : m.dg.length = 32) (hk : rightS m = true) : parseS (bodyL m) = (m, 0) := by
  obtain ⟨v, s, e, hv, hs, he, b1, b2, b3, b4, -, -⟩ := right_nat hk
  have d4 : (bodyL m).drop 4 = numI m.v.toNat ++ (numI m.s.toNat ++ (numI m.e.toNat ++ m.dg)) := by
    simp only [bodyL, List.append_assoc]; rfl
  have d8 : (bodyL m).drop 8 = numI m.s.toNat ++ (numI m.e.toNat ++ m.dg) := by
    simp only [bodyL, List.append_assoc]; rfl
  have d12 : (bodyL m).drop 12 = numI m.e.toNat ++ m.dg := by
    simp only [bodyL, List.append_assoc]; rfl
  have d16 : (bodyL m).drop 16 = m.dg := by
    simp only [bodyL, List.append_assoc]; rfl
  have t4 : (bodyL m).take 4 = curt := by
    simp only [bodyL, List.append_assoc]; rfl
  have hm : manOf (bodyL m) = m := by
    obtain ⟨v', s', e', dg⟩ := m
    simp only at hv hs he
    subst hv hs he
    simp only [manOf, d4, d8, d12, d16, Int.toNat_natCast]
    rw [num_back v (by omega), num_back s (by omega), num_back e (by omega)]
  simp only [parseS, body_len m hl, t4, hm, hk, decide_true, Bool.and_self, cond_true]
theorem eqA_man (m : Man) : eqA SM (manD m) (manD m) = some true := by
  simp [manD, eqA, eqL, eqD, eqLeaf, it, eqL_bs]
theorem parse_dg (p : List (BitVec 8)) : (parseS p).1.dg.length = 32 := by
  unfold parseS
  cases h1 : decide (p.length = 48) <;> cases h2 : decide (p.take 4 = curt) <;> simp only [Bool.and_self, Bool.and_true, Bool.and_false, Bool.false_and, cond_false, cond_true] <;> try rfl
  cases rightS (manOf p) <;> simp only [cond_false, cond_true]
  · rfl
  · have := of_decide_eq_true h1
    simp only [manOf, List.length_drop]; omega
def fAwakeM : Fn
  | [], [] => some (.raw (.bool true), [])
  | _, _ => none
theorem awakeM_ok (C : Ctx) (hC : CtxOK C P) (h16 : C.fn 16 = some fOf) (h7 : C.fn 7 = some fBodyM) (h13 : C.fn 13 = some fParse) (h21 : C.fn 21 = some fHex) : Meets C.glob P 5 (Fn.run fAwakeM) := by
  refine fn_meets (m_law08_awake C hC) fun ds rows r h => ?_
  unfold fAwakeM at h
  split at h
  · cases h
    refine ⟨rfl, afun_mk rfl ?_⟩
    unfold a_law08_awake r_law08_awake
    have ko := fun k => kOf [some ⟨L8, [D.raw (u8 0#8), D.raw (u8 0#8), D.raw (u8 0#8), D.raw (u8 0#8), D.raw (u8 0#8), D.raw (u8 0#8), D.raw (u8 0#8), D.raw (u8 0#8)]⟩] k 3 4 (.sl L8 0 [] 0 8 true) (List.replicate 8 0#8) (BsIn.own rfl 8 rfl) (by decide)
    generalize hm : ofS 3 4 (List.replicate 8 0#8) = m at ko
    have hml : m.dg.length = 32 := by rw [← hm]; exact sumS_len _
    have hmk : rightS m = true := by rw [← hm]; rfl
    have hp0 := parse_body m hml hmk
    have hb8 : (bodyL m).take 8 = curt ++ numI 3 := by rw [← hm]; rfl
    have hz := manD_z
    have hfz := manD_fits zeroM
    have hfm := manD_fits m
    have hr8 : List.replicate 8 (D.raw (u8 0#8)) = bs (List.replicate 8 0#8) := bs_rep _ _
    have kb := fun rows k => kBodyM rows k m hml hmk
    simp only [-List.reduceReplicate, manD_z]
    generalize hm0 : manD zeroM = z0 at hfz ⊢
    simp only [↓amD, amU, Nat.reduceBEq, Nat.reduceAdd, Nat.reduceSub, Nat.reduceMul, Nat.reduceMod, Nat.reducePow, Nat.reduceLT, Nat.reduceDiv, Int.reduceToNat, BitVec.reduceToNat, zipEnv, Int.reduceLE, Int.reduceLT, Int.reduceNeg, BitVec.reduceEq, Int.reduceAdd, Int.reduceSub, Int.reduceMul, Nat.reduceLeDiff, Int.reduceEq, hr8, h16, ko, h7, kb, hz, hfz, hfm, h13]
    refine Eq.mpr (kParse _ _ _ (bodyL m) (BsIn.own rfl 48 (body_len m hml).symm) (by rw [body_len m hml]; decide)) ?_
    have hE := eqA_man m
    simp only [hp0]
    simp only [↓amD, amU, Nat.reduceBEq, Nat.reduceAdd, Nat.reduceSub, Nat.reduceMul, Nat.reduceMod, Nat.reducePow, Nat.reduceLT, Nat.reduceDiv, Int.reduceToNat, BitVec.reduceToNat, zipEnv, Int.reduceLE, Int.reduceLT, Int.reduceNeg, BitVec.reduceEq, Int.reduceAdd, Int.reduceSub, Int.reduceMul, Nat.reduceLeDiff, Int.reduceEq, hz, hfz, hfm, hE, h21]
    refine Eq.mpr (kHex _ _ _ (curt ++ numI 3) ?_ (by decide)) ?_
    · rw [← hb8]
      exact BsIn.sub (off := 0) (len := 8) (l := bodyL m) rfl (by rw [body_len m hml]; decide)
    · have hx : hexB (curt ++ numI 3) = ⟨#[52, 51, 53, 53, 53, 50, 53, 52, 48, 48, 48, 48, 48, 48, 48, 51]⟩ := by kernel_rfl
      simp only [↓amD, amU, Nat.reduceBEq, Nat.reduceAdd, Nat.reduceSub, Nat.reduceMul, Nat.reduceMod, Nat.reducePow, Nat.reduceLT, Nat.reduceDiv, Int.reduceToNat, BitVec.reduceToNat, zipEnv, Int.reduceLE, Int.reduceLT, Int.reduceNeg, BitVec.reduceEq, Int.reduceAdd, Int.reduceSub, Int.reduceMul, Nat.reduceLeDiff, Int.reduceEq, hx, beq_self_eq_true]
      exact .val _ rfl
  · cases h
theorem kAwakeM (rows : Rows) (k : D → Rows → Prop) : kCall fAwakeM rows k [] = k (.raw (.bool true)) rows := by
  refine (kCall_val rfl (r := (.raw (.bool true), [])) rfl).trans ?_
  simp [shift, shiftRows]
end Job
end Go.Am
