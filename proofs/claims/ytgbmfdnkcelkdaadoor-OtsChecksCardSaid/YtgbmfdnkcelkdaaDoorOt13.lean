/- LM-OTS: the laws of chains and folds -/
import Derived.Test.YtgbmfdnkcelkdaaDoorOtE
namespace Go.Am
set_option linter.unusedSimpArgs false
set_option linter.unusedVariables false
attribute [local congr] bnd_congr kCond_congr kGd_congr kPick_congr kCall_congr kIdx_congr kSlice_congr kLoop_congr cond_congr' aBin_congr aBounds_congr aApp_congr aCopy_congr kFn_congr
namespace Job
open Go.Am.F
set_option maxRecDepth 10000
/-- the contracts -/
structure OF (C : Ctx) : Prop where
  awake : C.fn 9 = some fAwakeO
  params : C.fn 11 = some fParams
  digits : C.fn 12 = some fDigits
  coef : C.fn 17 = some fCoef
  chain : C.fn 19 = some fChain
  step : C.fn 20 = some fStep
  secret : C.fn 21 = some fSecret
  mash : C.fn 22 = some fMash
  fold : C.fn 24 = some fFold
  pub : C.fn 27 = some fPublic
  sign : C.fn 28 = some fSign
  claim : C.fn 29 = some fClaim
  split : C.fn 30 = some fSplit
  rstep : C.fn 18 = some fRStep
  rmash : C.fn 23 = some fRMash
  rfold : C.fn 25 = some fRFold
  table : C.fn 10 = some fTable
  cut : C.fn 14 = some fCut
  num : C.fn 31 = some fNumS
  value : C.fn 32 = some fValue
def zsite (id : List (BitVec 8)) (q : BitVec 32) : Site := ⟨id, q⟩
theorem site_mk (id : List (BitVec 8)) (q : BitVec 32) : D.agg SSite [.agg (.ar 16 L8) (bs id), .raw (u32 q)] = siteD ⟨id, q⟩ := rfl
theorem z_site0 : D.agg SSite [.agg (.ar 16 L8) (List.replicate 16 (.raw (u8 0#8))), .raw (u32 0#32)] = siteD ⟨zid, 0#32⟩ := rfl
set_option maxHeartbeats 4000000 in
theorem chains_law (C : Ctx) (H : OF C) (id : List (BitVec 8)) (q : BitVec 32) (i_ : BitVec 16) (f_ m_ t_ : BitVec 8) (x : List (BitVec 8)) (hid : id.length = 16) (hx : x.length = 32) :
    afun C 7 r_law05_OtsChains a_law05_OtsChains [.agg (.ar 16 L8) (bs id), .raw (u32 q), .raw (u16 i_), .raw (u8 f_), .raw (u8 m_), .raw (u8 t_), .agg (.ar 32 L8) (bs x)] [] (fun d rows => d = .raw (.bool true)) := by
  refine afun_mk rfl ?_
  unfold a_law05_OtsChains r_law05_OtsChains
  simp only [z32_eq, z_site0]
  obtain ⟨i, hi⟩ : ∃ i, i = i_.toNat := ⟨_, rfl⟩
  have hi2 : i < 65536 := by rw [hi]; exact i_.isLt
  obtain ⟨a, ha⟩ : ∃ a, a = (f_ % 16#8).toNat := ⟨_, rfl⟩
  have ha2 : a < 16 := by rw [ha, BitVec.toNat_umod]; exact Nat.mod_lt _ (by decide)
  obtain ⟨bb, hb⟩ : ∃ bb, bb = (m_ % 8#8).toNat := ⟨_, rfl⟩
  have hb2 : bb < 8 := by rw [hb, BitVec.toNat_umod]; exact Nat.mod_lt _ (by decide)
  obtain ⟨cc, hc⟩ : ∃ cc, cc = (t_ % 8#8).toNat := ⟨_, rfl⟩
  have hc2 : cc < 8 := by rw [hc, BitVec.toNat_umod]; exact Nat.mod_lt _ (by decide)
  obtain ⟨b, hB⟩ : ∃ b, b = a + bb := ⟨_, rfl⟩
  obtain ⟨c, hCc⟩ : ∃ c, c = b + cc := ⟨_, rfl⟩
  have w1 : wz ((a : Int) + (bb : Int)) = (b : Int) := by rw [wz_id (by omega)]; omega
  have w2 : wz ((b : Int) + (cc : Int)) = (c : Int) := by rw [wz_id (by omega)]; omega
  have sf := site_fits
  have e32 : ∀ y : List (BitVec 8), y.length = 32 → eqA (.ar 32 L8) (.agg (.ar 32 L8) (bs y)) (.agg (.ar 32 L8) (bs y)) = some true := fun y hy => by rw [eqA_d32 y y hy hy, decide_eq_true rfl]
  simp only [↓amD, amU, Nat.reduceBEq, Nat.reduceAdd, Nat.reduceSub, Nat.reduceMul, Nat.reduceMod, Nat.reducePow, Nat.reduceLT, Nat.reduceDiv, Int.reduceToNat, BitVec.reduceToNat, zipEnv, Int.reduceLE, Int.reduceLT, Int.reduceNeg, BitVec.reduceEq, Int.reduceAdd, Int.reduceSub, Int.reduceMul, Nat.reduceLeDiff, Int.reduceEq, lv_app0, lv_appk, set_app0, set_appk, List.append_assoc, List.append_nil, Nat.add_assoc, H.awake, kAwakeO, site_mk, sf, ← hi, ← ha, ← hb, ← hc, w1, w2]
  refine kLoop_up (c - a) (fun j env rows => has env [(20, .raw (it ((a + j : Nat) : Int))), (19, .ptr (.ar 32 L8) 3 [0]), (18, .raw (it (c : Int))), (17, .raw (it (b : Int))), (16, .raw (it (a : Int))), (15, .ptr SSite 2 [0]), (13, .ptr (.ar 32 L8) 1 [0]), (7, .ptr (.ar 16 L8) 0 [0]), (1, .raw (u32 q)), (2, .raw (u16 i_))] ∧
    rows = [some ⟨.ar 16 L8, [.agg (.ar 16 L8) (bs id)]⟩, some ⟨.ar 32 L8, [.agg (.ar 32 L8) (bs x)]⟩, some ⟨SSite, [siteD ⟨id, q⟩]⟩, some ⟨.ar 32 L8, [.agg (.ar 32 L8) (bs (chS id q i j a x))]⟩]) ?_ ?_ ⟨?_, rfl⟩
  · rintro j hj env rows ⟨hh, rfl⟩ R hR
    simp only [has] at hh
    have e0 : (((a + j : Nat) : Int) < (c : Int)) = True := eq_true (by omega)
    have e1 : wz (((a + j : Nat) : Int) + 1) = ((a + (j + 1) : Nat) : Int) := by rw [wz_id (by omega)]; omega
    have kS := fun rows k => kRStep rows k id q i (a + j) _ hid hi2 (by omega) (chS_len id q i j a x hx)
    simp only [↓amD, amU, Nat.reduceBEq, Nat.reduceAdd, Nat.reduceSub, Nat.reduceMul, Nat.reduceMod, Nat.reducePow, Nat.reduceLT, Nat.reduceDiv, Int.reduceToNat, BitVec.reduceToNat, zipEnv, Int.reduceLE, Int.reduceLT, Int.reduceNeg, BitVec.reduceEq, Int.reduceAdd, Int.reduceSub, Int.reduceMul, Nat.reduceLeDiff, Int.reduceEq, lv_app0, lv_appk, set_app0, set_appk, List.append_assoc, List.append_nil, Nat.add_assoc, hh, e0, e1, ← hi, H.rstep, kS, ← chS_succ]
    exact hR _ _ ⟨by simp only [has, ↓amD, amU, Nat.reduceBEq, Nat.reduceAdd, Nat.reduceSub, Nat.reduceMul, Nat.reduceMod, Nat.reducePow, Nat.reduceLT, Nat.reduceDiv, Int.reduceToNat, BitVec.reduceToNat, zipEnv, Int.reduceLE, Int.reduceLT, Int.reduceNeg, BitVec.reduceEq, Int.reduceAdd, Int.reduceSub, Int.reduceMul, Nat.reduceLeDiff, Int.reduceEq, hh], rfl⟩
  · rintro env rows ⟨hh, rfl⟩ R
    simp only [has] at hh
    have e0 : (((a + (c - a) : Nat) : Int) < (c : Int)) = False := eq_false (by omega)
    have lw := chS_len id q i (c - a) a x hx
    have lh := chS_len id q i (b - a) a x hx
    have kC1 := fun rows k => kChain rows k ⟨id, q⟩ i a b x hid hi2 (by omega) (by omega) hx
    have kC2 := fun rows k => kChain rows k ⟨id, q⟩ i a c x hid hi2 (by omega) (by omega) hx
    have kC3 := fun rows k => kChain rows k ⟨id, q⟩ i b c (chS id q i (b - a) a x) hid hi2 (by omega) (by omega) lh
    have kC4 := fun rows k => kChain rows k ⟨id, q⟩ i c a x hid hi2 (by omega) (by omega) hx
    have hs : chS id q i (c - b) b (chS id q i (b - a) a x) = chS id q i (c - a) a x := by
      have := chS_add id q i (c - b) (b - a) a x
      rw [show b - a + (c - b) = c - a by omega, show a + (b - a) = b by omega] at this
      exact this.symm
    have hz : chS id q i (a - c) c x = x := by rw [show a - c = 0 by omega]; rfl
    have kS1 := fun rows k => kStep rows k ⟨id, q⟩ i a x hid hi2 (by omega) hx
    have kS2 := fun rows k => kRStep rows k id q i a x hid hi2 (by omega) hx
    have kS3 := fun rows k => kSecret rows k ⟨id, q⟩ i x hid hi2 hx
    have kS4 := fun rows k => kRStep rows k id q i 255 x hid hi2 (by decide) hx
    rw [show ((255 : Nat) : Int) = 255 from rfl, show stepS id q i 255 x = secS id q i x from rfl] at kS4
    have l1 := e32 _ lw
    have l2 := e32 _ hx
    have l3 := e32 (stepS id q i a x) (stepS_len _ _ _ _ _)
    have l4 := e32 (secS id q i x) (stepS_len _ _ _ _ _)
    simp only [hs, hz] at kC3 kC4
    simp only [↓amD, amU, Nat.reduceBEq, Nat.reduceAdd, Nat.reduceSub, Nat.reduceMul, Nat.reduceMod, Nat.reducePow, Nat.reduceLT, Nat.reduceDiv, Int.reduceToNat, BitVec.reduceToNat, zipEnv, Int.reduceLE, Int.reduceLT, Int.reduceNeg, BitVec.reduceEq, Int.reduceAdd, Int.reduceSub, Int.reduceMul, Nat.reduceLeDiff, Int.reduceEq, lv_app0, lv_appk, set_app0, set_appk, List.append_assoc, List.append_nil, Nat.add_assoc, hh, e0, ← hi, sf, H.chain, kC1, kC2, kC3, kC4, H.step, kS1, H.rstep, kS2, H.secret, kS3, kS4, l1, l2, l3, l4]
    by_cases hac : (a : Int) = (c : Int)
    · have h1 : ((a : Int) = (c : Int)) = True := eq_true hac
      simp only [↓amD, amU, Nat.reduceBEq, Nat.reduceAdd, Nat.reduceSub, Nat.reduceMul, Nat.reduceMod, Nat.reducePow, Nat.reduceLT, Nat.reduceDiv, Int.reduceToNat, BitVec.reduceToNat, zipEnv, Int.reduceLE, Int.reduceLT, Int.reduceNeg, BitVec.reduceEq, Int.reduceAdd, Int.reduceSub, Int.reduceMul, Nat.reduceLeDiff, Int.reduceEq, lv_app0, lv_appk, set_app0, set_appk, List.append_assoc, List.append_nil, Nat.add_assoc, hh, ← hi, sf, h1, decide_true, H.chain, kC1, kC2, kC3, kC4, H.step, kS1, H.rstep, kS2, H.secret, kS3, kS4, l1, l2, l3, l4]
    · have h1 : ((a : Int) = (c : Int)) = False := eq_false hac
      simp only [↓amD, amU, Nat.reduceBEq, Nat.reduceAdd, Nat.reduceSub, Nat.reduceMul, Nat.reduceMod, Nat.reducePow, Nat.reduceLT, Nat.reduceDiv, Int.reduceToNat, BitVec.reduceToNat, zipEnv, Int.reduceLE, Int.reduceLT, Int.reduceNeg, BitVec.reduceEq, Int.reduceAdd, Int.reduceSub, Int.reduceMul, Nat.reduceLeDiff, Int.reduceEq, lv_app0, lv_appk, set_app0, set_appk, List.append_assoc, List.append_nil, Nat.add_assoc, hh, ← hi, sf, h1, decide_false, H.chain, kC1, kC2, kC3, kC4, H.step, kS1, H.rstep, kS2, H.secret, kS3, kS4, l1, l2, l3, l4]
  · simp only [has, ↓amD, amU, Nat.reduceBEq, Nat.reduceAdd, Nat.reduceSub, Nat.reduceMul, Nat.reduceMod, Nat.reducePow, Nat.reduceLT, Nat.reduceDiv, Int.reduceToNat, BitVec.reduceToNat, zipEnv, Int.reduceLE, Int.reduceLT, Int.reduceNeg, BitVec.reduceEq, Int.reduceAdd, Int.reduceSub, Int.reduceMul, Nat.reduceLeDiff, Int.reduceEq]
    simp
theorem dl_list {l : List D} (h : ∀ d ∈ l, ∃ x : List (BitVec 8), d = .agg (.ar 32 L8) (bs x) ∧ x.length = 32) : ∃ xs : List (List (BitVec 8)), l = xs.map d32D ∧ ∀ x ∈ xs, x.length = 32 := by
  induction l with
  | nil => exact ⟨[], rfl, fun x hx => by cases hx⟩
  | cons d l ih =>
    obtain ⟨x, rfl, hx⟩ := h d (by simp)
    obtain ⟨xs, rfl, hxs⟩ := ih (fun d hd => h d (by simp [hd]))
    exact ⟨x :: xs, rfl, fun y hy => by
      rcases List.mem_cons.1 hy with rfl | hy
      · exact hx
      · exact hxs y hy⟩
set_option maxHeartbeats 4000000 in
theorem folds_law (C : Ctx) (H : OF C) (id : List (BitVec 8)) (q : BitVec 32) (c m0 : List (BitVec 8)) (xs : List (List (BitVec 8))) (hid : id.length = 16) (hc : c.length = 32) (hm0 : m0.length ≤ 9223372036854775807) (h32 : ∀ x ∈ xs, x.length = 32) (hl : xs.length ≤ 9223372036854775807) :
    afun C 5 r_law05_OtsFolds a_law05_OtsFolds [.agg (.ar 16 L8) (bs id), .raw (u32 q), .agg (.ar 32 L8) (bs c), .lst L8 (bs m0) false, .lst (.ar 32 L8) (xs.map d32D) false] [] (fun d rows => d = .raw (.bool true)) := by
  refine afun_mk rfl ?_
  unfold a_law05_OtsFolds r_law05_OtsFolds
  simp only [z_site0]
  have sf := site_fits
  have e32 : ∀ y : List (BitVec 8), y.length = 32 → eqA (.ar 32 L8) (.agg (.ar 32 L8) (bs y)) (.agg (.ar 32 L8) (bs y)) = some true := fun y hy => by rw [eqA_d32 y y hy hy, decide_eq_true rfl]
  have kc := fun rows k => kCut rows k (.lst L8 (bs m0) false) m0 200 (.inr ⟨false, rfl⟩) hm0 (by rw [List.length_take]; omega)
  have hml : (m0.take (200 : Int).toNat).length ≤ 200 := by rw [List.length_take]; exact Nat.min_le_left _ _
  generalize m0.take (200 : Int).toNat = m at kc hml
  have e10 : min (xs.length : Int) 10 = ((min xs.length 10 : Nat) : Int) := by omega
  have b0 : ∀ n : Nat, ((0 : Int) ≤ (n : Int)) = True := fun n => eq_true (by omega)
  have b1 : (((min xs.length 10 : Nat) : Int) ≤ (xs.length : Int)) = True := eq_true (by omega)
  obtain ⟨ys, hys⟩ : ∃ ys, ys = xs.take 10 := ⟨_, rfl⟩
  have hL : List.take (min xs.length 10 - 0) (xs.map d32D) = ys.map d32D := by
    rw [hys, ← List.map_take, Nat.sub_zero]
    congr 1
    rcases Nat.le_total xs.length 10 with h | h
    · rw [Nat.min_eq_left h, List.take_length, List.take_of_length_le h]
    · rw [Nat.min_eq_right h]
  have hy32 : ∀ x ∈ ys, x.length = 32 := fun x hx => h32 x (by rw [hys] at hx; exact List.mem_of_mem_take hx)
  have hyl : ys.length ≤ 10 := by rw [hys, List.length_take]; exact Nat.min_le_left _ _
  simp only [↓amD, amU, Nat.reduceBEq, Nat.reduceAdd, Nat.reduceSub, Nat.reduceMul, Nat.reduceMod, Nat.reducePow, Nat.reduceLT, Nat.reduceDiv, Int.reduceToNat, BitVec.reduceToNat, zipEnv, Int.reduceLE, Int.reduceLT, Int.reduceNeg, BitVec.reduceEq, Int.reduceAdd, Int.reduceSub, Int.reduceMul, Nat.reduceLeDiff, Int.reduceEq, lv_app0, lv_appk, set_app0, set_appk, List.append_assoc, List.append_nil, Nat.add_assoc, H.awake, kAwakeO, H.cut, kc, List.length_map, e10, b0, b1, site_mk, sf, hL, H.mash]
  refine Eq.mpr (kMash _ _ ⟨id, q⟩ c m _ (BsIn.own rfl _ rfl) hid hc) ?_
  simp only [↓amD, amU, Nat.reduceBEq, Nat.reduceAdd, Nat.reduceSub, Nat.reduceMul, Nat.reduceMod, Nat.reducePow, Nat.reduceLT, Nat.reduceDiv, Int.reduceToNat, BitVec.reduceToNat, zipEnv, Int.reduceLE, Int.reduceLT, Int.reduceNeg, BitVec.reduceEq, Int.reduceAdd, Int.reduceSub, Int.reduceMul, Nat.reduceLeDiff, Int.reduceEq, lv_app0, lv_appk, set_app0, set_appk, List.append_assoc, List.append_nil, Nat.add_assoc, sf, H.rmash]
  refine Eq.mpr (kRMash _ _ id q c m _ (BsIn.own rfl _ rfl) hid hc (by omega)) ?_
  have l1 := e32 (mashS id q c m) (sumS_len _)
  have l2 := e32 (foldS id q ys) (sumS_len _)
  simp only [↓amD, amU, Nat.reduceBEq, Nat.reduceAdd, Nat.reduceSub, Nat.reduceMul, Nat.reduceMod, Nat.reducePow, Nat.reduceLT, Nat.reduceDiv, Int.reduceToNat, BitVec.reduceToNat, zipEnv, Int.reduceLE, Int.reduceLT, Int.reduceNeg, BitVec.reduceEq, Int.reduceAdd, Int.reduceSub, Int.reduceMul, Nat.reduceLeDiff, Int.reduceEq, lv_app0, lv_appk, set_app0, set_appk, List.append_assoc, List.append_nil, Nat.add_assoc, sf, l1, H.fold]
  refine Eq.mpr (kFold _ _ ⟨id, q⟩ _ ys (RdIn.dlst ys _) hid hy32 (by omega)) ?_
  simp only [↓amD, amU, Nat.reduceBEq, Nat.reduceAdd, Nat.reduceSub, Nat.reduceMul, Nat.reduceMod, Nat.reducePow, Nat.reduceLT, Nat.reduceDiv, Int.reduceToNat, BitVec.reduceToNat, zipEnv, Int.reduceLE, Int.reduceLT, Int.reduceNeg, BitVec.reduceEq, Int.reduceAdd, Int.reduceSub, Int.reduceMul, Nat.reduceLeDiff, Int.reduceEq, lv_app0, lv_appk, set_app0, set_appk, List.append_assoc, List.append_nil, Nat.add_assoc, sf, H.rfold]
  refine Eq.mpr (kRFold _ _ id q _ ys (RdIn.dlst ys _) hid hy32 (by omega)) ?_
  simp only [↓amD, amU, Nat.reduceBEq, Nat.reduceAdd, Nat.reduceSub, Nat.reduceMul, Nat.reduceMod, Nat.reducePow, Nat.reduceLT, Nat.reduceDiv, Int.reduceToNat, BitVec.reduceToNat, zipEnv, Int.reduceLE, Int.reduceLT, Int.reduceNeg, BitVec.reduceEq, Int.reduceAdd, Int.reduceSub, Int.reduceMul, Nat.reduceLeDiff, Int.reduceEq, lv_app0, lv_appk, set_app0, set_appk, List.append_assoc, List.append_nil, Nat.add_assoc, l2]
end Job
end Go.Am
