/- manifests: the law of the bodies -/
import Derived.Test.YtbipaoihfpklgaaDoorManA
namespace Go.Am
set_option linter.unusedSimpArgs false
set_option linter.unusedVariables false
attribute [local congr] bnd_congr kCond_congr kGd_congr kPick_congr kCall_congr kIdx_congr kSlice_congr kLoop_congr cond_congr' aBin_congr aBounds_congr aApp_congr aCopy_congr kFn_congr
namespace Job
open Go.Am.F
set_option maxRecDepth 10000
theorem bqtt : (true == true) = true := by decide
theorem bqtf : (true == false) = false := by decide
theorem bqft : (false == true) = false := by decide
theorem bqff : (false == false) = true := by decide
theorem mget_s (m : Man) : (manD m).get [1] = some (.raw (it m.s)) := rfl
theorem mget_d (m : Man) : (manD m).get [3] = some (.agg (.ar 32 L8) (bs m.dg)) := rfl
set_option maxHeartbeats 4000000 in
theorem bodies_ok (C : Ctx) (h5 : C.fn 5 = some fAwakeM) (h6 : C.fn 6 = some fCut) (h7 : C.fn 7 = some fBodyM) (h8 : C.fn 8 = some fRight) (h9 : C.fn 9 = some fOwn) (h10 : C.fn 10 = some fSame) (h11 : C.fn 11 = some fRefBodyM) (h12 : C.fn 12 = some fJoin) (h13 : C.fn 13 = some fParse) (h14 : C.fn 14 = some fParse)
    (m : Man) (hm : m.dg.length = 32) (d1 : D) (raw : List (BitVec 8)) (hraw : IsBs d1 raw) (hlen : raw.length ≤ 9223372036854775807) (at_ turn : BitVec 8) :
    afun C 4 r_law08_ManifestBodies a_law08_ManifestBodies [manD m, d1, .raw (u8 at_), .raw (u8 turn)] [] (fun d rows => d = .raw (.bool true)) := by
  refine afun_mk rfl ?_
  have kc := fun rows k => kCut rows k d1 raw 60 hraw hlen (by rw [List.length_take]; omega)
  have hrl : (raw.take 60).length ≤ 60 := by rw [List.length_take]; omega
  have e60 : (60 : Int).toNat = 60 := rfl
  simp only [e60] at kc
  generalize raw.take 60 = w at kc hrl
  unfold a_law08_ManifestBodies r_law08_ManifestBodies
  simp only [-List.reduceReplicate, manD_z]
  have hf := manD_fits
  have hfz := manD_fits zeroM
  generalize hz0 : manD zeroM = z0 at hfz ⊢
  cases hk : rightS m
  · have kb := fun rows k => kBodyN rows k m hm hk
    have kR := fun rows k => kRight rows k m
    rw [hk] at kR
    simp only [↓amD, amU, Nat.reduceBEq, Nat.reduceAdd, Nat.reduceSub, Nat.reduceMul, Nat.reduceMod, Nat.reducePow, Nat.reduceLT, Nat.reduceDiv, Int.reduceToNat, BitVec.reduceToNat, zipEnv, Int.reduceLE, Int.reduceLT, Int.reduceNeg, BitVec.reduceEq, Int.reduceAdd, Int.reduceSub, Int.reduceMul, Nat.reduceLeDiff, Int.reduceEq, h5, h6, h7, h8, h9, hf, kAwakeM, kc, kb, kOwn, kR, bqtt, bqtf, bqft, bqff, Bool.not_true, Bool.not_false, h12]
    refine Eq.mpr (kJoin _ _ _ 1 _ _ [[]] rfl rfl (.cons (IsBs.to (.inl ⟨rfl, rfl⟩)) .nil) (by simp) (by simp)) ?_
    simp only [↓amD, amU, Nat.reduceBEq, Nat.reduceAdd, Nat.reduceSub, Nat.reduceMul, Nat.reduceMod, Nat.reducePow, Nat.reduceLT, Nat.reduceDiv, Int.reduceToNat, BitVec.reduceToNat, zipEnv, Int.reduceLE, Int.reduceLT, Int.reduceNeg, BitVec.reduceEq, Int.reduceAdd, Int.reduceSub, Int.reduceMul, Nat.reduceLeDiff, Int.reduceEq, h12, List.flatten_cons, List.flatten_nil, List.append_nil, List.length_nil]
    refine Eq.mpr (kJoin _ _ _ 2 _ _ [[], w] rfl rfl (.cons (IsBs.to (.inl ⟨rfl, rfl⟩)) (.cons (BsIn.own rfl w.length rfl) .nil)) (by simp) (by simp; omega)) ?_
    simp only [↓amD, amU, Nat.reduceBEq, Nat.reduceAdd, Nat.reduceSub, Nat.reduceMul, Nat.reduceMod, Nat.reducePow, Nat.reduceLT, Nat.reduceDiv, Int.reduceToNat, BitVec.reduceToNat, zipEnv, Int.reduceLE, Int.reduceLT, Int.reduceNeg, BitVec.reduceEq, Int.reduceAdd, Int.reduceSub, Int.reduceMul, Nat.reduceLeDiff, Int.reduceEq, List.flatten_cons, List.flatten_nil, List.append_nil, List.nil_append]
    refine kLoop_for 3 (fun i => [(91, .sl .ref 6 [] 0 3 true), (92, .raw (it 3)), (93, .raw (it i))])
      (fun _ rows => live rows 1 = some ⟨L8, bs (w)⟩ ∧ live rows 3 = some ⟨L8, bs ([])⟩ ∧ live rows 5 = some ⟨L8, bs (w)⟩ ∧ live rows 6 = some ⟨.ref, [D.sl L8 1 [] 0 w.length false, D.sl L8 3 [] 0 0 false, D.sl L8 5 [] 0 w.length false]⟩) ?_ ?_ ?_ ?_
    · intro i hi env rows hh ⟨r1, r2, r3, r4⟩ R hR
      obtain ⟨d, q, hb, hq, hfit, hd⟩ : ∃ d q, (∀ l, BsIn (rows ++ l) d q) ∧ q.length ≤ 128 ∧ D.fits d .ref = true ∧ [D.sl L8 1 [] 0 w.length false, D.sl L8 3 [] 0 0 false, D.sl L8 5 [] 0 w.length false][i]? = some d := by
        match i, hi with
        | 0, _ => exact ⟨_, w, fun l => BsIn.own (live_app r1 l) _ rfl, by first | omega | simp, rfl, rfl⟩
        | 1, _ => exact ⟨_, [], fun l => BsIn.own (live_app r2 l) _ rfl, by first | omega | simp, rfl, rfl⟩
        | 2, _ => exact ⟨_, w, fun l => BsIn.own (live_app r3 l) _ rfl, by first | omega | simp, rfl, rfl⟩
      have kp : ∀ k, kCall fParse rows k [d] = k (.tup [manD (parseS q).1, .raw (it (parseS q).2)]) rows := fun k => by
        have := hb []
        rw [List.append_nil] at this
        exact kParse rows k d q this (by omega)
      have kp2 : ∀ l k, kCall fParse (rows ++ l) k [d] = k (.tup [manD (parseS q).1, .raw (it (parseS q).2)]) (rows ++ l) := fun l k => kParse _ k d q (hb l) (by omega)
      simp only [has] at hh
      have h1 : ((0 : Int) ≤ (i : Int)) = True := eq_true (by omega)
      have h2 : ((i : Int) < 3) = True := eq_true (by omega)
      have hw := wz_succ i (by omega)
      have fin : ∀ env' l, has env' [(91, .sl .ref 6 [] 0 3 true), (92, .raw (it 3)), (93, .raw (it ((i + 1 : Nat) : Int)))] → R env' (rows ++ l) := fun env' l h => hR env' _ h ⟨live_app r1 l, live_app r2 l, live_app r3 l, live_app r4 l⟩
      simp only [↓amD, amU, Nat.reduceBEq, Nat.reduceAdd, Nat.reduceSub, Nat.reduceMul, Nat.reduceMod, Nat.reducePow, Nat.reduceLT, Nat.reduceDiv, Int.reduceToNat, BitVec.reduceToNat, zipEnv, Int.reduceLE, Int.reduceLT, Int.reduceNeg, BitVec.reduceEq, Int.reduceAdd, Int.reduceSub, Int.reduceMul, Nat.reduceLeDiff, Int.reduceEq, lv_app0, lv_appk, set_app0, set_appk, List.append_assoc, List.append_nil, Nat.add_assoc, hh, h1, h2, r4, hd, hfit, h9, h13, h14, kp, kp2, kOwn, hf, hfz, eqA_man, hw, bqtt, bqtf, bqft, bqff, Bool.not_true, Bool.not_false]
      refine fin _ _ ?_
      simp only [has, ↓amD, amU, Nat.reduceBEq, Nat.reduceAdd, Nat.reduceSub, Nat.reduceMul, Nat.reduceMod, Nat.reducePow, Nat.reduceLT, Nat.reduceDiv, Int.reduceToNat, BitVec.reduceToNat, zipEnv, Int.reduceLE, Int.reduceLT, Int.reduceNeg, BitVec.reduceEq, Int.reduceAdd, Int.reduceSub, Int.reduceMul, Nat.reduceLeDiff, Int.reduceEq, hh]
    · intro env rows hh _ R
      simp only [has] at hh
      simp only [↓amD, amU, Nat.reduceBEq, Nat.reduceAdd, Nat.reduceSub, Nat.reduceMul, Nat.reduceMod, Nat.reducePow, Nat.reduceLT, Nat.reduceDiv, Int.reduceToNat, BitVec.reduceToNat, zipEnv, Int.reduceLE, Int.reduceLT, Int.reduceNeg, BitVec.reduceEq, Int.reduceAdd, Int.reduceSub, Int.reduceMul, Nat.reduceLeDiff, Int.reduceEq, hh]
    · simp only [has, ↓amD, amU, Nat.reduceBEq, Nat.reduceAdd, Nat.reduceSub, Nat.reduceMul, Nat.reduceMod, Nat.reducePow, Nat.reduceLT, Nat.reduceDiv, Int.reduceToNat, BitVec.reduceToNat, zipEnv, Int.reduceLE, Int.reduceLT, Int.reduceNeg, BitVec.reduceEq, Int.reduceAdd, Int.reduceSub, Int.reduceMul, Nat.reduceLeDiff, Int.reduceEq]
    · simp only [↓amD, amU, Nat.reduceBEq, Nat.reduceAdd, Nat.reduceSub, Nat.reduceMul, Nat.reduceMod, Nat.reducePow, Nat.reduceLT, Nat.reduceDiv, Int.reduceToNat, BitVec.reduceToNat, zipEnv, Int.reduceLE, Int.reduceLT, Int.reduceNeg, BitVec.reduceEq, Int.reduceAdd, Int.reduceSub, Int.reduceMul, Nat.reduceLeDiff, Int.reduceEq]
  · have kb := fun rows k => kBodyM rows k m hm hk
    have kr := fun rows k => kRefBodyM rows k m hm hk
    have kR := fun rows k => kRight rows k m
    rw [hk] at kR
    have b48 := body_len m hm
    have hp0 := parse_body m hm hk
    have hE := eqA_man m
    simp only [↓amD, amU, Nat.reduceBEq, Nat.reduceAdd, Nat.reduceSub, Nat.reduceMul, Nat.reduceMod, Nat.reducePow, Nat.reduceLT, Nat.reduceDiv, Int.reduceToNat, BitVec.reduceToNat, zipEnv, Int.reduceLE, Int.reduceLT, Int.reduceNeg, BitVec.reduceEq, Int.reduceAdd, Int.reduceSub, Int.reduceMul, Nat.reduceLeDiff, Int.reduceEq, h5, h6, h7, h8, h9, hf, kAwakeM, kc, kb, kr, kOwn, kR, bqtt, bqtf, bqft, bqff, Bool.not_true, Bool.not_false, h10, h11]
    refine Eq.mpr (kSame _ _ _ _ (bodyL m) (bodyL m) (BsIn.own rfl 48 b48.symm) (BsIn.own rfl 48 b48.symm) (by omega) (by omega)) ?_
    simp only [decide_true]
    simp only [↓amD, amU, Nat.reduceBEq, Nat.reduceAdd, Nat.reduceSub, Nat.reduceMul, Nat.reduceMod, Nat.reducePow, Nat.reduceLT, Nat.reduceDiv, Int.reduceToNat, BitVec.reduceToNat, zipEnv, Int.reduceLE, Int.reduceLT, Int.reduceNeg, BitVec.reduceEq, Int.reduceAdd, Int.reduceSub, Int.reduceMul, Nat.reduceLeDiff, Int.reduceEq, bqtt, bqtf, bqft, bqff, Bool.not_true, Bool.not_false, h12]
    refine Eq.mpr (kJoin _ _ _ 1 _ _ [bodyL m] rfl rfl (.cons (BsIn.own rfl 48 b48.symm) .nil) (by simp) (by simp; omega)) ?_
    simp only [↓amD, amU, Nat.reduceBEq, Nat.reduceAdd, Nat.reduceSub, Nat.reduceMul, Nat.reduceMod, Nat.reducePow, Nat.reduceLT, Nat.reduceDiv, Int.reduceToNat, BitVec.reduceToNat, zipEnv, Int.reduceLE, Int.reduceLT, Int.reduceNeg, BitVec.reduceEq, Int.reduceAdd, Int.reduceSub, Int.reduceMul, Nat.reduceLeDiff, Int.reduceEq, List.flatten_cons, List.flatten_nil, List.append_nil, b48, h13]
    refine Eq.mpr (kParse _ _ _ (bodyL m) (BsIn.own rfl 48 b48.symm) (by omega)) ?_
    have hq : (at_ % 48#8).toNat < 48 := by
      rw [BitVec.toNat_umod]; exact Nat.mod_lt _ (by decide)
    have hq1 : (0 : Int) ≤ ((at_ % 48#8).toNat : Int) := by omega
    have hq2 : (((at_ % 48#8).toNat : Int) < 48) := by omega
    have bget := bs_get (l := bodyL m) (i := (at_ % 48#8).toNat) (by omega)
    simp only [hp0]
    simp only [↓amD, amU, Nat.reduceBEq, Nat.reduceAdd, Nat.reduceSub, Nat.reduceMul, Nat.reduceMod, Nat.reducePow, Nat.reduceLT, Nat.reduceDiv, Int.reduceToNat, BitVec.reduceToNat, zipEnv, Int.reduceLE, Int.reduceLT, Int.reduceNeg, BitVec.reduceEq, Int.reduceAdd, Int.reduceSub, Int.reduceMul, Nat.reduceLeDiff, Int.reduceEq, hf, hfz, hE, hq1, hq2, bget, bqtt, bqtf, bqft, bqff, Bool.not_true, Bool.not_false, h12]
    generalize hbb : (bodyL m).set (at_ % 48#8).toNat ((bodyL m).getD (at_ % 48#8).toNat 0#8 ^^^ turn) = bb
    have hbl : bb.length = 48 := by rw [← hbb, List.length_set]; exact b48
    refine Eq.mpr (kJoin _ _ _ 2 _ _ [bodyL m, w] rfl rfl (.cons (BsIn.own rfl 48 b48.symm) (.cons (BsIn.own rfl w.length rfl) .nil)) (by simp) (by simp; omega)) ?_
    simp only [↓amD, amU, Nat.reduceBEq, Nat.reduceAdd, Nat.reduceSub, Nat.reduceMul, Nat.reduceMod, Nat.reducePow, Nat.reduceLT, Nat.reduceDiv, Int.reduceToNat, BitVec.reduceToNat, zipEnv, Int.reduceLE, Int.reduceLT, Int.reduceNeg, BitVec.reduceEq, Int.reduceAdd, Int.reduceSub, Int.reduceMul, Nat.reduceLeDiff, Int.reduceEq, bs_set, hbb, List.length_append, b48, List.flatten_cons, List.flatten_nil, List.append_nil, List.nil_append]
    refine kLoop_for 3 (fun i => [(91, .sl .ref 9 [] 0 3 true), (92, .raw (it 3)), (93, .raw (it i))])
      (fun _ rows => live rows 1 = some ⟨L8, bs (w)⟩ ∧ live rows 5 = some ⟨L8, bs (bb)⟩ ∧ live rows 8 = some ⟨L8, bs (bodyL m ++ w)⟩ ∧ live rows 9 = some ⟨.ref, [D.sl L8 1 [] 0 w.length false, D.sl L8 5 [] 0 48 false, D.sl L8 8 [] 0 (48 + w.length) false]⟩) ?_ ?_ ?_ ?_
    · intro i hi env rows hh ⟨r1, r2, r3, r4⟩ R hR
      obtain ⟨d, q, hb, hq, hfit, hd⟩ : ∃ d q, (∀ l, BsIn (rows ++ l) d q) ∧ q.length ≤ 128 ∧ D.fits d .ref = true ∧ [D.sl L8 1 [] 0 w.length false, D.sl L8 5 [] 0 48 false, D.sl L8 8 [] 0 (48 + w.length) false][i]? = some d := by
        match i, hi with
        | 0, _ => exact ⟨_, w, fun l => BsIn.own (live_app r1 l) _ rfl, by first | omega | (rw [List.length_append]; omega), rfl, rfl⟩
        | 1, _ => exact ⟨_, bb, fun l => BsIn.own (live_app r2 l) _ hbl.symm, by first | omega | (rw [List.length_append]; omega), rfl, rfl⟩
        | 2, _ => exact ⟨_, bodyL m ++ w, fun l => BsIn.own (live_app r3 l) _ (by rw [List.length_append, b48]), by first | omega | (rw [List.length_append]; omega), rfl, rfl⟩
      have kp : ∀ k, kCall fParse rows k [d] = k (.tup [manD (parseS q).1, .raw (it (parseS q).2)]) rows := fun k => by
        have := hb []
        rw [List.append_nil] at this
        exact kParse rows k d q this (by omega)
      have kp2 : ∀ l k, kCall fParse (rows ++ l) k [d] = k (.tup [manD (parseS q).1, .raw (it (parseS q).2)]) (rows ++ l) := fun l k => kParse _ k d q (hb l) (by omega)
      simp only [has] at hh
      have h1 : ((0 : Int) ≤ (i : Int)) = True := eq_true (by omega)
      have h2 : ((i : Int) < 3) = True := eq_true (by omega)
      have hw := wz_succ i (by omega)
      have fin : ∀ env' l, has env' [(91, .sl .ref 9 [] 0 3 true), (92, .raw (it 3)), (93, .raw (it ((i + 1 : Nat) : Int)))] → R env' (rows ++ l) := fun env' l h => hR env' _ h ⟨live_app r1 l, live_app r2 l, live_app r3 l, live_app r4 l⟩
      simp only [↓amD, amU, Nat.reduceBEq, Nat.reduceAdd, Nat.reduceSub, Nat.reduceMul, Nat.reduceMod, Nat.reducePow, Nat.reduceLT, Nat.reduceDiv, Int.reduceToNat, BitVec.reduceToNat, zipEnv, Int.reduceLE, Int.reduceLT, Int.reduceNeg, BitVec.reduceEq, Int.reduceAdd, Int.reduceSub, Int.reduceMul, Nat.reduceLeDiff, Int.reduceEq, lv_app0, lv_appk, set_app0, set_appk, List.append_assoc, List.append_nil, Nat.add_assoc, hh, h1, h2, r4, hd, hfit, h9, h13, h14, kp, kp2, kOwn, hf, hfz, eqA_man, hw, bqtt, bqtf, bqft, bqff, Bool.not_true, Bool.not_false]
      refine fin _ _ ?_
      simp only [has, ↓amD, amU, Nat.reduceBEq, Nat.reduceAdd, Nat.reduceSub, Nat.reduceMul, Nat.reduceMod, Nat.reducePow, Nat.reduceLT, Nat.reduceDiv, Int.reduceToNat, BitVec.reduceToNat, zipEnv, Int.reduceLE, Int.reduceLT, Int.reduceNeg, BitVec.reduceEq, Int.reduceAdd, Int.reduceSub, Int.reduceMul, Nat.reduceLeDiff, Int.reduceEq, hh]
    · intro env rows hh _ R
      simp only [has] at hh
      simp only [↓amD, amU, Nat.reduceBEq, Nat.reduceAdd, Nat.reduceSub, Nat.reduceMul, Nat.reduceMod, Nat.reducePow, Nat.reduceLT, Nat.reduceDiv, Int.reduceToNat, BitVec.reduceToNat, zipEnv, Int.reduceLE, Int.reduceLT, Int.reduceNeg, BitVec.reduceEq, Int.reduceAdd, Int.reduceSub, Int.reduceMul, Nat.reduceLeDiff, Int.reduceEq, hh]
    · simp only [has, ↓amD, amU, Nat.reduceBEq, Nat.reduceAdd, Nat.reduceSub, Nat.reduceMul, Nat.reduceMod, Nat.reducePow, Nat.reduceLT, Nat.reduceDiv, Int.reduceToNat, BitVec.reduceToNat, zipEnv, Int.reduceLE, Int.reduceLT, Int.reduceNeg, BitVec.reduceEq, Int.reduceAdd, Int.reduceSub, Int.reduceMul, Nat.reduceLeDiff, Int.reduceEq]
    · simp only [↓amD, amU, Nat.reduceBEq, Nat.reduceAdd, Nat.reduceSub, Nat.reduceMul, Nat.reduceMod, Nat.reducePow, Nat.reduceLT, Nat.reduceDiv, Int.reduceToNat, BitVec.reduceToNat, zipEnv, Int.reduceLE, Int.reduceLT, Int.reduceNeg, BitVec.reduceEq, Int.reduceAdd, Int.reduceSub, Int.reduceMul, Nat.reduceLeDiff, Int.reduceEq]
end Job
end Go.Am
