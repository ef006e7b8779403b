/- LM-OTS: the law of parts -/
import Derived.Test.YtgbmfdnkcelkdaaDoorOt15
namespace Go.Am
set_option linter.unusedSimpArgs false
set_option linter.unusedVariables false
attribute [local congr] bnd_congr kCond_congr kGd_congr kPick_congr kCall_congr kIdx_congr kSlice_congr kLoop_congr cond_congr' aBin_congr aBounds_congr aApp_congr aCopy_congr kFn_congr
namespace Job
open Go.Am.F
set_option maxRecDepth 10000
theorem s0_eq : D.agg SSite [.agg (.ar 16 L8) [.raw (u8 0#8), .raw (u8 0#8), .raw (u8 0#8), .raw (u8 0#8), .raw (u8 0#8), .raw (u8 0#8), .raw (u8 0#8), .raw (u8 0#8), .raw (u8 0#8), .raw (u8 0#8), .raw (u8 0#8), .raw (u8 0#8), .raw (u8 0#8), .raw (u8 0#8), .raw (u8 0#8), .raw (u8 0#8)], .raw (u32 0#32)] = siteD ⟨zid, 0#32⟩ := rfl
theorem val4 (p : List (BitVec 8)) (h : 4 ≤ p.length) : ((p.take 4).foldl (fun n b => 256#64 * n + b.setWidth 64) 0#64).setWidth 32 = numS p := by
  match p, h with
  | a :: b :: c :: d :: l, _ =>
    have hb := numB_four a b c d
    have e : numS (a :: b :: c :: d :: l) = numS [a, b, c, d] := rfl
    rw [e]
    apply BitVec.eq_of_toNat_eq
    rw [← hb]
    have ha := a.isLt
    have hb := b.isLt
    have hc := c.isLt
    have hd := d.isLt
    simp only [List.take_succ_cons, List.take_zero, List.foldl_cons, List.foldl_nil, numB, BitVec.toNat_setWidth, BitVec.toNat_add, BitVec.toNat_mul]
    simp
    omega
theorem kValue (rows : Rows) (k : D → Rows → Prop) (d : D) (p : List (BitVec 8)) (hd : BsIn rows d p) (hp : p.length ≤ 64) : kCall fValue rows k [d] = k (.raw (u64 (p.foldl (fun n b => 256#64 * n + b.setWidth 64) 0#64))) rows := by
  refine (kCall_rd1 (.bs hd) (by simp [most]; omega) rfl k).trans ?_
  simp [shift, shiftRows]
theorem cv_i8 {n : Int} (h : -128 ≤ n ∧ n ≤ 127) : cvD .i64 (.raw (.int .i8 n)) = some (it n) := by
  have : IntKind.i64.wrap n = n := wz_id (by omega)
  simp only [cvD, it]
  rw [this]
theorem i8_wf {n : Int} (h : (Lit.int .i8 n).wf = true) : -128 ≤ n ∧ n ≤ 127 := by
  simp only [Lit.wf, Bool.and_eq_true, decide_eq_true_eq] at h
  exact h
set_option maxHeartbeats 4000000 in
theorem splits_law (C : Ctx) (H : OG C) (s0 : List (BitVec 8)) (hs0 : s0.length ≤ 9223372036854775807) (t : BitVec 8) (z : Int) (hz : -128 ≤ z ∧ z ≤ 127) :
    afun C 3 r_law05_OtsSplits a_law05_OtsSplits [.lst L8 (bs s0) false, .raw (u8 t), .raw (.int .i8 z)] [] (fun d rows => d = .raw (.bool true)) := by
  refine afun_mk rfl ?_
  unfold a_law05_OtsSplits r_law05_OtsSplits
  simp only [z32_eq]
  have e32 : ∀ y : List (BitVec 8), y.length = 32 → eqA (.ar 32 L8) (.agg (.ar 32 L8) (bs y)) (.agg (.ar 32 L8) (bs y)) = some true := fun y hy => by rw [eqA_d32 y y hy hy, decide_eq_true rfl]
  have kc := fun rows k => kCut rows k (.lst L8 (bs s0) false) s0 100 (.inr ⟨false, rfl⟩) hs0 (by rw [List.length_take]; omega)
  have hwl : (s0.take (100 : Int).toNat).length ≤ 100 := by rw [List.length_take]; exact Nat.min_le_left _ _
  generalize s0.take (100 : Int).toNat = w at kc hwl
  have hT := kind_ok t
  have kK := fun rows k => kKind rows k t
  generalize kindS t = T at *
  have kTb := fun rows k => kTable rows k T
  have hpt : pT T.toNat ≤ 265 := (parT_ok hT).2.2.1
  have hp34 : 34 ≤ pT T.toNat := by rcases okT_cases hT with e | e | e | e <;> rw [e] <;> decide
  generalize pT T.toNat = p at *
  have q1 : wz ((p : Int) + 1) = ((p + 1 : Nat) : Int) := wz_succ p (by omega)
  have q2 : wz (32 * ((p + 1 : Nat) : Int)) = ((32 * (p + 1) : Nat) : Int) := by rw [wz_id (by omega)]; omega
  obtain ⟨n, hn⟩ : ∃ n : Nat, (n : Int) = ((32 * (p + 1) : Nat) : Int) + z := ⟨(((32 * (p + 1) : Nat) : Int) + z).toNat, by omega⟩
  have q3 : wz (((32 * (p + 1) : Nat) : Int) + z) = (n : Int) := by rw [wz_id (by omega)]; omega
  have q4 : max (n : Int) 0 = (n : Int) := by omega
  have k4 := fun rows k => kNumN rows k (T.setWidth 64) 4 (by decide) (by decide)
  rw [show (4 : Int).toNat = 4 from rfl, numq4] at k4
  have cz := cv_i8 hz
  have b0 : ∀ n : Nat, ((0 : Int) ≤ (n : Int)) = True := fun n => eq_true (by omega)
  simp only [↓amD, amU, Nat.reduceBEq, Nat.reduceAdd, Nat.reduceSub, Nat.reduceMul, Nat.reduceMod, Nat.reducePow, Nat.reduceLT, Nat.reduceDiv, Int.reduceToNat, BitVec.reduceToNat, zipEnv, Int.reduceLE, Int.reduceLT, Int.reduceNeg, BitVec.reduceEq, Int.reduceAdd, Int.reduceSub, Int.reduceMul, Nat.reduceLeDiff, Int.reduceEq, lv_app0, lv_appk, set_app0, set_appk, List.append_assoc, List.append_nil, Nat.add_assoc, H.awake, kAwakeO, H.cut, kc, H.kind, kK, H.table, kTb, H.num, k4, q1, q2, cz, q3, q4, b0, Int.toNat_natCast, List.length_replicate]
  obtain ⟨LG, hLG⟩ : ∃ LG, LG = wordB T ++ List.replicate n 0#8 := ⟨_, rfl⟩
  have tk : List.take 4 (bs (wordB T)) ++ List.replicate n (D.raw (u8 0#8)) = bs LG := by
    rw [hLG, ← bs_app, bs_rep]; rfl
  have hll : LG.length = 4 + n := by rw [hLG, List.length_append, List.length_replicate]; rfl
  refine ⟨rfl, by omega, by omega, ?_⟩
  rw [tk, ← hll]
  have hlb : LG.length ≤ 100000 := by omega
  clear hLG tk
  have eqz := e32 z32 rfl
  have u32_ne : ∀ (x y : BitVec 32) (k : D → Prop), aBin .neq (u32 x) (u32 y) k = k (.raw (.bool (decide (x ≠ y)))) := fun x y k => by
    simp only [aBin, u32]
    by_cases h : x = y
    · subst h; simp
    · have : ¬ (x.toNat : Int) = (y.toNat : Int) := fun e => h (BitVec.eq_of_toNat_eq (by omega))
      simp [h, this]
  refine kLoop_up 2 (fun i env rows => has env [(55, .raw (it (i : Int))), (54, .raw (it 2)), (53, .sl .ref 3 [] 0 2 true)] ∧ live rows 0 = some ⟨L8, bs w⟩ ∧ live rows 2 = some ⟨L8, bs LG⟩ ∧ live rows 3 = some ⟨.ref, [.sl L8 0 [] 0 w.length false, .sl L8 2 [] 0 LG.length false]⟩) ?_ ?_ ⟨?_, rfl, rfl, rfl⟩
  · rintro i hi env rows ⟨hh, r0, r2, r3⟩ R hR
    simp only [has] at hh
    have e0 : ((i : Int) < 2) = True := eq_true (by omega)
    have e1 := wz_succ i (by omega)
    obtain ⟨s, r, hr, hd, hsl⟩ : ∃ (s : List (BitVec 8)) (r : Nat), live rows r = some ⟨L8, bs s⟩ ∧ [D.sl L8 0 [] 0 w.length false, .sl L8 2 [] 0 LG.length false][i]? = some (.sl L8 r [] 0 s.length false) ∧ s.length ≤ 100000 := by
      match i, hi with
      | 0, _ => exact ⟨w, 0, r0, rfl, by omega⟩
      | 1, _ => exact ⟨LG, 2, r2, rfl, hlb⟩
    have hb : BsIn rows (.sl L8 r [] 0 s.length false) s := BsIn.own hr _ rfl
    have hbA : ∀ L, BsIn (rows ++ L) (.sl L8 r [] 0 s.length false) s := fun L => BsIn.own (live_app hr L) _ rfl
    have hfit : (D.sl L8 r [] 0 s.length false).fits .ref = true := rfl
    have hfin : ∀ env' rows', has env' [(55, .raw (it ((i + 1 : Nat) : Int))), (54, .raw (it 2)), (53, .sl .ref 3 [] 0 2 true)] → (∃ L, rows' = rows ++ L) → R env' rows' := fun env' rows' h1 ⟨L, h2⟩ => hR _ _ ⟨h1, by rw [h2]; exact live_app r0 L, by rw [h2]; exact live_app r2 L, by rw [h2]; exact live_app r3 L⟩
    by_cases c4 : s.length < 4
    · have c4a : ((s.length : Int) < 4) = True := eq_true (by omega)
      have c4b : ((4 : Int) ≤ (s.length : Int)) = False := eq_false (by omega)
      have hev : splitE s = 2 := by rw [splitE, if_pos c4]
      have he : ¬ splitE s = 0 := by rw [hev]; decide
      have kT0 : ∀ rows k, kCall fTable rows k [.raw (u32 0#32)] = k (.tup [.raw (it 0), .raw (it 0), .raw (it 0)]) rows := fun rows k => kTable rows k 0#32
      have kSp := fun rows k d hd => kSplitE rows k d s hd (by omega) he
      have kCl := fun rows k d hd => kClaimE rows k ⟨zid, 0#32⟩ d (.raw (.slice none 0 0)) s [] hd (IsBs.to (.inl ⟨rfl, rfl⟩)) rfl (by omega) he
      rw [hev] at kSp kCl
      have kS0 := fun k => kSp rows k _ hb
      have kC1 := fun L k => kCl (rows ++ L) k _ (hbA L)
      simp only [↓amD, amU, Nat.reduceBEq, Nat.reduceAdd, Nat.reduceSub, Nat.reduceMul, Nat.reduceMod, Nat.reducePow, Nat.reduceLT, Nat.reduceDiv, Int.reduceToNat, BitVec.reduceToNat, zipEnv, Int.reduceLE, Int.reduceLT, Int.reduceNeg, BitVec.reduceEq, Int.reduceAdd, Int.reduceSub, Int.reduceMul, Nat.reduceLeDiff, Int.reduceEq, lv_app0, lv_appk, set_app0, set_appk, List.append_assoc, List.append_nil, Nat.add_assoc, hh, e0, e1, b0, r3, hd, hfit, c4a, c4b, decide_true, decide_false, H.table, kT0, H.split, kS0, s0_eq, H.claim, kC1, u32_ne, eqz, Bool.not_true, Bool.not_false, ne_eq, not_true_eq_false, not_false_eq_true, BitVec.reduceEq, BitVec.reduceNe]
      exact hfin _ _ (by simp only [has, ↓amD, amU, Nat.reduceBEq, Nat.reduceAdd, Nat.reduceSub, Nat.reduceMul, Nat.reduceMod, Nat.reducePow, Nat.reduceLT, Nat.reduceDiv, Int.reduceToNat, BitVec.reduceToNat, zipEnv, Int.reduceLE, Int.reduceLT, Int.reduceNeg, BitVec.reduceEq, Int.reduceAdd, Int.reduceSub, Int.reduceMul, Nat.reduceLeDiff, Int.reduceEq, hh]) ⟨_, rfl⟩
    have c4a : ((s.length : Int) < 4) = False := eq_false (by omega)
    have c4b : ((4 : Int) ≤ (s.length : Int)) = True := eq_true (by omega)
    have c4c : ((4 : Int) ≤ (s.length : Int)) = True := eq_true (by omega)
    have kV := fun ex k => kValue rows k (.sl L8 r [] 0 4 ex) (s.take 4) (by have := BsIn.sub (off := 0) (len := 4) (ex := ex) hr (by omega); rwa [List.drop_zero] at this) (by rw [List.length_take]; omega)
    have hcv : ((s.take 4).foldl (fun n b => 256#64 * n + b.setWidth 64) 0#64).setWidth 32 = sigT s := val4 s (by omega)
    have kTs := fun rows k => kTable rows k (sigT s)
    cases hk : okT (sigT s).toNat
    · obtain ⟨t1, t2, t3⟩ := okT_not hk
      rw [t1, t2, t3] at kTs
      have hev : splitE s = 6 := by rw [splitE, if_neg c4, hk]; rfl
      have he : ¬ splitE s = 0 := by rw [hev]; decide
      have kSp := fun rows k d hd => kSplitE rows k d s hd (by omega) he
      have kCl := fun rows k d hd => kClaimE rows k ⟨zid, 0#32⟩ d (.raw (.slice none 0 0)) s [] hd (IsBs.to (.inl ⟨rfl, rfl⟩)) rfl (by omega) he
      rw [hev] at kSp kCl
      have kS0 := fun k => kSp rows k _ hb
      have kC1 := fun L k => kCl (rows ++ L) k _ (hbA L)
      simp only [↓amD, amU, Nat.reduceBEq, Nat.reduceAdd, Nat.reduceSub, Nat.reduceMul, Nat.reduceMod, Nat.reducePow, Nat.reduceLT, Nat.reduceDiv, Int.reduceToNat, BitVec.reduceToNat, zipEnv, Int.reduceLE, Int.reduceLT, Int.reduceNeg, BitVec.reduceEq, Int.reduceAdd, Int.reduceSub, Int.reduceMul, Nat.reduceLeDiff, Int.reduceEq, lv_app0, lv_appk, set_app0, set_appk, List.append_assoc, List.append_nil, Nat.add_assoc, hh, e0, e1, b0, r3, hd, hfit, c4a, c4b, c4c, decide_true, decide_false, H.value, kV, hcv, H.table, kTs, H.split, kS0, s0_eq, H.claim, kC1, u32_ne, eqz, Bool.not_true, Bool.not_false, ne_eq, not_true_eq_false, not_false_eq_true, BitVec.reduceEq, BitVec.reduceNe]
      exact hfin _ _ (by simp only [has, ↓amD, amU, Nat.reduceBEq, Nat.reduceAdd, Nat.reduceSub, Nat.reduceMul, Nat.reduceMod, Nat.reducePow, Nat.reduceLT, Nat.reduceDiv, Int.reduceToNat, BitVec.reduceToNat, zipEnv, Int.reduceLE, Int.reduceLT, Int.reduceNeg, BitVec.reduceEq, Int.reduceAdd, Int.reduceSub, Int.reduceMul, Nat.reduceLeDiff, Int.reduceEq, hh]) ⟨_, rfl⟩
    have hpt2 : pT (sigT s).toNat ≤ 265 := (parT_ok hk).2.2.1
    have hw0 : ((wT (sigT s).toNat : Int) = 0) = False := eq_false (by have := w4_eq.1 (parT_ok hk).1; have e : (parT (sigT s).toNat).w = wT (sigT s).toNat := rfl; omega)
    have p1 : wz (32 * (pT (sigT s).toNat : Int)) = ((32 * pT (sigT s).toNat : Nat) : Int) := by rw [wz_id (by omega)]; omega
    have p2 : wz (36 + ((32 * pT (sigT s).toNat : Nat) : Int)) = ((36 + 32 * pT (sigT s).toNat : Nat) : Int) := by rw [wz_id (by omega)]; omega
    by_cases cl : s.length = 36 + 32 * pT (sigT s).toNat
    · have cl' : ((s.length : Int) = ((36 + 32 * pT (sigT s).toNat : Nat) : Int)) = True := eq_true (by omega)
      have he : splitE s = 0 := by rw [splitE, if_neg c4, hk, if_pos cl]; rfl
      have kS0 := fun k => kSplit rows k _ s hb (by omega) he
      have kC1 := fun L k => kClaim (rows ++ L) k ⟨zid, 0#32⟩ _ (.raw (.slice none 0 0)) s [] (hbA L) (IsBs.to (.inl ⟨rfl, rfl⟩)) rfl (by omega) he
      simp only [↓amD, amU, Nat.reduceBEq, Nat.reduceAdd, Nat.reduceSub, Nat.reduceMul, Nat.reduceMod, Nat.reducePow, Nat.reduceLT, Nat.reduceDiv, Int.reduceToNat, BitVec.reduceToNat, zipEnv, Int.reduceLE, Int.reduceLT, Int.reduceNeg, BitVec.reduceEq, Int.reduceAdd, Int.reduceSub, Int.reduceMul, Nat.reduceLeDiff, Int.reduceEq, lv_app0, lv_appk, set_app0, set_appk, List.append_assoc, List.append_nil, Nat.add_assoc, hh, e0, e1, b0, r3, hd, hfit, c4a, c4b, c4c, decide_true, decide_false, H.value, kV, hcv, H.table, kTs, hw0, p1, p2, cl', H.split, kS0, s0_eq, H.claim, kC1, u32_ne, eqz, Bool.not_true, Bool.not_false, ne_eq, not_true_eq_false, not_false_eq_true, BitVec.reduceEq, BitVec.reduceNe]
      exact hfin _ _ (by simp only [has, ↓amD, amU, Nat.reduceBEq, Nat.reduceAdd, Nat.reduceSub, Nat.reduceMul, Nat.reduceMod, Nat.reducePow, Nat.reduceLT, Nat.reduceDiv, Int.reduceToNat, BitVec.reduceToNat, zipEnv, Int.reduceLE, Int.reduceLT, Int.reduceNeg, BitVec.reduceEq, Int.reduceAdd, Int.reduceSub, Int.reduceMul, Nat.reduceLeDiff, Int.reduceEq, hh]) ⟨_, rfl⟩
    · have cl' : ((s.length : Int) = ((36 + 32 * pT (sigT s).toNat : Nat) : Int)) = False := eq_false (by omega)
      have hev : splitE s = 2 := by rw [splitE, if_neg c4, hk, if_neg cl]; rfl
      have he : ¬ splitE s = 0 := by rw [hev]; decide
      have kSp := fun rows k d hd => kSplitE rows k d s hd (by omega) he
      have kCl := fun rows k d hd => kClaimE rows k ⟨zid, 0#32⟩ d (.raw (.slice none 0 0)) s [] hd (IsBs.to (.inl ⟨rfl, rfl⟩)) rfl (by omega) he
      rw [hev] at kSp kCl
      have kS0 := fun k => kSp rows k _ hb
      have kC1 := fun L k => kCl (rows ++ L) k _ (hbA L)
      simp only [↓amD, amU, Nat.reduceBEq, Nat.reduceAdd, Nat.reduceSub, Nat.reduceMul, Nat.reduceMod, Nat.reducePow, Nat.reduceLT, Nat.reduceDiv, Int.reduceToNat, BitVec.reduceToNat, zipEnv, Int.reduceLE, Int.reduceLT, Int.reduceNeg, BitVec.reduceEq, Int.reduceAdd, Int.reduceSub, Int.reduceMul, Nat.reduceLeDiff, Int.reduceEq, lv_app0, lv_appk, set_app0, set_appk, List.append_assoc, List.append_nil, Nat.add_assoc, hh, e0, e1, b0, r3, hd, hfit, c4a, c4b, c4c, decide_true, decide_false, H.value, kV, hcv, H.table, kTs, hw0, p1, p2, cl', H.split, kS0, s0_eq, H.claim, kC1, u32_ne, eqz, Bool.not_true, Bool.not_false, ne_eq, not_true_eq_false, not_false_eq_true, BitVec.reduceEq, BitVec.reduceNe]
      exact hfin _ _ (by simp only [has, ↓amD, amU, Nat.reduceBEq, Nat.reduceAdd, Nat.reduceSub, Nat.reduceMul, Nat.reduceMod, Nat.reducePow, Nat.reduceLT, Nat.reduceDiv, Int.reduceToNat, BitVec.reduceToNat, zipEnv, Int.reduceLE, Int.reduceLT, Int.reduceNeg, BitVec.reduceEq, Int.reduceAdd, Int.reduceSub, Int.reduceMul, Nat.reduceLeDiff, Int.reduceEq, hh]) ⟨_, rfl⟩
  · rintro env rows ⟨hh, -⟩ R
    simp only [has] at hh
    have e0 : (((2 : Nat) : Int) < 2) = False := eq_false (by decide)
    have kp := fun rows k => kPublic0 rows k 5#32 ⟨zid, 0#32⟩ z32 rfl rfl (by decide)
    have ks := fun rows k => kSign0 rows k 0#32 ⟨zid, 0#32⟩ z32 z32 [] (.raw (.slice none 0 0)) (IsBs.to (.inl ⟨rfl, rfl⟩)) rfl rfl rfl (by decide)
    simp only [↓amD, amU, Nat.reduceBEq, Nat.reduceAdd, Nat.reduceSub, Nat.reduceMul, Nat.reduceMod, Nat.reducePow, Nat.reduceLT, Nat.reduceDiv, Int.reduceToNat, BitVec.reduceToNat, zipEnv, Int.reduceLE, Int.reduceLT, Int.reduceNeg, BitVec.reduceEq, Int.reduceAdd, Int.reduceSub, Int.reduceMul, Nat.reduceLeDiff, Int.reduceEq, lv_app0, lv_appk, set_app0, set_appk, List.append_assoc, List.append_nil, Nat.add_assoc, hh, e0, s0_eq, H.pub, kp, H.sign, ks]
  · simp only [has, ↓amD, amU, Nat.reduceBEq, Nat.reduceAdd, Nat.reduceSub, Nat.reduceMul, Nat.reduceMod, Nat.reducePow, Nat.reduceLT, Nat.reduceDiv, Int.reduceToNat, BitVec.reduceToNat, zipEnv, Int.reduceLE, Int.reduceLT, Int.reduceNeg, BitVec.reduceEq, Int.reduceAdd, Int.reduceSub, Int.reduceMul, Nat.reduceLeDiff, Int.reduceEq]
end Job
end Go.Am
