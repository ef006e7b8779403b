/- SHA-256: the compression, as the reference makes it -/
import Derived.Test.YtbipaoihfpklgaaDoorSha3
namespace Go.Am
set_option linter.unusedSimpArgs false
set_option linter.unusedVariables false
attribute [local congr] bnd_congr kCond_congr kGd_congr kPick_congr kCall_congr kIdx_congr kSlice_congr kLoop_congr cond_congr' aBin_congr aBounds_congr aApp_congr aCopy_congr kFn_congr
namespace Job
open Go.Am.F
set_option maxRecDepth 10000
theorem sch_take (n k : Nat) (w : List (BitVec 32)) : (sch (n + k) w).take (w.length + n) = sch n w := by
  induction k with
  | zero => rw [Nat.add_zero, ← sch_len n w, List.take_length]
  | succ k ih => rw [← Nat.add_assoc, sch, List.take_append_of_le_length (by rw [sch_len]; omega), ih]
theorem getD_take {l : List (BitVec 32)} {i n : Nat} (h : i < n) : (l.take n).getD i 0#32 = l.getD i 0#32 := by
  simp [List.getD, List.getElem?_take, h]
theorem words_getD {n i : Nat} (b : List (BitVec 8)) (h : i < n) : (words n b).getD i 0#32 = numS ((b.drop (4 * i)).take 4) := by
  simp [words, List.getD, h]
theorem schW_lo {b : List (BitVec 8)} {i : Nat} (h : i < 16) : (schW b).getD i 0#32 = numS ((b.drop (4 * i)).take 4) := by
  have := sch_take 0 48 (words 16 b)
  rw [words_len, Nat.zero_add, Nat.add_zero] at this
  rw [← getD_take (n := 16) h, schW, this, sch, words_getD _ h]
theorem schW_hi {b : List (BitVec 8)} {n : Nat} (h : n < 48) : (schW b).getD (16 + n) 0#32 = nxt ((schW b).take (16 + n)) (16 + n) := by
  have h1 := sch_take n (48 - n) (words 16 b)
  have h2 := sch_take (n + 1) (47 - n) (words 16 b)
  rw [words_len, show n + (48 - n) = 48 by omega] at h1
  rw [words_len, show n + 1 + (47 - n) = 48 by omega] at h2
  rw [← getD_take (n := 16 + (n + 1)) (by omega), schW, h1, h2, sch]
  have : (sch n (words 16 b)).length = 16 + n := by rw [sch_len, words_len]
  rw [this]
  simp [List.getD, List.getElem?_append_right (by omega : (sch n (words 16 b)).length ≤ 16 + n), this]
theorem take_snoc {l : List (BitVec 32)} {i : Nat} (h : i < l.length) : l.take (i + 1) = l.take i ++ [l.getD i 0#32] := take_succ_getD h
theorem four {v : List (BitVec 8)} (h : v.length = 4) : ∃ a b c d, v = [a, b, c, d] := by
  match v, h with
  | [a, b, c, d], _ => exact ⟨a, b, c, d, rfl⟩
def fRoots : Fn
  | [], [] => some (w64D roundsL, [])
  | _, _ => none
theorem roots_ok (C : Ctx) (hC : CtxOK C P) : Meets C.glob P 37 (Fn.run fRoots) := by
  refine fn_meets (m_ref01_roots C hC) fun ds rows r h => ?_
  unfold fRoots at h
  split at h
  · cases h
    refine ⟨rfl, afun_mk rfl ?_⟩
    unfold a_ref01_roots r_ref01_roots
    simp only [↓amD, amU, Nat.reduceBEq, Nat.reduceAdd, Nat.reduceSub, Nat.reduceMul, Nat.reduceMod, Nat.reducePow, Nat.reduceLT, Nat.reduceDiv, Int.reduceToNat, BitVec.reduceToNat, zipEnv, Int.reduceLE, Int.reduceLT, Int.reduceNeg, BitVec.reduceEq, Int.reduceAdd, Int.reduceSub, Int.reduceMul, Nat.reduceLeDiff, Int.reduceEq]
    exact .val _ rfl
  · cases h
theorem kRoots (rows : Rows) (k : D → Rows → Prop) : kCall fRoots rows k [] = k (.agg (.ar 64 L32) (us roundsL)) rows := by
  refine (kCall_val rfl (r := (w64D roundsL, [])) rfl).trans ?_
  simp [shift, shiftRows, w64D, Sh.pure]
theorem not_sub (x : BitVec 32) : 4294967295#32 - x = ~~~x := by
  apply BitVec.eq_of_toNat_eq
  have := x.isLt
  rw [BitVec.toNat_sub, BitVec.toNat_not]
  simp; omega
noncomputable def fPressR : Fn := fn2 (rdOf h8D) rdBs (fun h b => decide (h.length = 8) && decide (b.length = 64)) fun h b => (h8D (pressS h b), [])
theorem zip_comm (x y : List (BitVec 32)) : List.zipWith (· + ·) x y = List.zipWith (· + ·) y x := by
  rw [List.zipWith_comm]; congr 1; funext a b; exact BitVec.add_comm _ _
theorem pressR_ok (C : Ctx) (hC : CtxOK C P) (hv : C.fn 26 = some fValue) (ht : C.fn 36 = some fTurn) (hr : C.fn 37 = some fRoots) : Meets C.glob P 29 (Fn.run fPressR) := by
  refine fn_meetsN (m_ref01_Press C hC) fun ds rows r h => ?_
  obtain ⟨d, e, h0, b, rfl, rfl, hd, he, hp, rfl⟩ := fn2_some h
  cases rdOf_some hd
  obtain ⟨x, hx⟩ := rdBs_nrm he
  simp only [Bool.and_eq_true, decide_eq_true_eq] at hp
  obtain ⟨hp, hb⟩ := hp
  refine ⟨rfl, _, .cons (.refl _) (.cons hx .nil), afun_mk rfl ?_⟩
  clear h hd he hx
  unfold a_ref01_Press r_ref01_Press
  simp only [h8D, ↓amD, amU, Nat.reduceBEq, Nat.reduceAdd, Nat.reduceSub, Nat.reduceMul, Nat.reduceMod, Nat.reducePow, Nat.reduceLT, Nat.reduceDiv, Int.reduceToNat, BitVec.reduceToNat, zipEnv, Int.reduceLE, Int.reduceLT, Int.reduceNeg, BitVec.reduceEq, Int.reduceAdd, Int.reduceSub, Int.reduceMul, Nat.reduceLeDiff, Int.reduceEq]
  have hwl := schW_len b
  refine kLoop_up 64 (fun i env rows => has env [(24, .raw (it (i : Int))), (1, .lst L8 (bs b) x), (23, .raw (it 64)), (2, .ptr (.ar 8 L32) 0 [0]), (4, .ptr (.ar 8 L32) 1 [0]), (5, .sl L32 2 [] 0 64 true)] ∧
    ∃ z, rows = [some ⟨.ar 8 L32, [.agg (.ar 8 L32) (us h0)]⟩, some ⟨.ar 8 L32, [z]⟩, some ⟨L32, us (fill ((schW b).take i) 64)⟩]) ?_ ?_ ⟨?_, .agg (.ar 8 L32) (List.replicate 8 (.raw (u32 0#32))), ?_⟩
  · rintro i hi env rows ⟨hh, z, rfl⟩ R hR
    simp only [has] at hh
    obtain ⟨h24, h1, h23, h2, h4, h5, -⟩ := hh
    have e0 : ((i : Int) < 64) = True := eq_true (by omega)
    have e11 := wz_succ i (by omega)
    have e9 : ((0 : Int) ≤ (i : Int)) = True := eq_true (by omega)
    have hl : ((schW b).take i).length = i := by rw [List.length_take]; omega
    have hfl : (fill ((schW b).take i) 64).length = 64 := fill_len (by omega)
    have g5 : (us (fill ((schW b).take i) 64))[i]? = some (.raw (u32 ((fill ((schW b).take i) 64).getD i 0#32))) := us_get (by omega)
    have es0 : (fill ((schW b).take i) 64).set i ((schW b).getD i 0#32) = fill ((schW b).take (i + 1)) 64 := by
      have := fill_set (l := (schW b).take i) (n := 64) (by omega) ((schW b).getD i 0#32)
      rw [hl] at this
      rw [this, ← take_snoc (by omega)]
    by_cases hlo : i < 16
    · have hlo' : ((i : Int) < 16) = True := eq_true (by omega)
      have e1 : ((0 : Int) ≤ 4 * (i : Int)) = True := eq_true (by omega)
      have e2 : wz (4 * (i : Int)) = 4 * (i : Int) := wz_id (by omega)
      have e3 : wz (4 * (i : Int) + 4) = 4 * (i : Int) + 4 := wz_id (by omega)
      have e4 : (4 * (i : Int) ≤ 4 * (i : Int) + 4) = True := eq_true (by omega)
      have e5 : (4 * (i : Int) + 4 ≤ 64) = True := eq_true (by omega)
      have e6 : (4 * (i : Int)).toNat = 4 * i := by omega
      have e7 : (4 * (i : Int) + 4).toNat = 4 * i + 4 := by omega
      have e8 : 4 * i + 4 - 4 * i = 4 := by omega
      have h4l : ((b.drop (4 * i)).take 4).length = 4 := by rw [List.length_take, List.length_drop]; omega
      obtain ⟨va, vb, vc, vd, hq⟩ := four h4l
      have kv := fun rows k e => kVal rows k ((b.drop (4 * i)).take 4) e (by omega)
      have ev : (valS ((b.drop (4 * i)).take 4)).setWidth 32 = (schW b).getD i 0#32 := by rw [schW_lo hlo, hq, val_num]
      have ee : ((4 * i + 4 : Nat) : Int) = 4 * (i : Int) + 4 := by omega
      simp only [↓amD, amU, Nat.reduceBEq, Nat.reduceAdd, Nat.reduceSub, Nat.reduceMul, Nat.reduceMod, Nat.reducePow, Nat.reduceLT, Nat.reduceDiv, Int.reduceToNat, BitVec.reduceToNat, zipEnv, Int.reduceLE, Int.reduceLT, Int.reduceNeg, BitVec.reduceEq, Int.reduceAdd, Int.reduceSub, Int.reduceMul, Nat.reduceLeDiff, Int.reduceEq, h24, h1, h23, h2, h4, h5, hv, hlo', e0, e1, e2, e3, e4, e5, e6, e7, e8, e9, e11, bs_len, hb, bs_drop, bs_take, kv, ev, g5, us_set, es0, decide_true, us_len, hfl, Int.cast_ofNat_Int]
      exact hR _ _ ⟨by simp only [has, ↓amD, amU, Nat.reduceBEq, Nat.reduceAdd, Nat.reduceSub, Nat.reduceMul, Nat.reduceMod, Nat.reducePow, Nat.reduceLT, Nat.reduceDiv, Int.reduceToNat, BitVec.reduceToNat, zipEnv, Int.reduceLE, Int.reduceLT, Int.reduceNeg, BitVec.reduceEq, Int.reduceAdd, Int.reduceSub, Int.reduceMul, Nat.reduceLeDiff, Int.reduceEq, h1, h23, h2, h4, h5], z, rfl⟩
    · obtain ⟨j, rfl⟩ : ∃ j, i = 16 + j := ⟨i - 16, by omega⟩
      have hlo' : (((16 + j : Nat) : Int) < 16) = False := eq_false (by omega)
      have a1 : wz (((16 + j : Nat) : Int) - 15) = ((16 + j - 15 : Nat) : Int) := by rw [wz_id (by omega)]; omega
      have a2 : wz (((16 + j : Nat) : Int) - 2) = ((16 + j - 2 : Nat) : Int) := by rw [wz_id (by omega)]; omega
      have a3 : wz (((16 + j : Nat) : Int) - 16) = ((16 + j - 16 : Nat) : Int) := by rw [wz_id (by omega)]; omega
      have a4 : wz (((16 + j : Nat) : Int) - 7) = ((16 + j - 7 : Nat) : Int) := by rw [wz_id (by omega)]; omega
      have b1 : ∀ j : Nat, ((0 : Int) ≤ (j : Int)) = True := fun j => eq_true (by omega)
      have c1 : (((16 + j - 15 : Nat) : Int) < 64) = True := eq_true (by omega)
      have c2 : (((16 + j - 2 : Nat) : Int) < 64) = True := eq_true (by omega)
      have c3 : (((16 + j - 16 : Nat) : Int) < 64) = True := eq_true (by omega)
      have c4 : (((16 + j - 7 : Nat) : Int) < 64) = True := eq_true (by omega)
      have gg : ∀ m, m < 16 + j → (us (fill ((schW b).take (16 + j)) 64))[m]? = some (.raw (u32 (((schW b).take (16 + j)).getD m 0#32))) := fun m hm => by
        rw [us_get (by omega), fill_get (by omega)]
      have g1 := gg (16 + j - 15) (by omega)
      have g2 := gg (16 + j - 2) (by omega)
      have g3 := gg (16 + j - 16) (by omega)
      have g4 := gg (16 + j - 7) (by omega)
      have r1 := fun rows k x => kTurn rows k x 7 (by decide) (by decide)
      have r2 := fun rows k x => kTurn rows k x 18 (by decide) (by decide)
      have r3 := fun rows k x => kTurn rows k x 17 (by decide) (by decide)
      have r4 := fun rows k x => kTurn rows k x 19 (by decide) (by decide)
      simp only [Int.cast_ofNat_Int] at r1 r2 r3 r4
      have hn := schW_hi (b := b) (n := j) (by omega)
      simp only [nxt, sg0, sg1] at hn
      simp only [↓amD, amU, Nat.reduceBEq, Nat.reduceAdd, Nat.reduceSub, Nat.reduceMul, Nat.reduceMod, Nat.reducePow, Nat.reduceLT, Nat.reduceDiv, Int.reduceToNat, BitVec.reduceToNat, zipEnv, Int.reduceLE, Int.reduceLT, Int.reduceNeg, BitVec.reduceEq, Int.reduceAdd, Int.reduceSub, Int.reduceMul, Nat.reduceLeDiff, Int.reduceEq, h24, h1, h23, h2, h4, h5, ht, hlo', e0, a1, a2, a3, a4, b1, c1, c2, c3, c4, g1, g2, g3, g4, g5, r1, r2, r3, r4, e11, ← hn, us_set, es0, decide_true, decide_false, us_len, hfl, Int.cast_ofNat_Int]
      exact hR _ _ ⟨by simp only [has, ↓amD, amU, Nat.reduceBEq, Nat.reduceAdd, Nat.reduceSub, Nat.reduceMul, Nat.reduceMod, Nat.reducePow, Nat.reduceLT, Nat.reduceDiv, Int.reduceToNat, BitVec.reduceToNat, zipEnv, Int.reduceLE, Int.reduceLT, Int.reduceNeg, BitVec.reduceEq, Int.reduceAdd, Int.reduceSub, Int.reduceMul, Nat.reduceLeDiff, Int.reduceEq, h1, h23, h2, h4, h5], z, rfl⟩
  · rintro env rows ⟨hh, z, rfl⟩ R
    simp only [has] at hh
    obtain ⟨h24, h1, h23, h2, h4, h5, -⟩ := hh
    have hf : fill ((schW b).take 64) 64 = schW b := by rw [← hwl, List.take_length]; exact fill_full rfl
    rw [hf]
    obtain ⟨a0, b0, c0, d0, e0, f0, g0, i0, hv8⟩ := eight hp
    have hu : us [a0, b0, c0, d0, e0, f0, g0, i0] = [.raw (u32 a0), .raw (u32 b0), .raw (u32 c0), .raw (u32 d0), .raw (u32 e0), .raw (u32 f0), .raw (u32 g0), .raw (u32 i0)] := rfl
    rw [hv8]
    simp only [↓amD, amU, Nat.reduceBEq, Nat.reduceAdd, Nat.reduceSub, Nat.reduceMul, Nat.reduceMod, Nat.reducePow, Nat.reduceLT, Nat.reduceDiv, Int.reduceToNat, BitVec.reduceToNat, zipEnv, Int.reduceLE, Int.reduceLT, Int.reduceNeg, BitVec.reduceEq, Int.reduceAdd, Int.reduceSub, Int.reduceMul, Nat.reduceLeDiff, Int.reduceEq, h24, h1, h23, h2, h4, h5, hu, hr, kRoots]
    refine kLoop_up 64 (fun i env rows => ∃ va vb vc vd ve vf vg vh, rnds (schW b) i h0 = [va, vb, vc, vd, ve, vf, vg, vh] ∧ has env [(117, .raw (it (i : Int))), (116, .raw (it 64)), (2, .ptr (.ar 8 L32) 0 [0]), (4, .ptr (.ar 8 L32) 1 [0]), (5, .sl L32 2 [] 0 64 true), (15, .ptr (.ar 64 L32) 3 [0]),
        (7, .raw (u32 va)), (8, .raw (u32 vb)), (9, .raw (u32 vc)), (10, .raw (u32 vd)), (11, .raw (u32 ve)), (12, .raw (u32 vf)), (13, .raw (u32 vg)), (14, .raw (u32 vh))] ∧
      rows = [some ⟨.ar 8 L32, [.agg (.ar 8 L32) (us h0)]⟩, some ⟨.ar 8 L32, [z]⟩, some ⟨L32, us (schW b)⟩, some ⟨.ar 64 L32, [.agg (.ar 64 L32) (us roundsL)]⟩]) ?_ ?_ ⟨_, _, _, _, _, _, _, _, hv8, ?_, by rw [hv8]; rfl⟩
    · rintro i hi env rows ⟨va, vb, vc, vd, ve, vf, vg, vh, hvv, hh, rfl⟩ R hR
      simp only [has] at hh
      obtain ⟨h117, h116, h2, h4, h5, h15, q7, q8, q9, q10, q11, q12, q13, q14, -⟩ := hh
      have e0 : ((i : Int) < 64) = True := eq_true (by omega)
      have e11 := wz_succ i (by omega)
      have e9 : ((0 : Int) ≤ (i : Int)) = True := eq_true (by omega)
      have g1 : (us (schW b))[i]? = some (.raw (u32 ((schW b).getD i 0#32))) := us_get (by rw [schW_len]; omega)
      have g2 : (us roundsL)[i]? = some (.raw (u32 (roundsL.getD i 0#32))) := us_get (by simp [roundsL]; omega)
      have r1 := fun rows k x => kTurn rows k x 6 (by decide) (by decide)
      have r2 := fun rows k x => kTurn rows k x 11 (by decide) (by decide)
      have r3 := fun rows k x => kTurn rows k x 25 (by decide) (by decide)
      have r4 := fun rows k x => kTurn rows k x 2 (by decide) (by decide)
      have r5 := fun rows k x => kTurn rows k x 13 (by decide) (by decide)
      have r6 := fun rows k x => kTurn rows k x 22 (by decide) (by decide)
      simp only [Int.cast_ofNat_Int] at r1 r2 r3 r4 r5 r6
      simp only [↓amD, amU, Nat.reduceBEq, Nat.reduceAdd, Nat.reduceSub, Nat.reduceMul, Nat.reduceMod, Nat.reducePow, Nat.reduceLT, Nat.reduceDiv, Int.reduceToNat, BitVec.reduceToNat, zipEnv, Int.reduceLE, Int.reduceLT, Int.reduceNeg, BitVec.reduceEq, Int.reduceAdd, Int.reduceSub, Int.reduceMul, Nat.reduceLeDiff, Int.reduceEq, h117, h116, h2, h4, h5, h15, q7, q8, q9, q10, q11, q12, q13, q14, ht, e0, e9, e11, g1, g2, r1, r2, r3, r4, r5, r6, not_sub, decide_true, us_len, hwl, Int.cast_ofNat_Int]
      have hN : rnds (schW b) (i + 1) h0 = [vh + (ror ve 6 ^^^ ror ve 11 ^^^ ror ve 25) + (ve &&& vf ^^^ ~~~ve &&& vg) + roundsL.getD i 0#32 + (schW b).getD i 0#32 + ((ror va 2 ^^^ ror va 13 ^^^ ror va 22) + (va &&& vb ^^^ va &&& vc ^^^ vb &&& vc)), va, vb, vc,
          vd + (vh + (ror ve 6 ^^^ ror ve 11 ^^^ ror ve 25) + (ve &&& vf ^^^ ~~~ve &&& vg) + roundsL.getD i 0#32 + (schW b).getD i 0#32), ve, vf, vg] := by
        rw [rnds, hvv, rnd]; simp only [BitVec.add_assoc]
      exact hR _ _ ⟨_, _, _, _, _, _, _, _, hN, by simp only [has, ↓amD, amU, Nat.reduceBEq, Nat.reduceAdd, Nat.reduceSub, Nat.reduceMul, Nat.reduceMod, Nat.reducePow, Nat.reduceLT, Nat.reduceDiv, Int.reduceToNat, BitVec.reduceToNat, zipEnv, Int.reduceLE, Int.reduceLT, Int.reduceNeg, BitVec.reduceEq, Int.reduceAdd, Int.reduceSub, Int.reduceMul, Nat.reduceLeDiff, Int.reduceEq, h116, h2, h4, h5, h15], rfl⟩
    · rintro env rows ⟨va, vb, vc, vd, ve, vf, vg, vh, hvv, hh, rfl⟩ R
      simp only [has] at hh
      obtain ⟨h117, h116, h2, h4, h5, h15, q7, q8, q9, q10, q11, q12, q13, q14, -⟩ := hh
      simp only [↓amD, amU, Nat.reduceBEq, Nat.reduceAdd, Nat.reduceSub, Nat.reduceMul, Nat.reduceMod, Nat.reducePow, Nat.reduceLT, Nat.reduceDiv, Int.reduceToNat, BitVec.reduceToNat, zipEnv, Int.reduceLE, Int.reduceLT, Int.reduceNeg, BitVec.reduceEq, Int.reduceAdd, Int.reduceSub, Int.reduceMul, Nat.reduceLeDiff, Int.reduceEq, h117, h116, h2, h4, h5, h15, q7, q8, q9, q10, q11, q12, q13, q14]
      have hu2 : us [va, vb, vc, vd, ve, vf, vg, vh] = [.raw (u32 va), .raw (u32 vb), .raw (u32 vc), .raw (u32 vd), .raw (u32 ve), .raw (u32 vf), .raw (u32 vg), .raw (u32 vh)] := rfl
      rw [← hu2, ← hvv]
      have hl2 := rnds_len (schW b) 64 h0 hp
      have hq : (rnds (schW b) 64 h0).length = h0.length := by omega
      refine kLoop_up 8 (fun i env rows => has env [(190, .raw (it (i : Int))), (2, .ptr (.ar 8 L32) 0 [0]), (4, .ptr (.ar 8 L32) 1 [0]), (19, .ptr (.ar 8 L32) 4 [0])] ∧
        rows = [some ⟨.ar 8 L32, [.agg (.ar 8 L32) (us h0)]⟩, some ⟨.ar 8 L32, [z]⟩, some ⟨L32, us (schW b)⟩, some ⟨.ar 64 L32, [.agg (.ar 64 L32) (us roundsL)]⟩, some ⟨.ar 8 L32, [.agg (.ar 8 L32) (us (mix (rnds (schW b) 64 h0) h0 i))]⟩]) ?_ ?_ ⟨?_, by rfl⟩
      · rintro i hi env rows ⟨hh, rfl⟩ R hR
        simp only [has] at hh
        obtain ⟨h190, h2, h4, h19, -⟩ := hh
        have e0 : ((i : Int) < 8) = True := eq_true (by omega)
        have e1 : ((0 : Int) ≤ (i : Int)) = True := eq_true (by omega)
        have e2 := wz_succ i (by omega)
        have g1 : (us (mix (rnds (schW b) 64 h0) h0 i))[i]? = some (.raw (u32 ((rnds (schW b) 64 h0).getD i 0#32))) := by
          rw [us_get (by rw [mix_len _ _ _ hq (by omega)]; omega), mix_get _ _ _ hq (by omega)]
        have g2 : (us h0)[i]? = some (.raw (u32 (h0.getD i 0#32))) := us_get (by omega)
        have es : (mix (rnds (schW b) 64 h0) h0 i).set i ((rnds (schW b) 64 h0).getD i 0#32 + h0.getD i 0#32) = mix (rnds (schW b) 64 h0) h0 (i + 1) := mix_set _ _ _ hq (by omega)
        simp only [↓amD, amU, Nat.reduceBEq, Nat.reduceAdd, Nat.reduceSub, Nat.reduceMul, Nat.reduceMod, Nat.reducePow, Nat.reduceLT, Nat.reduceDiv, Int.reduceToNat, BitVec.reduceToNat, zipEnv, Int.reduceLE, Int.reduceLT, Int.reduceNeg, BitVec.reduceEq, Int.reduceAdd, Int.reduceSub, Int.reduceMul, Nat.reduceLeDiff, Int.reduceEq, h190, h2, h4, h19, e0, e1, e2, g1, g2, us_set, es, decide_true]
        exact hR _ _ ⟨by simp only [has, ↓amD, amU, Nat.reduceBEq, Nat.reduceAdd, Nat.reduceSub, Nat.reduceMul, Nat.reduceMod, Nat.reducePow, Nat.reduceLT, Nat.reduceDiv, Int.reduceToNat, BitVec.reduceToNat, zipEnv, Int.reduceLE, Int.reduceLT, Int.reduceNeg, BitVec.reduceEq, Int.reduceAdd, Int.reduceSub, Int.reduceMul, Nat.reduceLeDiff, Int.reduceEq, h2, h4, h19], rfl⟩
      · rintro env rows ⟨hh, rfl⟩ R
        simp only [has] at hh
        obtain ⟨h190, h2, h4, h19, -⟩ := hh
        simp only [↓amD, amU, Nat.reduceBEq, Nat.reduceAdd, Nat.reduceSub, Nat.reduceMul, Nat.reduceMod, Nat.reducePow, Nat.reduceLT, Nat.reduceDiv, Int.reduceToNat, BitVec.reduceToNat, zipEnv, Int.reduceLE, Int.reduceLT, Int.reduceNeg, BitVec.reduceEq, Int.reduceAdd, Int.reduceSub, Int.reduceMul, Nat.reduceLeDiff, Int.reduceEq, h190, h2, h4, h19]
        have : mix (rnds (schW b) 64 h0) h0 8 = pressS h0 b := by rw [← hl2, mix_all _ _ hq, zip_comm]; rfl
        rw [this, ← hv8]
        exact .val _ rfl
      · simp only [has, ↓amD, amU, Nat.reduceBEq, Nat.reduceAdd, Nat.reduceSub, Nat.reduceMul, Nat.reduceMod, Nat.reducePow, Nat.reduceLT, Nat.reduceDiv, Int.reduceToNat, BitVec.reduceToNat, zipEnv, Int.reduceLE, Int.reduceLT, Int.reduceNeg, BitVec.reduceEq, Int.reduceAdd, Int.reduceSub, Int.reduceMul, Nat.reduceLeDiff, Int.reduceEq, h2, h4]
    · simp only [has, ↓amD, amU, Nat.reduceBEq, Nat.reduceAdd, Nat.reduceSub, Nat.reduceMul, Nat.reduceMod, Nat.reducePow, Nat.reduceLT, Nat.reduceDiv, Int.reduceToNat, BitVec.reduceToNat, zipEnv, Int.reduceLE, Int.reduceLT, Int.reduceNeg, BitVec.reduceEq, Int.reduceAdd, Int.reduceSub, Int.reduceMul, Nat.reduceLeDiff, Int.reduceEq, h2, h4, h5]
  · simp only [has, ↓amD, amU, Nat.reduceBEq, Nat.reduceAdd, Nat.reduceSub, Nat.reduceMul, Nat.reduceMod, Nat.reducePow, Nat.reduceLT, Nat.reduceDiv, Int.reduceToNat, BitVec.reduceToNat, zipEnv, Int.reduceLE, Int.reduceLT, Int.reduceNeg, BitVec.reduceEq, Int.reduceAdd, Int.reduceSub, Int.reduceMul, Nat.reduceLeDiff, Int.reduceEq]
  · rw [us_rep]; rfl
end Job
end Go.Am
