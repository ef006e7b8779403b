/- SHA-256: the compression, as the program makes it -/
import Derived.Test.YtbipaoihfpklgaaDoorSha2
namespace Go.Am
set_option linter.unusedSimpArgs false
set_option linter.unusedVariables false
attribute [local congr] bnd_congr kCond_congr kGd_congr kPick_congr kCall_congr kIdx_congr kSlice_congr kLoop_congr cond_congr' aBin_congr aBounds_congr aApp_congr aCopy_congr kFn_congr
namespace Job
open Go.Am.F
set_option maxRecDepth 10000
def firstL : List (BitVec 32) := [0x6a09e667#32, 0xbb67ae85#32, 0x3c6ef372#32, 0xa54ff53a#32, 0x510e527f#32, 0x9b05688c#32, 0x1f83d9ab#32, 0x5be0cd19#32]
def roundsL : List (BitVec 32) := [
  0x428a2f98#32, 0x71374491#32, 0xb5c0fbcf#32, 0xe9b5dba5#32, 0x3956c25b#32, 0x59f111f1#32, 0x923f82a4#32, 0xab1c5ed5#32,
  0xd807aa98#32, 0x12835b01#32, 0x243185be#32, 0x550c7dc3#32, 0x72be5d74#32, 0x80deb1fe#32, 0x9bdc06a7#32, 0xc19bf174#32,
  0xe49b69c1#32, 0xefbe4786#32, 0x0fc19dc6#32, 0x240ca1cc#32, 0x2de92c6f#32, 0x4a7484aa#32, 0x5cb0a9dc#32, 0x76f988da#32,
  0x983e5152#32, 0xa831c66d#32, 0xb00327c8#32, 0xbf597fc7#32, 0xc6e00bf3#32, 0xd5a79147#32, 0x06ca6351#32, 0x14292967#32,
  0x27b70a85#32, 0x2e1b2138#32, 0x4d2c6dfc#32, 0x53380d13#32, 0x650a7354#32, 0x766a0abb#32, 0x81c2c92e#32, 0x92722c85#32,
  0xa2bfe8a1#32, 0xa81a664b#32, 0xc24b8b70#32, 0xc76c51a3#32, 0xd192e819#32, 0xd6990624#32, 0xf40e3585#32, 0x106aa070#32,
  0x19a4c116#32, 0x1e376c08#32, 0x2748774c#32, 0x34b0bcb5#32, 0x391c0cb3#32, 0x4ed8aa4a#32, 0x5b9cca4f#32, 0x682e6ff3#32,
  0x748f82ee#32, 0x78a5636f#32, 0x84c87814#32, 0x8cc70208#32, 0x90befffa#32, 0xa4506ceb#32, 0xbef9a3f7#32, 0xc67178f2#32]
def rnd (v : List (BitVec 32)) (k w : BitVec 32) : List (BitVec 32) :=
  match v with
  | [a, b, c, d, e, f, g, h] =>
    let t := h + (ror e 6 ^^^ ror e 11 ^^^ ror e 25) + (e &&& f ^^^ ~~~e &&& g) + k + w
    [t + (ror a 2 ^^^ ror a 13 ^^^ ror a 22) + (a &&& b ^^^ a &&& c ^^^ b &&& c), a, b, c, d + t, e, f, g]
  | _ => v
def rnds (ws : List (BitVec 32)) : Nat → List (BitVec 32) → List (BitVec 32)
  | 0, v => v
  | n + 1, v => rnd (rnds ws n v) (roundsL.getD n 0#32) (ws.getD n 0#32)
theorem eight {v : List (BitVec 32)} (h : v.length = 8) : ∃ a b c d e f g i, v = [a, b, c, d, e, f, g, i] := by
  match v, h with
  | [a, b, c, d, e, f, g, i], _ => exact ⟨a, b, c, d, e, f, g, i, rfl⟩
theorem rnd_len (v : List (BitVec 32)) (k w : BitVec 32) (h : v.length = 8) : (rnd v k w).length = 8 := by
  obtain ⟨a, b, c, d, e, f, g, i, rfl⟩ := eight h; rfl
theorem rnds_len (ws : List (BitVec 32)) (n : Nat) (v : List (BitVec 32)) (h : v.length = 8) : (rnds ws n v).length = 8 := by
  induction n with
  | zero => exact h
  | succ n ih => exact rnd_len _ _ _ ih
def mix (x y : List (BitVec 32)) (i : Nat) : List (BitVec 32) := (List.zipWith (· + ·) x y).take i ++ x.drop i
theorem mix_len (x y : List (BitVec 32)) (i : Nat) (h : x.length = y.length) (hi : i ≤ x.length) : (mix x y i).length = x.length := by simp [mix]; omega
theorem mix_get (x y : List (BitVec 32)) (i : Nat) (h : x.length = y.length) (hi : i < x.length) : (mix x y i).getD i 0#32 = x.getD i 0#32 := by
  have : ((List.zipWith (· + ·) x y).take i).length = i := by simp; omega
  simp only [mix, List.getD]
  rw [List.getElem?_append_right (by omega), this, Nat.sub_self, List.getElem?_drop]
  rfl
theorem mix_set (x y : List (BitVec 32)) (i : Nat) (h : x.length = y.length) (hi : i < x.length) : (mix x y i).set i (x.getD i 0#32 + y.getD i 0#32) = mix x y (i + 1) := by
  have hl : ((List.zipWith (· + ·) x y).take i).length = i := by simp; omega
  have e1 : x.drop i = x.getD i 0#32 :: x.drop (i + 1) := by
    rw [List.drop_eq_getElem_cons hi]; simp [List.getD, hi]
  have e2 : (List.zipWith (· + ·) x y).take (i + 1) = (List.zipWith (· + ·) x y).take i ++ [x.getD i 0#32 + y.getD i 0#32] := by
    have hz : i < (List.zipWith (· + ·) x y).length := by simp; omega
    rw [List.take_succ_eq_append_getElem hz]
    have hy : i < y.length := by omega
    simp [List.getD, hi, hy]
  rw [mix, mix, e2, List.set_append_right _ _ (by omega), hl, Nat.sub_self, e1]
  simp
theorem mix_all (x y : List (BitVec 32)) (h : x.length = y.length) : mix x y x.length = List.zipWith (· + ·) x y := by
  rw [mix, List.drop_length, List.append_nil, List.take_of_length_le (by simp; omega)]
def pressS (h : List (BitVec 32)) (b : List (BitVec 8)) : List (BitVec 32) := List.zipWith (· + ·) h (rnds (schW b) 64 h)
theorem schW_len (b : List (BitVec 8)) : (schW b).length = 64 := by rw [schW, sch_len, words_len]
theorem press_len (h : List (BitVec 32)) (b : List (BitVec 8)) (hh : h.length = 8) : (pressS h b).length = 8 := by simp [pressS, hh, rnds_len]
noncomputable def fPress : Fn := fn2 (rdOf h8D) (rdOf b64D) (fun h b => decide (h.length = 8) && decide (b.length = 64)) fun h b => (h8D (pressS h b), [])
theorem kSpread (rows : Rows) (k : D → Rows → Prop) (b : List (BitVec 8)) (h : b.length = 64) : kCall fSpread rows k [.agg (.ar 64 L8) (bs b)] = k (.agg (.ar 64 L32) (us (schW b))) rows := by
  refine (kCall_val (by simp [hasRefL, hasRef, Sh.pure]) (r := (w64D (schW b), [])) ?_).trans ?_
  · exact fn1_eq (rdOf_eq b64D_inj b) (by simp [h])
  · simp [shift, shiftRows, w64D, Sh.pure]
theorem press_ok (C : Ctx) (hC : CtxOK C P) (hg : C.glob 2 = some (w64D roundsL)) (hs : C.fn 41 = some fSpread) (hr : C.fn 42 = some fRot) : Meets C.glob P 38 (Fn.run fPress) := by
  refine fn_meets (m_sha_Press C hC) fun ds rows r h => ?_
  obtain ⟨d, e, h0, b, rfl, rfl, hd, he, hp, rfl⟩ := fn2_some h
  cases rdOf_some hd
  cases rdOf_some he
  simp only [Bool.and_eq_true, decide_eq_true_eq] at hp
  obtain ⟨hp, hb⟩ := hp
  refine ⟨rfl, afun_mk rfl ?_⟩
  clear h hd he
  unfold a_sha_Press r_sha_Press
  simp only [h8D, b64D, ↓amD, amU, Nat.reduceBEq, Nat.reduceAdd, Nat.reduceSub, Nat.reduceMul, Nat.reduceMod, Nat.reducePow, Nat.reduceLT, Nat.reduceDiv, Int.reduceToNat, BitVec.reduceToNat, zipEnv, Int.reduceLE, Int.reduceLT, Int.reduceNeg, BitVec.reduceEq, Int.reduceAdd, Int.reduceSub, Int.reduceMul, Nat.reduceLeDiff, Int.reduceEq, hs]
  refine Eq.mpr (kSpread _ _ _ hb) ?_
  simp only [↓amD, amU, Nat.reduceBEq, Nat.reduceAdd, Nat.reduceSub, Nat.reduceMul, Nat.reduceMod, Nat.reducePow, Nat.reduceLT, Nat.reduceDiv, Int.reduceToNat, BitVec.reduceToNat, zipEnv, Int.reduceLE, Int.reduceLT, Int.reduceNeg, BitVec.reduceEq, Int.reduceAdd, Int.reduceSub, Int.reduceMul, Nat.reduceLeDiff, Int.reduceEq]
  refine kLoop_up 64 (fun i env rows => has env [(17, .raw (it (i : Int))), (16, .agg (.ar 64 L32) (us (schW b))), (2, .ptr (.ar 8 L32) 0 [0]), (4, .ptr (.ar 8 L32) 2 [0]), (5, .ptr (.ar 8 L32) 3 [0])] ∧
    ∃ z y, rows = [some ⟨.ar 8 L32, [.agg (.ar 8 L32) (us h0)]⟩, some y, some ⟨.ar 8 L32, [z]⟩, some ⟨.ar 8 L32, [.agg (.ar 8 L32) (us (rnds (schW b) i h0))]⟩]) ?_ ?_ ⟨?_, _, _, rfl⟩
  · rintro i hi env rows ⟨hh, z, y, rfl⟩ R hR
    simp only [has] at hh
    obtain ⟨h17, h16, h2, h4, h5, -⟩ := hh
    obtain ⟨va, vb, vc, vd, ve, vf, vg, vh, hv⟩ := eight (rnds_len (schW b) i h0 hp)
    have e0 : ((i : Int) < 64) = True := eq_true (by omega)
    have e1 : ((0 : Int) ≤ (i : Int)) = True := eq_true (by omega)
    have e2 := wz_succ i (by omega)
    have g1 : (us (schW b))[i]? = some (.raw (u32 ((schW b).getD i 0#32))) := us_get (by rw [schW_len]; omega)
    have g2 : (us roundsL)[i]? = some (.raw (u32 (roundsL.getD i 0#32))) := us_get (by simp [roundsL]; omega)
    have r1 := fun rows k x => kRot rows k x 6 (by decide) (by decide)
    have r2 := fun rows k x => kRot rows k x 11 (by decide) (by decide)
    have r3 := fun rows k x => kRot rows k x 25 (by decide) (by decide)
    have r4 := fun rows k x => kRot rows k x 2 (by decide) (by decide)
    have r5 := fun rows k x => kRot rows k x 13 (by decide) (by decide)
    have r6 := fun rows k x => kRot rows k x 22 (by decide) (by decide)
    simp only [Int.cast_ofNat_Int] at r1 r2 r3 r4 r5 r6
    have hn : us (rnds (schW b) (i + 1) h0) = us (rnd [va, vb, vc, vd, ve, vf, vg, vh] (roundsL.getD i 0#32) ((schW b).getD i 0#32)) := by rw [rnds, hv]
    rw [hv]
    have hu : us [va, vb, vc, vd, ve, vf, vg, vh] = [.raw (u32 va), .raw (u32 vb), .raw (u32 vc), .raw (u32 vd), .raw (u32 ve), .raw (u32 vf), .raw (u32 vg), .raw (u32 vh)] := rfl
    simp only [↓amD, amU, Nat.reduceBEq, Nat.reduceAdd, Nat.reduceSub, Nat.reduceMul, Nat.reduceMod, Nat.reducePow, Nat.reduceLT, Nat.reduceDiv, Int.reduceToNat, BitVec.reduceToNat, zipEnv, Int.reduceLE, Int.reduceLT, Int.reduceNeg, BitVec.reduceEq, Int.reduceAdd, Int.reduceSub, Int.reduceMul, Nat.reduceLeDiff, Int.reduceEq, w64D, h17, h16, h2, h4, h5, hr, hg, e0, e1, e2, g1, g2, r1, r2, r3, r4, r5, r6, hu, decide_true]
    exact hR _ _ ⟨by simp only [has, ↓amD, amU, Nat.reduceBEq, Nat.reduceAdd, Nat.reduceSub, Nat.reduceMul, Nat.reduceMod, Nat.reducePow, Nat.reduceLT, Nat.reduceDiv, Int.reduceToNat, BitVec.reduceToNat, zipEnv, Int.reduceLE, Int.reduceLT, Int.reduceNeg, BitVec.reduceEq, Int.reduceAdd, Int.reduceSub, Int.reduceMul, Nat.reduceLeDiff, Int.reduceEq, h16, h2, h4, h5], z, y, by rw [hn]; rfl⟩
  · rintro env rows ⟨hh, z, y, rfl⟩ R
    simp only [has] at hh
    obtain ⟨h17, h16, h2, h4, h5, -⟩ := hh
    simp only [↓amD, amU, Nat.reduceBEq, Nat.reduceAdd, Nat.reduceSub, Nat.reduceMul, Nat.reduceMod, Nat.reducePow, Nat.reduceLT, Nat.reduceDiv, Int.reduceToNat, BitVec.reduceToNat, zipEnv, Int.reduceLE, Int.reduceLT, Int.reduceNeg, BitVec.reduceEq, Int.reduceAdd, Int.reduceSub, Int.reduceMul, Nat.reduceLeDiff, Int.reduceEq, h17, h16, h2, h4, h5]
    have hv := rnds_len (schW b) 64 h0 hp
    have hq : h0.length = (rnds (schW b) 64 h0).length := by omega
    refine kLoop_up 8 (fun i env rows => has env [(107, .raw (it (i : Int))), (2, .ptr (.ar 8 L32) 0 [0]), (4, .ptr (.ar 8 L32) 2 [0]), (5, .ptr (.ar 8 L32) 3 [0])] ∧
      rows = [some ⟨.ar 8 L32, [.agg (.ar 8 L32) (us (mix h0 (rnds (schW b) 64 h0) i))]⟩, some y, some ⟨.ar 8 L32, [z]⟩, some ⟨.ar 8 L32, [.agg (.ar 8 L32) (us (rnds (schW b) 64 h0))]⟩]) ?_ ?_ ⟨?_, by rfl⟩
    · rintro i hi env rows ⟨hh, rfl⟩ R hR
      simp only [has] at hh
      obtain ⟨h7, h2, h4, h5, -⟩ := hh
      have e0 : ((i : Int) < 8) = True := eq_true (by omega)
      have e1 : ((0 : Int) ≤ (i : Int)) = True := eq_true (by omega)
      have e2 := wz_succ i (by omega)
      have g1 : (us (mix h0 (rnds (schW b) 64 h0) i))[i]? = some (.raw (u32 (h0.getD i 0#32))) := by
        rw [us_get (by rw [mix_len _ _ _ hq (by omega)]; omega), mix_get _ _ _ hq (by omega)]
      have g2 : (us (rnds (schW b) 64 h0))[i]? = some (.raw (u32 ((rnds (schW b) 64 h0).getD i 0#32))) := us_get (by omega)
      have es : (us (mix h0 (rnds (schW b) 64 h0) i)).set i (.raw (u32 (h0.getD i 0#32 + (rnds (schW b) 64 h0).getD i 0#32))) = us (mix h0 (rnds (schW b) 64 h0) (i + 1)) := by
        rw [us_set, mix_set _ _ _ hq (by omega)]
      simp only [↓amD, amU, Nat.reduceBEq, Nat.reduceAdd, Nat.reduceSub, Nat.reduceMul, Nat.reduceMod, Nat.reducePow, Nat.reduceLT, Nat.reduceDiv, Int.reduceToNat, BitVec.reduceToNat, zipEnv, Int.reduceLE, Int.reduceLT, Int.reduceNeg, BitVec.reduceEq, Int.reduceAdd, Int.reduceSub, Int.reduceMul, Nat.reduceLeDiff, Int.reduceEq, h7, h2, h4, h5, e0, e1, e2, g1, g2, es, decide_true]
      exact hR _ _ ⟨by simp only [has, ↓amD, amU, Nat.reduceBEq, Nat.reduceAdd, Nat.reduceSub, Nat.reduceMul, Nat.reduceMod, Nat.reducePow, Nat.reduceLT, Nat.reduceDiv, Int.reduceToNat, BitVec.reduceToNat, zipEnv, Int.reduceLE, Int.reduceLT, Int.reduceNeg, BitVec.reduceEq, Int.reduceAdd, Int.reduceSub, Int.reduceMul, Nat.reduceLeDiff, Int.reduceEq, h2, h4, h5], rfl⟩
    · rintro env rows ⟨hh, rfl⟩ R
      simp only [has] at hh
      obtain ⟨h7, h2, h4, h5, -⟩ := hh
      simp only [↓amD, amU, Nat.reduceBEq, Nat.reduceAdd, Nat.reduceSub, Nat.reduceMul, Nat.reduceMod, Nat.reducePow, Nat.reduceLT, Nat.reduceDiv, Int.reduceToNat, BitVec.reduceToNat, zipEnv, Int.reduceLE, Int.reduceLT, Int.reduceNeg, BitVec.reduceEq, Int.reduceAdd, Int.reduceSub, Int.reduceMul, Nat.reduceLeDiff, Int.reduceEq, h7, h2, h4, h5]
      have : mix h0 (rnds (schW b) 64 h0) 8 = pressS h0 b := by rw [← hp, mix_all _ _ hq]; rfl
      rw [this]
      exact .val _ rfl
    · simp only [has, ↓amD, amU, Nat.reduceBEq, Nat.reduceAdd, Nat.reduceSub, Nat.reduceMul, Nat.reduceMod, Nat.reducePow, Nat.reduceLT, Nat.reduceDiv, Int.reduceToNat, BitVec.reduceToNat, zipEnv, Int.reduceLE, Int.reduceLT, Int.reduceNeg, BitVec.reduceEq, Int.reduceAdd, Int.reduceSub, Int.reduceMul, Nat.reduceLeDiff, Int.reduceEq, h2, h4, h5]
  · simp only [has, ↓amD, amU, Nat.reduceBEq, Nat.reduceAdd, Nat.reduceSub, Nat.reduceMul, Nat.reduceMod, Nat.reducePow, Nat.reduceLT, Nat.reduceDiv, Int.reduceToNat, BitVec.reduceToNat, zipEnv, Int.reduceLE, Int.reduceLT, Int.reduceNeg, BitVec.reduceEq, Int.reduceAdd, Int.reduceSub, Int.reduceMul, Nat.reduceLeDiff, Int.reduceEq]
end Job
end Go.Am
