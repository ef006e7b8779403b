/- AES: a block, encrypted and decrypted -/
import Derived.Test.YtloclegkilgglaaAes3
namespace Go.Am
set_option linter.unusedSimpArgs false
set_option linter.unusedVariables false
attribute [local congr] bnd_congr kCond_congr kGd_congr kPick_congr kCall_congr kIdx_congr kSlice_congr kLoop_congr cond_congr' aBin_congr aBounds_congr aApp_congr aCopy_congr kFn_congr
namespace Job
open Go.Am.F
set_option maxRecDepth 10000
theorem b16_fits (b : List (BitVec 8)) : (b16D b).fits (.ar 16 L8) = true := by simp [b16D, D.fits]
theorem kD_fits (K : Option (List (BitVec 32) × Bool)) : (kD K).fits S1 = true := by
  rcases K with _ | ⟨w, x⟩ <;> simp [kD, D.fits]
def rndN : Option (List (BitVec 32) × Bool) → Nat
  | none => 0
  | some (w, _) => w.length / 4 - 1
def kLen : Option (List (BitVec 32) × Bool) → Nat
  | none => 0
  | some (w, _) => w.length
noncomputable def fRounds : Fn := fn1 (rdOf kD) (fun K => decide (kLen K ≤ 64)) fun K => (.raw (it (rndN K : Int)), [])
theorem rounds_ok (C : Ctx) (hC : CtxOK C P) : Meets C.glob P 19 (Fn.run fRounds) := by
  refine fn_meets (m_aes_Key_Rounds C hC) fun ds rows r h => ?_
  obtain ⟨d, K, rfl, rfl, hd, hp, rfl⟩ := fn1_some h
  cases rdOf_some hd
  simp only [decide_eq_true_eq] at hp
  refine ⟨rfl, afun_mk rfl ?_⟩
  clear h hd
  unfold a_aes_Key_Rounds r_aes_Key_Rounds
  rcases K with _ | ⟨w, x⟩
  · simp only [kD, t256, ↓amD, amU, Nat.reduceBEq, Nat.reduceAdd, Nat.reduceSub, Nat.reduceMul, Nat.reduceMod, Nat.reducePow, Nat.reduceLT, Nat.reduceDiv, Int.reduceToNat, BitVec.reduceToNat, zipEnv, Int.reduceLE, Int.reduceLT, Int.reduceNeg, BitVec.reduceEq, Int.reduceAdd, Int.reduceSub, Int.reduceMul, Nat.reduceLeDiff, Int.reduceEq]
    exact .val _ rfl
  · simp only [kLen] at hp
    have e1 : ((w.length : Nat) : Int).tdiv 4 = ((w.length / 4 : Nat) : Int) := rfl
    have e2 : wz ((w.length / 4 : Nat) : Int) = ((w.length / 4 : Nat) : Int) := wz_id (by omega)
    have e3 : wz (((w.length / 4 : Nat) : Int) - 1) = ((w.length / 4 : Nat) : Int) - 1 := wz_id (by omega)
    have e4 : max (((w.length / 4 : Nat) : Int) - 1) 0 = ((w.length / 4 - 1 : Nat) : Int) := by omega
    simp only [kD, t256, ↓amD, amU, Nat.reduceBEq, Nat.reduceAdd, Nat.reduceSub, Nat.reduceMul, Nat.reduceMod, Nat.reducePow, Nat.reduceLT, Nat.reduceDiv, Int.reduceToNat, BitVec.reduceToNat, zipEnv, Int.reduceLE, Int.reduceLT, Int.reduceNeg, BitVec.reduceEq, Int.reduceAdd, Int.reduceSub, Int.reduceMul, Nat.reduceLeDiff, Int.reduceEq, us_len, e1, e2, e3, e4]
    exact .val _ rfl
theorem kRounds1 (rows : Rows) (k : D → Rows → Prop) (w : List (BitVec 32)) (e : Bool) (hw : w.length ≤ 64) :
    kCall fRounds rows k [kD (some (w, e))] = k (.raw (it ((w.length / 4 - 1 : Nat) : Int))) rows := by
  refine (kCall_val rfl (r := (.raw (it ((w.length / 4 - 1 : Nat) : Int)), [])) ?_).trans ?_
  · rw [fRounds, fn1_eq (rdOf_eq kD_inj _) (by simp [kLen, hw])]; rfl
  · simp [shift, shiftRows]
theorem kRounds0 (rows : Rows) (k : D → Rows → Prop) : kCall fRounds rows k [kD none] = k (.raw (it 0)) rows := by
  refine (kCall_val rfl (r := (.raw (it 0), [])) ?_).trans ?_
  · rw [fRounds, fn1_eq (rdOf_eq kD_inj _) (by simp [kLen])]; rfl
  · simp [shift, shiftRows]
def encK : Option (List (BitVec 32) × Bool) → List (BitVec 8) → List (BitVec 8)
  | none, b => b
  | some (w, _), b => encS (keyR w) boxL (w.length / 4 - 1) b
def decK : Option (List (BitVec 32) × Bool) → List (BitVec 8) → List (BitVec 8)
  | none, b => b
  | some (w, _), b => decS (keyR w) backL (w.length / 4 - 1) b
def okK : Option (List (BitVec 32) × Bool) → Bool
  | none => true
  | some (w, _) => decide (8 ≤ w.length) && decide (w.length ≤ 64)
noncomputable def fEnc : Fn := fn2 (rdOf kD) (rdOf b16D) (fun K b => okK K && decide (b.length = 16)) fun K b => (b16D (encK K b), [])
noncomputable def fDec : Fn := fn2 (rdOf kD) (rdOf b16D) (fun K b => okK K && decide (b.length = 16)) fun K b => (b16D (decK K b), [])
theorem enc_ok (C : Ctx) (hC : CtxOK C P) (hr : C.fn 19 = some fRounds) (ha : C.fn 33 = some fAdd) (hm : C.fn 32 = some fMoved) (hx : C.fn 34 = some fMixed) : Meets C.glob P 12 (Fn.run fEnc) := by
  refine fn_meets (m_aes_Key_Encrypt C hC) fun ds rows r h => ?_
  obtain ⟨d, e, K, b, rfl, rfl, hd, he, hp, rfl⟩ := fn2_some h
  cases rdOf_some hd
  cases rdOf_some he
  simp only [Bool.and_eq_true, decide_eq_true_eq] at hp
  obtain ⟨hK, hb⟩ := hp
  refine ⟨rfl, afun_mk rfl ?_⟩
  clear h hd he
  unfold a_aes_Key_Encrypt r_aes_Key_Encrypt
  simp only [rep_z16]
  have hkf := kD_fits K
  rcases K with _ | ⟨w, x⟩
  · simp only [↓amD, amU, Nat.reduceBEq, Nat.reduceAdd, Nat.reduceSub, Nat.reduceMul, Nat.reduceMod, Nat.reducePow, Nat.reduceLT, Nat.reduceDiv, Int.reduceToNat, BitVec.reduceToNat, zipEnv, Int.reduceLE, Int.reduceLT, Int.reduceNeg, BitVec.reduceEq, Int.reduceAdd, Int.reduceSub, Int.reduceMul, Nat.reduceLeDiff, Int.reduceEq, hkf, b16_fits, hr, kRounds0]
    exact .val _ rfl
  · simp only [okK, Bool.and_eq_true, decide_eq_true_eq] at hK
    have hg1 : rowGet [kD (some (w, x))] [0, 1] = some (t256 boxL) := rfl
    have kA : ∀ (rows : Rows) (k : D → Rows → Prop) (b : List (BitVec 8)) (r : Nat), b.length = 16 → 4 * r + 4 ≤ w.length → kCall fAdd rows k [kD (some (w, x)), b16D b, .raw (it (r : Int))] = k (b16D (addS (keyR w r) b)) rows := fun rows k b r h1 h2 => kAdd rows k w x b r h1 h2 hK.2
    have kR := fun rows k => kRounds1 rows k w x hK.2
    generalize kD (some (w, x)) = kd at *
    have hn : ((((w.length / 4 - 1 : Nat) : Int)) = 0) = False := eq_false (by omega)
    have k0 := fun rows k => kA rows k b 0 hb (by omega)
    simp only [Int.natCast_zero, Int.ofNat_zero] at k0
    have k0' : ∀ rows k, kCall fAdd rows k [kd, b16D b, .raw (it 0)] = k (b16D (addS (keyR w 0) b)) rows := k0
    simp only [↓amD, amU, Nat.reduceBEq, Nat.reduceAdd, Nat.reduceSub, Nat.reduceMul, Nat.reduceMod, Nat.reducePow, Nat.reduceLT, Nat.reduceDiv, Int.reduceToNat, BitVec.reduceToNat, zipEnv, Int.reduceLE, Int.reduceLT, Int.reduceNeg, BitVec.reduceEq, Int.reduceAdd, Int.reduceSub, Int.reduceMul, Nat.reduceLeDiff, Int.reduceEq, hkf, b16_fits, hr, kR, ha, k0', hn]
    refine kLoop_up (w.length / 4 - 2) (fun i env rows => has env [(6, .raw (it ((1 + i : Nat) : Int))), (5, .raw (it ((w.length / 4 - 1 : Nat) : Int))), (2, .ptr S1 0 [0]), (3, .ptr (.ar 16 L8) 1 [0]), (4, .ptr (.ar 16 L8) 2 [0])] ∧
      rows = [some ⟨S1, [kd]⟩, some ⟨.ar 16 L8, [b16D (encR (keyR w) boxL b i)]⟩, some ⟨.ar 16 L8, [.agg (.ar 16 L8) (bs z16)]⟩]) ?_ ?_ ⟨?_, rfl⟩
    · rintro i hi env rows ⟨hh, rfl⟩ R hR
      simp only [has] at hh
      obtain ⟨h6, h5, h2, h3, h4, -⟩ := hh
      have e0 : (((1 + i : Nat) : Int) < ((w.length / 4 - 1 : Nat) : Int)) = True := eq_true (by omega)
      have e1 : wz (((1 + i : Nat) : Int) + 1) = ((1 + (i + 1) : Nat) : Int) := by rw [wz_id (by omega)]; omega
      have hl := encR_len (keyR w) boxL b (keyR_len w) hb i
      have km := fun rows2 k => kMoved (rows := some ⟨S1, [kd]⟩ :: rows2) (row := ⟨S1, [kd]⟩) (r := 0) (p := [0, 1]) rfl hg1 k (encR (keyR w) boxL b i) 1 hl box_len (.inl rfl)
      have kx := fun rows k => kMixed rows k (movS (encR (keyR w) boxL b i) boxL (mvM 1)) [2#8, 3#8, 1#8, 1#8] (mov_len _ _ _) rfl
      have ka := fun rows k => kA rows k (mixS (movS (encR (keyR w) boxL b i) boxL (mvM 1)) [2#8, 3#8, 1#8, 1#8]) (1 + i) (mix_len16 _ _) (by omega)
      have ef : addS (keyR w (1 + i)) (mixS (movS (encR (keyR w) boxL b i) boxL (mvM 1)) [2#8, 3#8, 1#8, 1#8]) = encR (keyR w) boxL b (i + 1) := by rw [Nat.add_comm 1 i]; rfl
      simp only [f4D, bs, List.map_cons, List.map_nil] at kx
      simp only [↓amD, amU, Nat.reduceBEq, Nat.reduceAdd, Nat.reduceSub, Nat.reduceMul, Nat.reduceMod, Nat.reducePow, Nat.reduceLT, Nat.reduceDiv, Int.reduceToNat, BitVec.reduceToNat, zipEnv, Int.reduceLE, Int.reduceLT, Int.reduceNeg, BitVec.reduceEq, Int.reduceAdd, Int.reduceSub, Int.reduceMul, Nat.reduceLeDiff, Int.reduceEq, h6, h5, h2, h3, h4, hm, hx, ha, km, kx, ka, ef, e0, e1, b16_fits, decide_true]
      exact hR _ _ ⟨by simp only [has, ↓amD, amU, Nat.reduceBEq, Nat.reduceAdd, Nat.reduceSub, Nat.reduceMul, Nat.reduceMod, Nat.reducePow, Nat.reduceLT, Nat.reduceDiv, Int.reduceToNat, BitVec.reduceToNat, zipEnv, Int.reduceLE, Int.reduceLT, Int.reduceNeg, BitVec.reduceEq, Int.reduceAdd, Int.reduceSub, Int.reduceMul, Nat.reduceLeDiff, Int.reduceEq, h5, h2, h3, h4], rfl⟩
    · rintro env rows ⟨hh, rfl⟩ R
      simp only [has] at hh
      obtain ⟨h6, h5, h2, h3, h4, -⟩ := hh
      have e0 : (((1 + (w.length / 4 - 2) : Nat) : Int) < ((w.length / 4 - 1 : Nat) : Int)) = False := eq_false (by omega)
      have hl := encR_len (keyR w) boxL b (keyR_len w) hb (w.length / 4 - 2)
      have km := fun rows2 k => kMoved (rows := some ⟨S1, [kd]⟩ :: rows2) (row := ⟨S1, [kd]⟩) (r := 0) (p := [0, 1]) rfl hg1 k (encR (keyR w) boxL b (w.length / 4 - 2)) 1 hl box_len (.inl rfl)
      have ka := fun rows k => kA rows k (movS (encR (keyR w) boxL b (w.length / 4 - 2)) boxL (mvM 1)) (w.length / 4 - 1) (mov_len _ _ _) (by omega)
      have ef : addS (keyR w (w.length / 4 - 1)) (movS (encR (keyR w) boxL b (w.length / 4 - 2)) boxL (mvM 1)) = encK (some (w, x)) b := rfl
      simp only [↓amD, amU, Nat.reduceBEq, Nat.reduceAdd, Nat.reduceSub, Nat.reduceMul, Nat.reduceMod, Nat.reducePow, Nat.reduceLT, Nat.reduceDiv, Int.reduceToNat, BitVec.reduceToNat, zipEnv, Int.reduceLE, Int.reduceLT, Int.reduceNeg, BitVec.reduceEq, Int.reduceAdd, Int.reduceSub, Int.reduceMul, Nat.reduceLeDiff, Int.reduceEq, h6, h5, h2, h3, h4, hm, ha, km, ka, ef, e0, b16_fits, decide_false]
      exact .val _ rfl
    · simp only [has, ↓amD, amU, Nat.reduceBEq, Nat.reduceAdd, Nat.reduceSub, Nat.reduceMul, Nat.reduceMod, Nat.reducePow, Nat.reduceLT, Nat.reduceDiv, Int.reduceToNat, BitVec.reduceToNat, zipEnv, Int.reduceLE, Int.reduceLT, Int.reduceNeg, BitVec.reduceEq, Int.reduceAdd, Int.reduceSub, Int.reduceMul, Nat.reduceLeDiff, Int.reduceEq]
theorem dec_ok (C : Ctx) (hC : CtxOK C P) (hr : C.fn 19 = some fRounds) (ha : C.fn 33 = some fAdd) (hm : C.fn 32 = some fMoved) (hx : C.fn 34 = some fMixed) : Meets C.glob P 11 (Fn.run fDec) := by
  refine fn_meets (m_aes_Key_Decrypt C hC) fun ds rows r h => ?_
  obtain ⟨d, e, K, b, rfl, rfl, hd, he, hp, rfl⟩ := fn2_some h
  cases rdOf_some hd
  cases rdOf_some he
  simp only [Bool.and_eq_true, decide_eq_true_eq] at hp
  obtain ⟨hK, hb⟩ := hp
  refine ⟨rfl, afun_mk rfl ?_⟩
  clear h hd he
  unfold a_aes_Key_Decrypt r_aes_Key_Decrypt
  simp only [rep_z16]
  have hkf := kD_fits K
  rcases K with _ | ⟨w, x⟩
  · simp only [↓amD, amU, Nat.reduceBEq, Nat.reduceAdd, Nat.reduceSub, Nat.reduceMul, Nat.reduceMod, Nat.reducePow, Nat.reduceLT, Nat.reduceDiv, Int.reduceToNat, BitVec.reduceToNat, zipEnv, Int.reduceLE, Int.reduceLT, Int.reduceNeg, BitVec.reduceEq, Int.reduceAdd, Int.reduceSub, Int.reduceMul, Nat.reduceLeDiff, Int.reduceEq, hkf, b16_fits, hr, kRounds0]
    exact .val _ rfl
  · simp only [okK, Bool.and_eq_true, decide_eq_true_eq] at hK
    have hg1 : rowGet [kD (some (w, x))] [0, 2] = some (t256 backL) := rfl
    have kA : ∀ (rows : Rows) (k : D → Rows → Prop) (b : List (BitVec 8)) (r : Nat), b.length = 16 → 4 * r + 4 ≤ w.length → kCall fAdd rows k [kD (some (w, x)), b16D b, .raw (it (r : Int))] = k (b16D (addS (keyR w r) b)) rows := fun rows k b r h1 h2 => kAdd rows k w x b r h1 h2 hK.2
    have kR := fun rows k => kRounds1 rows k w x hK.2
    generalize kD (some (w, x)) = kd at *
    have hn : ((((w.length / 4 - 1 : Nat) : Int)) = 0) = False := eq_false (by omega)
    have k0 := fun rows k => kA rows k b (w.length / 4 - 1) hb (by omega)
    have hl0 : (addS (keyR w (w.length / 4 - 1)) b).length = 16 := add_len _ _ (keyR_len _ _) hb
    have km0 := fun rows2 k => kMoved (rows := some ⟨S1, [kd]⟩ :: rows2) (row := ⟨S1, [kd]⟩) (r := 0) (p := [0, 2]) rfl hg1 k (addS (keyR w (w.length / 4 - 1)) b) (-1) hl0 back_len (.inr rfl)
    have e9 : wz (((w.length / 4 - 1 : Nat) : Int) - 1) = ((w.length / 4 - 2 : Nat) : Int) := by rw [wz_id (by omega)]; omega
    have hd0 : decR (keyR w) backL (w.length / 4 - 2) (movS (addS (keyR w (w.length / 4 - 1)) b) backL (mvM (-1))) = decK (some (w, x)) b := by
      rw [decK, decS, Nat.sub_sub, show mvM (-1) = 12 from rfl]
    simp only [↓amD, amU, Nat.reduceBEq, Nat.reduceAdd, Nat.reduceSub, Nat.reduceMul, Nat.reduceMod, Nat.reducePow, Nat.reduceLT, Nat.reduceDiv, Int.reduceToNat, BitVec.reduceToNat, zipEnv, Int.reduceLE, Int.reduceLT, Int.reduceNeg, BitVec.reduceEq, Int.reduceAdd, Int.reduceSub, Int.reduceMul, Nat.reduceLeDiff, Int.reduceEq, hkf, b16_fits, hr, kR, ha, k0, hm, km0, e9, hn]
    refine kLoop_inv (fun i env rows => i + 2 ≤ w.length / 4 ∧ ∃ b' : List (BitVec 8), b'.length = 16 ∧ decR (keyR w) backL i b' = decK (some (w, x)) b ∧ has env [(6, .raw (it (i : Int))), (2, .ptr S1 0 [0]), (3, .ptr (.ar 16 L8) 1 [0]), (4, .ptr (.ar 16 L8) 2 [0])] ∧
      rows = [some ⟨S1, [kd]⟩, some ⟨.ar 16 L8, [b16D b']⟩, some ⟨.ar 16 L8, [.agg (.ar 16 L8) (bs z16)]⟩]) ?_ (w.length / 4 - 2) ⟨by omega, movS (addS (keyR w (w.length / 4 - 1)) b) backL (mvM (-1)), mov_len _ _ _, hd0, ?_, rfl⟩
    · rintro i env rows ⟨hi, b', hb', hde, hh, rfl⟩ R hR
      simp only [has] at hh
      obtain ⟨h6, h2, h3, h4, -⟩ := hh
      cases i with
      | zero =>
        have k0 : ∀ rows k, kCall fAdd rows k [kd, b16D b', .raw (it 0)] = k (b16D (addS (keyR w 0) b')) rows := fun rows k => kA rows k b' 0 hb' (by omega)
        have ef : addS (keyR w 0) b' = decK (some (w, x)) b := hde
        simp only [↓amD, amU, Nat.reduceBEq, Nat.reduceAdd, Nat.reduceSub, Nat.reduceMul, Nat.reduceMod, Nat.reducePow, Nat.reduceLT, Nat.reduceDiv, Int.reduceToNat, BitVec.reduceToNat, zipEnv, Int.reduceLE, Int.reduceLT, Int.reduceNeg, BitVec.reduceEq, Int.reduceAdd, Int.reduceSub, Int.reduceMul, Nat.reduceLeDiff, Int.reduceEq, h6, h2, h3, h4, ha, k0, ef, b16_fits]
        exact .val _ rfl
      | succ i =>
        have e0 : ((0 : Int) < ((i + 1 : Nat) : Int)) = True := eq_true (by omega)
        have e1 : wz (((i + 1 : Nat) : Int) - 1) = ((i : Nat) : Int) := by rw [wz_id (by omega)]; omega
        have ka := fun rows k => kA rows k b' (i + 1) hb' (by omega)
        have hl : (addS (keyR w (i + 1)) b').length = 16 := add_len _ _ (keyR_len _ _) hb'
        have kx := fun rows k => kMixed rows k (addS (keyR w (i + 1)) b') [14#8, 11#8, 13#8, 9#8] hl rfl
        have km := fun rows2 k => kMoved (rows := some ⟨S1, [kd]⟩ :: rows2) (row := ⟨S1, [kd]⟩) (r := 0) (p := [0, 2]) rfl hg1 k (mixS (addS (keyR w (i + 1)) b') [14#8, 11#8, 13#8, 9#8]) (-1) (mix_len16 _ _) back_len (.inr rfl)
        simp only [f4D, bs, List.map_cons, List.map_nil] at kx
        simp only [↓amD, amU, Nat.reduceBEq, Nat.reduceAdd, Nat.reduceSub, Nat.reduceMul, Nat.reduceMod, Nat.reducePow, Nat.reduceLT, Nat.reduceDiv, Int.reduceToNat, BitVec.reduceToNat, zipEnv, Int.reduceLE, Int.reduceLT, Int.reduceNeg, BitVec.reduceEq, Int.reduceAdd, Int.reduceSub, Int.reduceMul, Nat.reduceLeDiff, Int.reduceEq, h6, h2, h3, h4, hm, hx, ha, km, kx, ka, e0, e1, b16_fits, decide_true]
        exact hR i _ _ (by omega) ⟨by omega, _, mov_len _ _ _, hde, by simp only [has, ↓amD, amU, Nat.reduceBEq, Nat.reduceAdd, Nat.reduceSub, Nat.reduceMul, Nat.reduceMod, Nat.reducePow, Nat.reduceLT, Nat.reduceDiv, Int.reduceToNat, BitVec.reduceToNat, zipEnv, Int.reduceLE, Int.reduceLT, Int.reduceNeg, BitVec.reduceEq, Int.reduceAdd, Int.reduceSub, Int.reduceMul, Nat.reduceLeDiff, Int.reduceEq, h2, h3, h4], rfl⟩
    · simp only [has, ↓amD, amU, Nat.reduceBEq, Nat.reduceAdd, Nat.reduceSub, Nat.reduceMul, Nat.reduceMod, Nat.reducePow, Nat.reduceLT, Nat.reduceDiv, Int.reduceToNat, BitVec.reduceToNat, zipEnv, Int.reduceLE, Int.reduceLT, Int.reduceNeg, BitVec.reduceEq, Int.reduceAdd, Int.reduceSub, Int.reduceMul, Nat.reduceLeDiff, Int.reduceEq]
/-- a slice of words of ours, as a callee sees it -/
theorem ownW {d : D} {rows : Rows} {w : List (BitVec 32)} (h : Own L32 d rows (us w)) (hw : w ≠ []) (n : Nat) : hasRef d = true ∧ ∃ e, view rows (n + 1) d = some (.lst L32 (us w) e) := by
  rcases h with ⟨h1, rfl⟩ | ⟨r, ex, rfl, hl⟩
  · exact absurd (us_inj (b := []) h1) hw
  · refine ⟨by simp [hasRef], ex, ?_⟩
    simp only [Am.view]
    have : Am.elems rows (.sl L32 r [] 0 (us w).length ex) = some (us w) := by simp only [Am.elems, hl]; simp
    rw [this]
    simp [Sh.pure]
def kA (d : D) : D := .agg S1 [d, t256 boxL, t256 backL]
theorem kA_view {d : D} {rows : Rows} {w : List (BitVec 32)} (h : Own L32 d rows (us w)) (hw : w ≠ []) (n : Nat) : hasRef (kA d) = true ∧ ∃ e, view rows (n + 2) (kA d) = some (kD (some (w, e))) := by
  obtain ⟨h1, e, h2⟩ := ownW h hw n
  refine ⟨by simp [kA, hasRef, hasRefL, h1, Sh.pure], e, ?_⟩
  simp [kA, kD, view, t256, Sh.pure, mapO, h2]
theorem b16_ref (b : List (BitVec 8)) : hasRef (b16D b) = false := by simp [b16D, hasRef, Sh.pure]
theorem b16_view (rows : Rows) (n : Nat) (b : List (BitVec 8)) : view rows (n + 1) (b16D b) = some (b16D b) := by simp [b16D, view, Sh.pure]
theorem b16_shift (n : Nat) (b : List (BitVec 8)) : shift n (b16D b) = b16D b := by simp [b16D, shift, Sh.pure]
theorem b16_noLst (b : List (BitVec 8)) : noLst (b16D b) = true := by simp [b16D, noLst, Sh.pure]
theorem kEnc {d : D} {rows : Rows} {w : List (BitVec 32)} (h : Own L32 d rows (us w)) (h1 : 8 ≤ w.length) (h2 : w.length ≤ 64) (k : D → Rows → Prop) (b : List (BitVec 8)) (hb : b.length = 16) :
    kCall fEnc rows k [kA d, b16D b] = k (b16D (encS (keyR w) boxL (w.length / 4 - 1) b)) rows := by
  obtain ⟨hr, e, hv⟩ := kA_view h (by intro hh; rw [hh] at h1; simp at h1) 7
  have hf : fEnc [kD (some (w, e)), b16D b] [] = some (b16D (encS (keyR w) boxL (w.length / 4 - 1) b), []) := by
    rw [fEnc, fn2_eq (rdOf_eq kD_inj _) (rdOf_eq b16D_inj _) (by simp [okK, h1, h2, hb])]; rfl
  unfold kCall
  simp [hasRefL, hr, mapO, hv, b16_view, hf, bnd, b16_shift, b16_noLst, shiftRows, noLstRows]
theorem kDec {d : D} {rows : Rows} {w : List (BitVec 32)} (h : Own L32 d rows (us w)) (h1 : 8 ≤ w.length) (h2 : w.length ≤ 64) (k : D → Rows → Prop) (b : List (BitVec 8)) (hb : b.length = 16) :
    kCall fDec rows k [kA d, b16D b] = k (b16D (decS (keyR w) backL (w.length / 4 - 1) b)) rows := by
  obtain ⟨hr, e, hv⟩ := kA_view h (by intro hh; rw [hh] at h1; simp at h1) 7
  have hf : fDec [kD (some (w, e)), b16D b] [] = some (b16D (decS (keyR w) backL (w.length / 4 - 1) b), []) := by
    rw [fDec, fn2_eq (rdOf_eq kD_inj _) (rdOf_eq b16D_inj _) (by simp [okK, h1, h2, hb])]; rfl
  unfold kCall
  simp [hasRefL, hr, mapO, hv, b16_view, hf, bnd, b16_shift, b16_noLst, shiftRows, noLstRows]
theorem kRounds {d : D} {rows : Rows} {w : List (BitVec 32)} (h : Own L32 d rows (us w)) (h1 : w ≠ []) (h2 : w.length ≤ 64) (k : D → Rows → Prop) :
    kCall fRounds rows k [kA d] = k (.raw (it ((w.length / 4 - 1 : Nat) : Int))) rows := by
  obtain ⟨hr, e, hv⟩ := kA_view h h1 7
  have hf : fRounds [kD (some (w, e))] [] = some (.raw (it ((w.length / 4 - 1 : Nat) : Int)), []) := by
    rw [fRounds, fn1_eq (rdOf_eq kD_inj _) (by simp [kLen, h2])]; rfl
  unfold kCall
  simp [hasRefL, hr, mapO, hv, hf, bnd, shift, noLst, shiftRows, noLstRows]
theorem kD0_ref : hasRef (kD none) = false := by simp [kD, hasRef, hasRefL, t256, Sh.pure]
theorem kEnc0 (rows : Rows) (k : D → Rows → Prop) (b : List (BitVec 8)) (hb : b.length = 16) : kCall fEnc rows k [kD none, b16D b] = k (b16D b) rows := by
  refine (kCall_val (by simp [hasRefL, kD0_ref, b16_ref]) (r := (b16D b, [])) ?_).trans ?_
  · rw [fEnc, fn2_eq (rdOf_eq kD_inj _) (rdOf_eq b16D_inj _) (by simp [okK, hb])]; rfl
  · simp [b16_shift, shiftRows]
theorem kDec0 (rows : Rows) (k : D → Rows → Prop) (b : List (BitVec 8)) (hb : b.length = 16) : kCall fDec rows k [kD none, b16D b] = k (b16D b) rows := by
  refine (kCall_val (by simp [hasRefL, kD0_ref, b16_ref]) (r := (b16D b, [])) ?_).trans ?_
  · rw [fDec, fn2_eq (rdOf_eq kD_inj _) (rdOf_eq b16D_inj _) (by simp [okK, hb])]; rfl
  · simp [b16_shift, shiftRows]
end Job
end Go.Am
