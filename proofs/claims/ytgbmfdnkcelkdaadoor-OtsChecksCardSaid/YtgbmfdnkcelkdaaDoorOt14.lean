/- LM-OTS: the reference's digits -/
import Derived.Test.YtgbmfdnkcelkdaaDoorOt13
namespace Go.Am
set_option linter.unusedSimpArgs false
set_option linter.unusedVariables false
attribute [local congr] bnd_congr kCond_congr kGd_congr kPick_congr kCall_congr kIdx_congr kSlice_congr kLoop_congr cond_congr' aBin_congr aBounds_congr aApp_congr aCopy_congr kFn_congr
namespace Job
open Go.Am.F
set_option maxRecDepth 10000
theorem natD_inj (x y : Nat) (h : natD x = natD y) : x = y := by
  injection h with h; exact it_injN h
def bit8 (b : BitVec 8) : List Nat := (List.range 8).map fun k => b.toNat / 2 ^ (7 - k) % 2
def bitsS (p : List (BitVec 8)) : List Nat := p.flatMap bit8
theorem bit8_len (b : BitVec 8) : (bit8 b).length = 8 := by simp [bit8]
theorem bits_len (p : List (BitVec 8)) : (bitsS p).length = 8 * p.length := by
  induction p with
  | nil => rfl
  | cons b p ih => simp only [bitsS, List.flatMap_cons, List.length_append, bit8_len, List.length_cons] at ih ⊢; omega
def fBits : Fn := fn1 rdBs (fun p => decide (p.length ≤ 100000)) fun p => outI (bitsS p)
set_option maxHeartbeats 1000000 in
theorem bits_ok (C : Ctx) (hC : CtxOK C P) : Meets C.glob P 16 (Fn.run fBits) := by
  refine fn_meetsN (m_ref05_Bits C hC) fun ds rows r h => ?_
  obtain ⟨d, p, rfl, rfl, g0, hp, rfl⟩ := fn1_some h
  obtain ⟨ex, hx⟩ := rdBs_nrm g0
  simp only [decide_eq_true_eq] at hp
  refine ⟨rfl, _, .cons hx .nil, afun_mk rfl ?_⟩
  clear h g0 hx
  unfold a_ref05_Bits r_ref05_Bits
  have b0 : ∀ n : Nat, ((0 : Int) ≤ (n : Int)) = True := fun n => eq_true (by omega)
  simp only [↓amD, amU, Nat.reduceBEq, Nat.reduceAdd, Nat.reduceSub, Nat.reduceMul, Nat.reduceMod, Nat.reducePow, Nat.reduceLT, Nat.reduceDiv, Int.reduceToNat, BitVec.reduceToNat, zipEnv, Int.reduceLE, Int.reduceLT, Int.reduceNeg, BitVec.reduceEq, Int.reduceAdd, Int.reduceSub, Int.reduceMul, Nat.reduceLeDiff, Int.reduceEq, bs_len]
  refine kLoop_up p.length (fun i env rows => has env [(9, .raw (it (i : Int))), (8, .raw (it (p.length : Int))), (7, .lst L8 (bs p) ex)] ∧ ∃ d', look env 3 = some d' ∧ Own LI d' rows ((bitsS (p.take i)).map natD)) ?_ ?_ ⟨?_, .raw (.slice none 0 0), ?_, .inl ⟨rfl, rfl⟩⟩
  · rintro i hi env rows ⟨hh, d', h3, hO⟩ R hR
    simp only [has] at hh
    have e0 : ((i : Int) < (p.length : Int)) = True := eq_true (by omega)
    have e1 := wz_succ i (by omega)
    have g : (bs p)[i]? = some (.raw (u8 (p.getD i 0#8))) := bs_get hi
    have hs : bitsS (p.take (i + 1)) = bitsS (p.take i) ++ (bit8 (p.getD i 0#8)).take 8 := by
      have h8 : (bit8 (p.getD i 0#8)).take 8 = bit8 (p.getD i 0#8) := List.take_of_length_le (by rw [bit8_len]; exact Nat.le_refl _)
      rw [h8, List.take_succ_eq_append_getElem hi, bitsS, List.flatMap_append]
      simp [bitsS, List.getD, hi]
    have hbl := bits_len (p.take i)
    rw [List.length_take] at hbl
    generalize p.getD i 0#8 = b at *
    simp only [↓amD, amU, Nat.reduceBEq, Nat.reduceAdd, Nat.reduceSub, Nat.reduceMul, Nat.reduceMod, Nat.reducePow, Nat.reduceLT, Nat.reduceDiv, Int.reduceToNat, BitVec.reduceToNat, zipEnv, Int.reduceLE, Int.reduceLT, Int.reduceNeg, BitVec.reduceEq, Int.reduceAdd, Int.reduceSub, Int.reduceMul, Nat.reduceLeDiff, Int.reduceEq, lv_app0, lv_appk, set_app0, set_appk, List.append_assoc, List.append_nil, Nat.add_assoc, hh, e0, e1, b0, h3, bs_len, g]
    refine kLoop_up 8 (fun k env rows => has env [(6, .raw (it (7 - (k : Int)))), (5, .raw (u8 b)), (9, .raw (it (i : Int))), (8, .raw (it (p.length : Int))), (7, .lst L8 (bs p) ex)] ∧ ∃ d', look env 3 = some d' ∧ Own LI d' rows ((bitsS (p.take i) ++ (bit8 b).take k).map natD)) ?_ ?_ ⟨?_, d', ?_, ?_⟩
    · clear hh h3 hO
      rintro k hk env rows ⟨hh, d', h3, hO⟩ R2 hR2
      simp only [has] at hh
      have f0 : ((0 : Int) ≤ 7 - (k : Int)) = True := eq_true (by omega)
      have f1 : wz (7 - (k : Int) - 1) = 7 - ((k + 1 : Nat) : Int) := by rw [wz_id (by omega)]; omega
      have f2 : (7 - (k : Int)) = ((7 - k : Nat) : Int) := by omega
      have f3 : ∀ K, aBin .shr (it (b.toNat : Int)) (it (7 - (k : Int))) K = K (.raw (it ((b.toNat / 2 ^ (7 - k) : Nat) : Int))) := fun K => by rw [f2]; exact shr_n b.toNat (7 - k) .i64 (by omega) K
      have f4 : ∀ n : Nat, (n : Int).tmod 2 = ((n % 2 : Nat) : Int) := fun n => by rw [Int.tmod_eq_emod_of_nonneg (by omega)]; omega
      have hk2 : (bit8 b).take (k + 1) = (bit8 b).take k ++ [b.toNat / 2 ^ (7 - k) % 2] := by
        rw [List.take_succ_eq_append_getElem (by rw [bit8_len]; exact hk)]
        simp [bit8]
      have hkl : (bitsS (p.take i) ++ (bit8 b).take k).length ≤ 8 * p.length + 8 := by rw [List.length_append, hbl, List.length_take, bit8_len]; omega
      simp only [↓amD, amU, Nat.reduceBEq, Nat.reduceAdd, Nat.reduceSub, Nat.reduceMul, Nat.reduceMod, Nat.reducePow, Nat.reduceLT, Nat.reduceDiv, Int.reduceToNat, BitVec.reduceToNat, zipEnv, Int.reduceLE, Int.reduceLT, Int.reduceNeg, BitVec.reduceEq, Int.reduceAdd, Int.reduceSub, Int.reduceMul, Nat.reduceLeDiff, Int.reduceEq, lv_app0, lv_appk, set_app0, set_appk, List.append_assoc, List.append_nil, Nat.add_assoc, hh, f0, f1, f3, f4, h3, elems_one]
      refine app_own hO.push (by rw [List.length_map]; simp [most] at hkl ⊢; omega) (by rw [List.length_map]; simp [most] at hkl ⊢; omega) fun d2 rows' hO' hfr hlen' _ => ?_
      simp only [↓amD, amU, Nat.reduceBEq, Nat.reduceAdd, Nat.reduceSub, Nat.reduceMul, Nat.reduceMod, Nat.reducePow, Nat.reduceLT, Nat.reduceDiv, Int.reduceToNat, BitVec.reduceToNat, zipEnv, Int.reduceLE, Int.reduceLT, Int.reduceNeg, BitVec.reduceEq, Int.reduceAdd, Int.reduceSub, Int.reduceMul, Nat.reduceLeDiff, Int.reduceEq, lv_app0, lv_appk, set_app0, set_appk, List.append_assoc, List.append_nil, Nat.add_assoc, hh, f1]
      refine hR2 _ _ ⟨by simp only [has, ↓amD, amU, Nat.reduceBEq, Nat.reduceAdd, Nat.reduceSub, Nat.reduceMul, Nat.reduceMod, Nat.reducePow, Nat.reduceLT, Nat.reduceDiv, Int.reduceToNat, BitVec.reduceToNat, zipEnv, Int.reduceLE, Int.reduceLT, Int.reduceNeg, BitVec.reduceEq, Int.reduceAdd, Int.reduceSub, Int.reduceMul, Nat.reduceLeDiff, Int.reduceEq, hh], d2, by simp only [↓amD, amU, Nat.reduceBEq, Nat.reduceAdd, Nat.reduceSub, Nat.reduceMul, Nat.reduceMod, Nat.reducePow, Nat.reduceLT, Nat.reduceDiv, Int.reduceToNat, BitVec.reduceToNat, zipEnv, Int.reduceLE, Int.reduceLT, Int.reduceNeg, BitVec.reduceEq, Int.reduceAdd, Int.reduceSub, Int.reduceMul, Nat.reduceLeDiff, Int.reduceEq], ?_⟩
      rw [hk2, ← List.append_assoc, List.map_append]
      exact hO'
    · clear hh h3 hO
      rintro env rows ⟨hh, d', h3, hO⟩ R2
      simp only [has] at hh
      have f0 : ((0 : Int) ≤ 7 - ((8 : Nat) : Int)) = False := eq_false (by decide)
      simp only [↓amD, amU, Nat.reduceBEq, Nat.reduceAdd, Nat.reduceSub, Nat.reduceMul, Nat.reduceMod, Nat.reducePow, Nat.reduceLT, Nat.reduceDiv, Int.reduceToNat, BitVec.reduceToNat, zipEnv, Int.reduceLE, Int.reduceLT, Int.reduceNeg, BitVec.reduceEq, Int.reduceAdd, Int.reduceSub, Int.reduceMul, Nat.reduceLeDiff, Int.reduceEq, lv_app0, lv_appk, set_app0, set_appk, List.append_assoc, List.append_nil, Nat.add_assoc, hh, f0, e1]
      refine hR _ _ ⟨by simp only [has, ↓amD, amU, Nat.reduceBEq, Nat.reduceAdd, Nat.reduceSub, Nat.reduceMul, Nat.reduceMod, Nat.reducePow, Nat.reduceLT, Nat.reduceDiv, Int.reduceToNat, BitVec.reduceToNat, zipEnv, Int.reduceLE, Int.reduceLT, Int.reduceNeg, BitVec.reduceEq, Int.reduceAdd, Int.reduceSub, Int.reduceMul, Nat.reduceLeDiff, Int.reduceEq, hh], d', by simp only [↓amD, amU, Nat.reduceBEq, Nat.reduceAdd, Nat.reduceSub, Nat.reduceMul, Nat.reduceMod, Nat.reducePow, Nat.reduceLT, Nat.reduceDiv, Int.reduceToNat, BitVec.reduceToNat, zipEnv, Int.reduceLE, Int.reduceLT, Int.reduceNeg, BitVec.reduceEq, Int.reduceAdd, Int.reduceSub, Int.reduceMul, Nat.reduceLeDiff, Int.reduceEq, h3], ?_⟩
      rw [hs]; exact hO
    · simp only [has, ↓amD, amU, Nat.reduceBEq, Nat.reduceAdd, Nat.reduceSub, Nat.reduceMul, Nat.reduceMod, Nat.reducePow, Nat.reduceLT, Nat.reduceDiv, Int.reduceToNat, BitVec.reduceToNat, zipEnv, Int.reduceLE, Int.reduceLT, Int.reduceNeg, BitVec.reduceEq, Int.reduceAdd, Int.reduceSub, Int.reduceMul, Nat.reduceLeDiff, Int.reduceEq, hh]
    · simp only [↓amD, amU, Nat.reduceBEq, Nat.reduceAdd, Nat.reduceSub, Nat.reduceMul, Nat.reduceMod, Nat.reducePow, Nat.reduceLT, Nat.reduceDiv, Int.reduceToNat, BitVec.reduceToNat, zipEnv, Int.reduceLE, Int.reduceLT, Int.reduceNeg, BitVec.reduceEq, Int.reduceAdd, Int.reduceSub, Int.reduceMul, Nat.reduceLeDiff, Int.reduceEq, h3]
    · simpa using hO
  · rintro env rows ⟨hh, d', h3, hO⟩ R
    simp only [has] at hh
    have e0 : ((p.length : Int) < (p.length : Int)) = False := eq_false (by omega)
    rw [List.take_length] at hO
    simp only [↓amD, amU, Nat.reduceBEq, Nat.reduceAdd, Nat.reduceSub, Nat.reduceMul, Nat.reduceMod, Nat.reducePow, Nat.reduceLT, Nat.reduceDiv, Int.reduceToNat, BitVec.reduceToNat, zipEnv, Int.reduceLE, Int.reduceLT, Int.reduceNeg, BitVec.reduceEq, Int.reduceAdd, Int.reduceSub, Int.reduceMul, Nat.reduceLeDiff, Int.reduceEq, lv_app0, lv_appk, set_app0, set_appk, List.append_assoc, List.append_nil, Nat.add_assoc, hh, e0, h3, hO.nTup]
    have := Own.expoL hO rfl
    rw [List.length_map] at this
    exact this
  · simp only [has, ↓amD, amU, Nat.reduceBEq, Nat.reduceAdd, Nat.reduceSub, Nat.reduceMul, Nat.reduceMod, Nat.reducePow, Nat.reduceLT, Nat.reduceDiv, Int.reduceToNat, BitVec.reduceToNat, zipEnv, Int.reduceLE, Int.reduceLT, Int.reduceNeg, BitVec.reduceEq, Int.reduceAdd, Int.reduceSub, Int.reduceMul, Nat.reduceLeDiff, Int.reduceEq]
  · simp only [↓amD, amU, Nat.reduceBEq, Nat.reduceAdd, Nat.reduceSub, Nat.reduceMul, Nat.reduceMod, Nat.reducePow, Nat.reduceLT, Nat.reduceDiv, Int.reduceToNat, BitVec.reduceToNat, zipEnv, Int.reduceLE, Int.reduceLT, Int.reduceNeg, BitVec.reduceEq, Int.reduceAdd, Int.reduceSub, Int.reduceMul, Nat.reduceLeDiff, Int.reduceEq]
theorem kBits (rows : Rows) (k : D → Rows → Prop) (d : D) (p : List (BitVec 8)) (hd : BsIn rows d p) (hp : p.length ≤ 100000) :
    kCall fBits rows k [d] = k (.sl LI (0 + rows.length) [] 0 (bitsS p).length false) (rows ++ [some ⟨LI, (bitsS p).map natD⟩]) := by
  refine (kCall_rd1 (.bs hd) (by simp [hp]) rfl k).trans ?_
  simp [outI, shift, shiftRows, Sh.pure]
theorem RdIn.il {rows : Rows} {r n : Nat} {ex : Bool} {l : List Nat} (hl : live rows r = some ⟨LI, l.map natD⟩) (hn : l.length = n) : RdIn rows (rdLst LI natD) (.sl LI r [] 0 n ex) l := by
  refine ⟨⟨.lst LI (l.map natD) ex, ?_, rdLst_eq natD_inj l ex⟩, fun h => by simp [hasRef] at h⟩
  have : elems rows (.sl LI r [] 0 n ex) = some (l.map natD) := by
    simp only [elems, hl]; simp [List.take_of_length_le, hn]
  simp only [view]
  rw [this]
  simp [Sh.pure, hn]
def digW (l : List Nat) (s : Nat) : Nat → Nat
  | 0 => 0
  | j + 1 => digW l s j * 2 + l.getD (s + j) 0
def digR (l : List Nat) (w k : Nat) : Nat := digW l (w * k) w
theorem digW_lt (l : List Nat) (h : ∀ x ∈ l, x ≤ 1) (s : Nat) : ∀ j, digW l s j < 2 ^ j
  | 0 => by simp [digW]
  | j + 1 => by
    have ih := digW_lt l h s j
    have : l.getD (s + j) 0 ≤ 1 := by
      by_cases c : s + j < l.length
      · rw [List.getD, List.getElem?_eq_getElem c]; exact h _ (List.getElem_mem c)
      · rw [List.getD, List.getElem?_eq_none (by omega)]; exact Nat.zero_le _
    rw [digW, Nat.pow_succ]; omega
noncomputable def fRDig : Fn := fn3 (rdLst LI natD) rdI rdI (fun l w n => decide (l.length ≤ 1000000) && (l.all fun x => decide (x ≤ 1)) && inI w 9 && inI n 1001) fun l w n => outI ((List.range n.toNat).map (digR l w.toNat))
set_option maxHeartbeats 1000000 in
theorem rdig_ok (C : Ctx) (hC : CtxOK C P) : Meets C.glob P 15 (Fn.run fRDig) := by
  refine fn_meetsN (m_ref05_Digits C hC) fun ds rows r h => ?_
  obtain ⟨d, d1, d2, l, w, n, rfl, rfl, g0, g1, g2, hp, rfl⟩ := fn3_some h
  obtain ⟨ex, hx⟩ := rdLst_nrm g0
  cases rdI_some g1
  cases rdI_some g2
  simp only [Bool.and_eq_true, decide_eq_true_eq, inI_eq, List.all_eq_true] at hp
  obtain ⟨⟨⟨hl, h1⟩, hw⟩, hn⟩ := hp
  refine ⟨rfl, _, .cons hx (.cons (.refl _) (.cons (.refl _) .nil)), afun_mk rfl ?_⟩
  clear h g0 hx g1 g2
  obtain ⟨w, rfl⟩ := Int.eq_ofNat_of_zero_le hw.1
  obtain ⟨n, rfl⟩ := Int.eq_ofNat_of_zero_le hn.1
  have hw : w < 9 := by omega
  have hn : n < 1001 := by omega
  simp only [Int.toNat_natCast]
  unfold a_ref05_Digits r_ref05_Digits
  have b0 : ∀ n : Nat, ((0 : Int) ≤ (n : Int)) = True := fun n => eq_true (by omega)
  simp only [↓amD, amU, Nat.reduceBEq, Nat.reduceAdd, Nat.reduceSub, Nat.reduceMul, Nat.reduceMod, Nat.reducePow, Nat.reduceLT, Nat.reduceDiv, Int.reduceToNat, BitVec.reduceToNat, zipEnv, Int.reduceLE, Int.reduceLT, Int.reduceNeg, BitVec.reduceEq, Int.reduceAdd, Int.reduceSub, Int.reduceMul, Nat.reduceLeDiff, Int.reduceEq, lv_app0, lv_appk, set_app0, set_appk, List.append_assoc, List.append_nil, Nat.add_assoc]
  refine kLoop_up n (fun k env rows => has env [(8, .raw (it (k : Int))), (2, .raw (it (n : Int))), (1, .raw (it (w : Int))), (0, .lst LI (l.map natD) ex)] ∧ ∃ d', look env 7 = some d' ∧ Own LI d' rows (((List.range k).map (digR l w)).map natD)) ?_ ?_ ⟨?_, .raw (.slice none 0 0), ?_, .inl ⟨rfl, rfl⟩⟩
  · rintro k hk env rows ⟨hh, d', h7, hO⟩ R hR
    simp only [has] at hh
    have e0 : ((k : Int) < (n : Int)) = True := eq_true (by omega)
    have e1 := wz_succ k (by omega)
    have hwk : w * k ≤ 8 * 1000 := Nat.mul_le_mul (by omega) (by omega)
    have q1 : wz ((w : Int) * (k : Int)) = ((w * k : Nat) : Int) := by rw [← Int.natCast_mul]; exact wz_id (by omega)
    simp only [↓amD, amU, Nat.reduceBEq, Nat.reduceAdd, Nat.reduceSub, Nat.reduceMul, Nat.reduceMod, Nat.reducePow, Nat.reduceLT, Nat.reduceDiv, Int.reduceToNat, BitVec.reduceToNat, zipEnv, Int.reduceLE, Int.reduceLT, Int.reduceNeg, BitVec.reduceEq, Int.reduceAdd, Int.reduceSub, Int.reduceMul, Nat.reduceLeDiff, Int.reduceEq, lv_app0, lv_appk, set_app0, set_appk, List.append_assoc, List.append_nil, Nat.add_assoc, hh, e0, e1, h7]
    refine kLoop_up w (fun j env rows => has env [(10, .raw (it (j : Int))), (9, .raw (it (digW l (w * k) j : Int))), (8, .raw (it (k : Int))), (2, .raw (it (n : Int))), (1, .raw (it (w : Int))), (0, .lst LI (l.map natD) ex)] ∧ ∃ d', look env 7 = some d' ∧ Own LI d' rows (((List.range k).map (digR l w)).map natD)) ?_ ?_ ⟨?_, d', ?_, hO⟩
    · clear hh h7 hO
      rintro j hj env rows ⟨hh, d', h7, hO⟩ R2 hR2
      simp only [has] at hh
      have f0 : ((j : Int) < (w : Int)) = True := eq_true (by omega)
      have f1 := wz_succ j (by omega)
      have hd := digW_lt l h1 (w * k) j
      have hd2 : 2 ^ j ≤ 2 ^ 8 := Nat.pow_le_pow_right (by decide) (by omega)
      have f2 : wz ((digW l (w * k) j : Int) * 2) = ((digW l (w * k) j * 2 : Nat) : Int) := by rw [wz_id (by omega)]; omega
      have f3 : wz (((w * k : Nat) : Int) + (j : Int)) = ((w * k + j : Nat) : Int) := by rw [wz_id (by omega)]; omega
      by_cases c : w * k + j < l.length
      · have c1 : (((w * k + j : Nat) : Int) < (l.length : Int)) = True := eq_true (by omega)
        have g : (l.map natD)[w * k + j]? = some (.raw (it ((l.getD (w * k + j) 0 : Nat) : Int))) := by simp [natD, List.getD, c]
        have hb : l.getD (w * k + j) 0 ≤ 1 := by rw [List.getD, List.getElem?_eq_getElem c]; exact h1 _ (List.getElem_mem c)
        have f4 : wz (((digW l (w * k) j * 2 : Nat) : Int) + ((l.getD (w * k + j) 0 : Nat) : Int)) = (digW l (w * k) (j + 1) : Int) := by rw [wz_id (by omega), digW]; omega
        simp only [↓amD, amU, Nat.reduceBEq, Nat.reduceAdd, Nat.reduceSub, Nat.reduceMul, Nat.reduceMod, Nat.reducePow, Nat.reduceLT, Nat.reduceDiv, Int.reduceToNat, BitVec.reduceToNat, zipEnv, Int.reduceLE, Int.reduceLT, Int.reduceNeg, BitVec.reduceEq, Int.reduceAdd, Int.reduceSub, Int.reduceMul, Nat.reduceLeDiff, Int.reduceEq, lv_app0, lv_appk, set_app0, set_appk, List.append_assoc, List.append_nil, Nat.add_assoc, hh, f0, f1, f2, f3, f4, q1, c1, b0, h7, List.length_map, g]
        exact hR2 _ _ ⟨by simp only [has, ↓amD, amU, Nat.reduceBEq, Nat.reduceAdd, Nat.reduceSub, Nat.reduceMul, Nat.reduceMod, Nat.reducePow, Nat.reduceLT, Nat.reduceDiv, Int.reduceToNat, BitVec.reduceToNat, zipEnv, Int.reduceLE, Int.reduceLT, Int.reduceNeg, BitVec.reduceEq, Int.reduceAdd, Int.reduceSub, Int.reduceMul, Nat.reduceLeDiff, Int.reduceEq, hh], d', by simp only [↓amD, amU, Nat.reduceBEq, Nat.reduceAdd, Nat.reduceSub, Nat.reduceMul, Nat.reduceMod, Nat.reducePow, Nat.reduceLT, Nat.reduceDiv, Int.reduceToNat, BitVec.reduceToNat, zipEnv, Int.reduceLE, Int.reduceLT, Int.reduceNeg, BitVec.reduceEq, Int.reduceAdd, Int.reduceSub, Int.reduceMul, Nat.reduceLeDiff, Int.reduceEq, h7], hO⟩
      · have c1 : (((w * k + j : Nat) : Int) < (l.length : Int)) = False := eq_false (by omega)
        have hb : l.getD (w * k + j) 0 = 0 := by rw [List.getD, List.getElem?_eq_none (by omega)]; rfl
        have f4 : digW l (w * k) (j + 1) = digW l (w * k) j * 2 := by rw [digW, hb, Nat.add_zero]
        simp only [↓amD, amU, Nat.reduceBEq, Nat.reduceAdd, Nat.reduceSub, Nat.reduceMul, Nat.reduceMod, Nat.reducePow, Nat.reduceLT, Nat.reduceDiv, Int.reduceToNat, BitVec.reduceToNat, zipEnv, Int.reduceLE, Int.reduceLT, Int.reduceNeg, BitVec.reduceEq, Int.reduceAdd, Int.reduceSub, Int.reduceMul, Nat.reduceLeDiff, Int.reduceEq, lv_app0, lv_appk, set_app0, set_appk, List.append_assoc, List.append_nil, Nat.add_assoc, hh, f0, f1, f2, f3, q1, c1, b0, h7, List.length_map]
        exact hR2 _ _ ⟨by simp only [has, ↓amD, amU, Nat.reduceBEq, Nat.reduceAdd, Nat.reduceSub, Nat.reduceMul, Nat.reduceMod, Nat.reducePow, Nat.reduceLT, Nat.reduceDiv, Int.reduceToNat, BitVec.reduceToNat, zipEnv, Int.reduceLE, Int.reduceLT, Int.reduceNeg, BitVec.reduceEq, Int.reduceAdd, Int.reduceSub, Int.reduceMul, Nat.reduceLeDiff, Int.reduceEq, hh, f4], d', by simp only [↓amD, amU, Nat.reduceBEq, Nat.reduceAdd, Nat.reduceSub, Nat.reduceMul, Nat.reduceMod, Nat.reducePow, Nat.reduceLT, Nat.reduceDiv, Int.reduceToNat, BitVec.reduceToNat, zipEnv, Int.reduceLE, Int.reduceLT, Int.reduceNeg, BitVec.reduceEq, Int.reduceAdd, Int.reduceSub, Int.reduceMul, Nat.reduceLeDiff, Int.reduceEq, h7], hO⟩
    · clear hh h7 hO
      rintro env rows ⟨hh, d', h7, hO⟩ R2
      simp only [has] at hh
      have f0 : ((w : Int) < (w : Int)) = False := eq_false (by omega)
      have hkl : (((List.range k).map (digR l w)).map natD).length = k := by simp
      simp only [↓amD, amU, Nat.reduceBEq, Nat.reduceAdd, Nat.reduceSub, Nat.reduceMul, Nat.reduceMod, Nat.reducePow, Nat.reduceLT, Nat.reduceDiv, Int.reduceToNat, BitVec.reduceToNat, zipEnv, Int.reduceLE, Int.reduceLT, Int.reduceNeg, BitVec.reduceEq, Int.reduceAdd, Int.reduceSub, Int.reduceMul, Nat.reduceLeDiff, Int.reduceEq, lv_app0, lv_appk, set_app0, set_appk, List.append_assoc, List.append_nil, Nat.add_assoc, hh, f0, e1, h7, elems_one]
      refine app_own hO.push (by rw [hkl]; simp [most]; omega) (by rw [hkl]; simp [most]; omega) fun d2 rows' hO' hfr hlen' _ => ?_
      simp only [↓amD, amU, Nat.reduceBEq, Nat.reduceAdd, Nat.reduceSub, Nat.reduceMul, Nat.reduceMod, Nat.reducePow, Nat.reduceLT, Nat.reduceDiv, Int.reduceToNat, BitVec.reduceToNat, zipEnv, Int.reduceLE, Int.reduceLT, Int.reduceNeg, BitVec.reduceEq, Int.reduceAdd, Int.reduceSub, Int.reduceMul, Nat.reduceLeDiff, Int.reduceEq, lv_app0, lv_appk, set_app0, set_appk, List.append_assoc, List.append_nil, Nat.add_assoc, hh, e1]
      refine hR _ _ ⟨by simp only [has, ↓amD, amU, Nat.reduceBEq, Nat.reduceAdd, Nat.reduceSub, Nat.reduceMul, Nat.reduceMod, Nat.reducePow, Nat.reduceLT, Nat.reduceDiv, Int.reduceToNat, BitVec.reduceToNat, zipEnv, Int.reduceLE, Int.reduceLT, Int.reduceNeg, BitVec.reduceEq, Int.reduceAdd, Int.reduceSub, Int.reduceMul, Nat.reduceLeDiff, Int.reduceEq, hh], d2, by simp only [↓amD, amU, Nat.reduceBEq, Nat.reduceAdd, Nat.reduceSub, Nat.reduceMul, Nat.reduceMod, Nat.reducePow, Nat.reduceLT, Nat.reduceDiv, Int.reduceToNat, BitVec.reduceToNat, zipEnv, Int.reduceLE, Int.reduceLT, Int.reduceNeg, BitVec.reduceEq, Int.reduceAdd, Int.reduceSub, Int.reduceMul, Nat.reduceLeDiff, Int.reduceEq], ?_⟩
      rw [List.range_succ, List.map_append, List.map_append]
      exact hO'
    · simp only [has, ↓amD, amU, Nat.reduceBEq, Nat.reduceAdd, Nat.reduceSub, Nat.reduceMul, Nat.reduceMod, Nat.reducePow, Nat.reduceLT, Nat.reduceDiv, Int.reduceToNat, BitVec.reduceToNat, zipEnv, Int.reduceLE, Int.reduceLT, Int.reduceNeg, BitVec.reduceEq, Int.reduceAdd, Int.reduceSub, Int.reduceMul, Nat.reduceLeDiff, Int.reduceEq, hh]
      simp [digW]
    · simp only [↓amD, amU, Nat.reduceBEq, Nat.reduceAdd, Nat.reduceSub, Nat.reduceMul, Nat.reduceMod, Nat.reducePow, Nat.reduceLT, Nat.reduceDiv, Int.reduceToNat, BitVec.reduceToNat, zipEnv, Int.reduceLE, Int.reduceLT, Int.reduceNeg, BitVec.reduceEq, Int.reduceAdd, Int.reduceSub, Int.reduceMul, Nat.reduceLeDiff, Int.reduceEq, h7]
  · rintro env rows ⟨hh, d', h7, hO⟩ R
    simp only [has] at hh
    have e0 : ((n : Int) < (n : Int)) = False := eq_false (by omega)
    simp only [↓amD, amU, Nat.reduceBEq, Nat.reduceAdd, Nat.reduceSub, Nat.reduceMul, Nat.reduceMod, Nat.reducePow, Nat.reduceLT, Nat.reduceDiv, Int.reduceToNat, BitVec.reduceToNat, zipEnv, Int.reduceLE, Int.reduceLT, Int.reduceNeg, BitVec.reduceEq, Int.reduceAdd, Int.reduceSub, Int.reduceMul, Nat.reduceLeDiff, Int.reduceEq, lv_app0, lv_appk, set_app0, set_appk, List.append_assoc, List.append_nil, Nat.add_assoc, hh, e0, h7, hO.nTup]
    have := Own.expoL hO rfl
    rw [List.length_map] at this
    exact this
  · simp only [has, ↓amD, amU, Nat.reduceBEq, Nat.reduceAdd, Nat.reduceSub, Nat.reduceMul, Nat.reduceMod, Nat.reducePow, Nat.reduceLT, Nat.reduceDiv, Int.reduceToNat, BitVec.reduceToNat, zipEnv, Int.reduceLE, Int.reduceLT, Int.reduceNeg, BitVec.reduceEq, Int.reduceAdd, Int.reduceSub, Int.reduceMul, Nat.reduceLeDiff, Int.reduceEq]
  · simp only [↓amD, amU, Nat.reduceBEq, Nat.reduceAdd, Nat.reduceSub, Nat.reduceMul, Nat.reduceMod, Nat.reducePow, Nat.reduceLT, Nat.reduceDiv, Int.reduceToNat, BitVec.reduceToNat, zipEnv, Int.reduceLE, Int.reduceLT, Int.reduceNeg, BitVec.reduceEq, Int.reduceAdd, Int.reduceSub, Int.reduceMul, Nat.reduceLeDiff, Int.reduceEq]
theorem kRDig (rows : Rows) (k : D → Rows → Prop) (d : D) (l : List Nat) (w n : Nat) (hd : RdIn rows (rdLst LI natD) d l) (hl : l.length ≤ 1000000) (h1 : ∀ x ∈ l, x ≤ 1) (hw : w < 9) (hn : n < 1001) :
    kCall fRDig rows k [d, .raw (it (w : Int)), .raw (it (n : Int))] = k (.sl LI (0 + rows.length) [] 0 n false) (rows ++ [some ⟨LI, ((List.range n).map (digR l w)).map natD⟩]) := by
  refine (kCall_rd3 hd (RdIn.int _) (RdIn.int _) (by simp [hl, inI]; exact ⟨⟨h1, by omega⟩, by omega⟩) rfl k).trans ?_
  simp [outI, shift, shiftRows, Sh.pure]
theorem BitVec.ofNat_toNat_self (x : BitVec 8) : BitVec.ofNat 8 x.toNat = x := by simp
theorem bits_get : ∀ (p : List (BitVec 8)) (m : Nat), m < 8 * p.length → (bitsS p).getD m 0 = (p.getD (m / 8) 0#8).toNat / 2 ^ (7 - m % 8) % 2
  | [], m, h => by simp at h
  | b :: p, m, h => by
    simp only [bitsS, List.flatMap_cons]
    by_cases c : m < 8
    · rw [List.getD, List.getElem?_append_left (by rw [bit8_len]; exact c), show m / 8 = 0 by omega, show m % 8 = m by omega]
      simp [bit8, c]
    · rw [List.getD, List.getElem?_append_right (by rw [bit8_len]; omega), bit8_len]
      have ih := bits_get p (m - 8) (by simp only [List.length_cons] at h; omega)
      simp only [bitsS, List.getD] at ih
      rw [ih, show m / 8 = (m - 8) / 8 + 1 by omega, show (m - 8) % 8 = m % 8 by omega]
      simp
theorem bits_le (p : List (BitVec 8)) : ∀ x ∈ bitsS p, x ≤ 1 := by
  intro x hx
  obtain ⟨b, -, hb⟩ := List.mem_flatMap.1 hx
  obtain ⟨k, -, rfl⟩ := List.mem_map.1 hb
  omega
theorem dig_coef (p : List (BitVec 8)) (k w : Nat) (hw : w4 w = true) (hk : k < p.length * (8 / w)) : digR (bitsS p) w k = coefN p k w := by
  unfold digR coefN
  rcases w4_eq.1 hw with rfl | rfl | rfl | rfl
  · have key : ∀ (n : Fin 256) (r : Fin 8), (0 * 2 + n.val / 2 ^ (7 - (1 * r.val + 0)) % 2) = ((BitVec.ofNat 8 n.val >>> (8 - 1 * r.val - 1)) &&& BitVec.ofNat 8 (2 ^ 1 - 1)).toNat := by decide +kernel
    have hk : k < p.length * 8 := hk
    have hr : k % 8 < 8 := Nat.mod_lt _ (by decide)
    have hkk := key ⟨(p.getD (k / 8) 0#8).toNat, (p.getD (k / 8) 0#8).isLt⟩ ⟨k % 8, hr⟩
    have hx : BitVec.ofNat 8 (p.getD (k / 8) 0#8).toNat = p.getD (k / 8) 0#8 := BitVec.ofNat_toNat_self _
    simp only [hx] at hkk
    have g0 : (bitsS p).getD (1 * k + 0) 0 = (p.getD (k / 8) 0#8).toNat / 2 ^ (7 - (1 * (k % 8) + 0)) % 2 := by
      rw [bits_get p _ (by omega), show (1 * k + 0) / 8 = k / 8 by omega, show (1 * k + 0) % 8 = 1 * (k % 8) + 0 by omega]
    show digW (bitsS p) (1 * k) 1 = _
    simp only [digW, g0]
    exact hkk
  · have key : ∀ (n : Fin 256) (r : Fin 4), ((0 * 2 + n.val / 2 ^ (7 - (2 * r.val + 0)) % 2) * 2 + n.val / 2 ^ (7 - (2 * r.val + 1)) % 2) = ((BitVec.ofNat 8 n.val >>> (8 - 2 * r.val - 2)) &&& BitVec.ofNat 8 (2 ^ 2 - 1)).toNat := by decide +kernel
    have hk : k < p.length * 4 := hk
    have hr : k % 4 < 4 := Nat.mod_lt _ (by decide)
    have hkk := key ⟨(p.getD (k / 4) 0#8).toNat, (p.getD (k / 4) 0#8).isLt⟩ ⟨k % 4, hr⟩
    have hx : BitVec.ofNat 8 (p.getD (k / 4) 0#8).toNat = p.getD (k / 4) 0#8 := BitVec.ofNat_toNat_self _
    simp only [hx] at hkk
    have g0 : (bitsS p).getD (2 * k + 0) 0 = (p.getD (k / 4) 0#8).toNat / 2 ^ (7 - (2 * (k % 4) + 0)) % 2 := by
      rw [bits_get p _ (by omega), show (2 * k + 0) / 8 = k / 4 by omega, show (2 * k + 0) % 8 = 2 * (k % 4) + 0 by omega]
    have g1 : (bitsS p).getD (2 * k + 1) 0 = (p.getD (k / 4) 0#8).toNat / 2 ^ (7 - (2 * (k % 4) + 1)) % 2 := by
      rw [bits_get p _ (by omega), show (2 * k + 1) / 8 = k / 4 by omega, show (2 * k + 1) % 8 = 2 * (k % 4) + 1 by omega]
    show digW (bitsS p) (2 * k) 2 = _
    simp only [digW, g0, g1]
    exact hkk
  · have key : ∀ (n : Fin 256) (r : Fin 2), ((((0 * 2 + n.val / 2 ^ (7 - (4 * r.val + 0)) % 2) * 2 + n.val / 2 ^ (7 - (4 * r.val + 1)) % 2) * 2 + n.val / 2 ^ (7 - (4 * r.val + 2)) % 2) * 2 + n.val / 2 ^ (7 - (4 * r.val + 3)) % 2) = ((BitVec.ofNat 8 n.val >>> (8 - 4 * r.val - 4)) &&& BitVec.ofNat 8 (2 ^ 4 - 1)).toNat := by decide +kernel
    have hk : k < p.length * 2 := hk
    have hr : k % 2 < 2 := Nat.mod_lt _ (by decide)
    have hkk := key ⟨(p.getD (k / 2) 0#8).toNat, (p.getD (k / 2) 0#8).isLt⟩ ⟨k % 2, hr⟩
    have hx : BitVec.ofNat 8 (p.getD (k / 2) 0#8).toNat = p.getD (k / 2) 0#8 := BitVec.ofNat_toNat_self _
    simp only [hx] at hkk
    have g0 : (bitsS p).getD (4 * k + 0) 0 = (p.getD (k / 2) 0#8).toNat / 2 ^ (7 - (4 * (k % 2) + 0)) % 2 := by
      rw [bits_get p _ (by omega), show (4 * k + 0) / 8 = k / 2 by omega, show (4 * k + 0) % 8 = 4 * (k % 2) + 0 by omega]
    have g1 : (bitsS p).getD (4 * k + 1) 0 = (p.getD (k / 2) 0#8).toNat / 2 ^ (7 - (4 * (k % 2) + 1)) % 2 := by
      rw [bits_get p _ (by omega), show (4 * k + 1) / 8 = k / 2 by omega, show (4 * k + 1) % 8 = 4 * (k % 2) + 1 by omega]
    have g2 : (bitsS p).getD (4 * k + 2) 0 = (p.getD (k / 2) 0#8).toNat / 2 ^ (7 - (4 * (k % 2) + 2)) % 2 := by
      rw [bits_get p _ (by omega), show (4 * k + 2) / 8 = k / 2 by omega, show (4 * k + 2) % 8 = 4 * (k % 2) + 2 by omega]
    have g3 : (bitsS p).getD (4 * k + 3) 0 = (p.getD (k / 2) 0#8).toNat / 2 ^ (7 - (4 * (k % 2) + 3)) % 2 := by
      rw [bits_get p _ (by omega), show (4 * k + 3) / 8 = k / 2 by omega, show (4 * k + 3) % 8 = 4 * (k % 2) + 3 by omega]
    show digW (bitsS p) (4 * k) 4 = _
    simp only [digW, g0, g1, g2, g3]
    exact hkk
  · have key : ∀ (n : Fin 256) (r : Fin 1), ((((((((0 * 2 + n.val / 2 ^ (7 - (8 * r.val + 0)) % 2) * 2 + n.val / 2 ^ (7 - (8 * r.val + 1)) % 2) * 2 + n.val / 2 ^ (7 - (8 * r.val + 2)) % 2) * 2 + n.val / 2 ^ (7 - (8 * r.val + 3)) % 2) * 2 + n.val / 2 ^ (7 - (8 * r.val + 4)) % 2) * 2 + n.val / 2 ^ (7 - (8 * r.val + 5)) % 2) * 2 + n.val / 2 ^ (7 - (8 * r.val + 6)) % 2) * 2 + n.val / 2 ^ (7 - (8 * r.val + 7)) % 2) = ((BitVec.ofNat 8 n.val >>> (8 - 8 * r.val - 8)) &&& BitVec.ofNat 8 (2 ^ 8 - 1)).toNat := by decide +kernel
    have hk : k < p.length * 1 := hk
    have hr : k % 1 < 1 := Nat.mod_lt _ (by decide)
    have hkk := key ⟨(p.getD (k / 1) 0#8).toNat, (p.getD (k / 1) 0#8).isLt⟩ ⟨k % 1, hr⟩
    have hx : BitVec.ofNat 8 (p.getD (k / 1) 0#8).toNat = p.getD (k / 1) 0#8 := BitVec.ofNat_toNat_self _
    simp only [hx] at hkk
    have g0 : (bitsS p).getD (8 * k + 0) 0 = (p.getD (k / 1) 0#8).toNat / 2 ^ (7 - (8 * (k % 1) + 0)) % 2 := by
      rw [bits_get p _ (by omega), show (8 * k + 0) / 8 = k / 1 by omega, show (8 * k + 0) % 8 = 8 * (k % 1) + 0 by omega]
    have g1 : (bitsS p).getD (8 * k + 1) 0 = (p.getD (k / 1) 0#8).toNat / 2 ^ (7 - (8 * (k % 1) + 1)) % 2 := by
      rw [bits_get p _ (by omega), show (8 * k + 1) / 8 = k / 1 by omega, show (8 * k + 1) % 8 = 8 * (k % 1) + 1 by omega]
    have g2 : (bitsS p).getD (8 * k + 2) 0 = (p.getD (k / 1) 0#8).toNat / 2 ^ (7 - (8 * (k % 1) + 2)) % 2 := by
      rw [bits_get p _ (by omega), show (8 * k + 2) / 8 = k / 1 by omega, show (8 * k + 2) % 8 = 8 * (k % 1) + 2 by omega]
    have g3 : (bitsS p).getD (8 * k + 3) 0 = (p.getD (k / 1) 0#8).toNat / 2 ^ (7 - (8 * (k % 1) + 3)) % 2 := by
      rw [bits_get p _ (by omega), show (8 * k + 3) / 8 = k / 1 by omega, show (8 * k + 3) % 8 = 8 * (k % 1) + 3 by omega]
    have g4 : (bitsS p).getD (8 * k + 4) 0 = (p.getD (k / 1) 0#8).toNat / 2 ^ (7 - (8 * (k % 1) + 4)) % 2 := by
      rw [bits_get p _ (by omega), show (8 * k + 4) / 8 = k / 1 by omega, show (8 * k + 4) % 8 = 8 * (k % 1) + 4 by omega]
    have g5 : (bitsS p).getD (8 * k + 5) 0 = (p.getD (k / 1) 0#8).toNat / 2 ^ (7 - (8 * (k % 1) + 5)) % 2 := by
      rw [bits_get p _ (by omega), show (8 * k + 5) / 8 = k / 1 by omega, show (8 * k + 5) % 8 = 8 * (k % 1) + 5 by omega]
    have g6 : (bitsS p).getD (8 * k + 6) 0 = (p.getD (k / 1) 0#8).toNat / 2 ^ (7 - (8 * (k % 1) + 6)) % 2 := by
      rw [bits_get p _ (by omega), show (8 * k + 6) / 8 = k / 1 by omega, show (8 * k + 6) % 8 = 8 * (k % 1) + 6 by omega]
    have g7 : (bitsS p).getD (8 * k + 7) 0 = (p.getD (k / 1) 0#8).toNat / 2 ^ (7 - (8 * (k % 1) + 7)) % 2 := by
      rw [bits_get p _ (by omega), show (8 * k + 7) / 8 = k / 1 by omega, show (8 * k + 7) % 8 = 8 * (k % 1) + 7 by omega]
    show digW (bitsS p) (8 * k) 8 = _
    simp only [digW, g0, g1, g2, g3, g4, g5, g6, g7]
    exact hkk
noncomputable def fAllD : Fn := fn2 rd32 (rdOf d32D) (fun _ d => decide (d.length = 32)) fun t d => outI (bif okT t.toNat then digitsS t.toNat d else [])
set_option maxHeartbeats 1000000 in
theorem alld_ok (C : Ctx) (hC : CtxOK C P) (h1 : C.fn 10 = some fTable) (h2 : C.fn 16 = some fBits) (h3 : C.fn 15 = some fRDig) (h4 : C.fn 31 = some fNumS) (h5 : C.fn 35 = some fJoin) : Meets C.glob P 13 (Fn.run fAllD) := by
  refine fn_meets (m_ref05_All C hC) fun ds rows r h => ?_
  obtain ⟨d0, d1, t, d, rfl, rfl, g0, g1, hp, rfl⟩ := fn2_some h
  cases rd32_some g0
  cases rdOf_some g1
  simp only [decide_eq_true_eq] at hp
  refine ⟨rfl, afun_mk rfl ?_⟩
  clear h g0 g1
  unfold a_ref05_All r_ref05_All
  have kT := fun rows k => kTable rows k t
  cases hk : okT t.toNat
  · obtain ⟨hw, hp', hl⟩ := okT_not hk
    rw [hw, hp', hl] at kT
    simp only [↓amD, amU, Nat.reduceBEq, Nat.reduceAdd, Nat.reduceSub, Nat.reduceMul, Nat.reduceMod, Nat.reducePow, Nat.reduceLT, Nat.reduceDiv, Int.reduceToNat, BitVec.reduceToNat, zipEnv, Int.reduceLE, Int.reduceLT, Int.reduceNeg, BitVec.reduceEq, Int.reduceAdd, Int.reduceSub, Int.reduceMul, Nat.reduceLeDiff, Int.reduceEq, lv_app0, lv_appk, set_app0, set_appk, List.append_assoc, List.append_nil, Nat.add_assoc, d32D, h1, kT, cond_false]
    exact .nil0 _
  · have hx := parT_ok hk
    have ew : wT t.toNat = (parT t.toNat).w := rfl
    have ep : pT t.toNat = (parT t.toNat).p := rfl
    have el : lT t.toNat = (parT t.toNat).l := rfl
    rw [digitsS, ep]
    rw [ew, ep, el] at kT
    generalize parT t.toNat = x at *
    obtain ⟨hw, hp1, hp2, hs, hl, h32⟩ := hx
    have hpw := pow_le hw
    have h256 : 256 / x.w ≤ 256 := Nat.div_le_self _ _
    have hw9 : x.w < 9 := by have := w4_eq.1 hw; omega
    have hw0 : ((x.w : Int) = 0) = False := eq_false (by have := w4_eq.1 hw; omega)
    have hw0' : ((x.w : Int) ≠ 0) = True := eq_true (by have := w4_eq.1 hw; omega)
    have q1 : wz (Int.tdiv 256 (x.w : Int)) = ((256 / x.w : Nat) : Int) := tdivN 256 x.w (by decide)
    have b0 : ∀ n : Nat, ((0 : Int) ≤ (n : Int)) = True := fun n => eq_true (by omega)
    have kB := fun rows k d' hd => kBits rows k d' d hd (by omega)
    have hbl : (bitsS d).length = 256 := by rw [bits_len, hp]
    rw [hbl] at kB
    simp only [↓amD, amU, Nat.reduceBEq, Nat.reduceAdd, Nat.reduceSub, Nat.reduceMul, Nat.reduceMod, Nat.reducePow, Nat.reduceLT, Nat.reduceDiv, Int.reduceToNat, BitVec.reduceToNat, zipEnv, Int.reduceLE, Int.reduceLT, Int.reduceNeg, BitVec.reduceEq, Int.reduceAdd, Int.reduceSub, Int.reduceMul, Nat.reduceLeDiff, Int.reduceEq, lv_app0, lv_appk, set_app0, set_appk, List.append_assoc, List.append_nil, Nat.add_assoc, d32D, h1, kT, cond_true, hw0, decide_false, h2]
    refine Eq.mpr (kB _ _ _ (BsIn.atAll (n := 32) rfl rfl hp)) ?_
    simp only [↓amD, amU, Nat.reduceBEq, Nat.reduceAdd, Nat.reduceSub, Nat.reduceMul, Nat.reduceMod, Nat.reducePow, Nat.reduceLT, Nat.reduceDiv, Int.reduceToNat, BitVec.reduceToNat, zipEnv, Int.reduceLE, Int.reduceLT, Int.reduceNeg, BitVec.reduceEq, Int.reduceAdd, Int.reduceSub, Int.reduceMul, Nat.reduceLeDiff, Int.reduceEq, lv_app0, lv_appk, set_app0, set_appk, List.append_assoc, List.append_nil, Nat.add_assoc, q1, hw0, hw0', h3]
    refine Eq.mpr (kRDig _ _ _ (bitsS d) x.w (256 / x.w) (RdIn.il rfl hbl) (by omega) (bits_le d) hw9 (by omega)) ?_
    simp only [↓amD, amU, Nat.reduceBEq, Nat.reduceAdd, Nat.reduceSub, Nat.reduceMul, Nat.reduceMod, Nat.reducePow, Nat.reduceLT, Nat.reduceDiv, Int.reduceToNat, BitVec.reduceToNat, zipEnv, Int.reduceLE, Int.reduceLT, Int.reduceNeg, BitVec.reduceEq, Int.reduceAdd, Int.reduceSub, Int.reduceMul, Nat.reduceLeDiff, Int.reduceEq, lv_app0, lv_appk, set_app0, set_appk, List.append_assoc, List.append_nil, Nat.add_assoc]
    have hle : ∀ i, i < 256 / x.w → digR (bitsS d) x.w i = coefN d i x.w := fun i hi => dig_coef d i x.w hw (by rw [hp]; omega)
    have gl : ∀ i, i < 256 / x.w → (((List.range (256 / x.w)).map (digR (bitsS d) x.w)).map natD)[i]? = some (.raw (it (coefN d i x.w : Int))) := fun i hi => by
      rw [← hle i hi]; simp [natD, hi]
    generalize ((List.range (256 / x.w)).map (digR (bitsS d) x.w)).map natD = GL at *
    have s1 : ∀ y, y ≤ 2 ^ x.w - 1 → 1#64 <<< x.w - 1#64 - BitVec.ofNat 64 y = BitVec.ofNat 64 (2 ^ x.w - 1 - y) := fun y hy => by
      apply BitVec.eq_of_toNat_eq
      have h2w : (1#64 <<< x.w).toNat = 2 ^ x.w := by
        rw [BitVec.toNat_shiftLeft, Nat.shiftLeft_eq]; simp; omega
      have hpos : 1 ≤ 2 ^ x.w := Nat.pow_pos (by decide)
      rw [BitVec.toNat_sub, BitVec.toNat_sub, h2w]
      simp only [BitVec.toNat_ofNat]
      generalize 2 ^ x.w = W at *
      omega
    have eI : ∀ y : Nat, BitVec.ofInt 64 (y : Int) = BitVec.ofNat 64 y := fun y => BitVec.ofInt_natCast _ _
    refine kLoop_up (256 / x.w) (fun i env rows => has env [(26, .raw (it (i : Int))), (25, .raw (it ((256 / x.w : Nat) : Int))), (24, .sl LI 2 [] 0 (256 / x.w) false), (8, .raw (u64 (BitVec.ofNat 64 (sumD d x.w i)))), (7, .raw (it (x.l : Int))), (6, .raw (it (x.p : Int))), (5, .raw (it (x.w : Int))), (3, .ptr (.ar 32 L8) 0 [0])] ∧
      rows = [some ⟨.ar 32 L8, [.agg (.ar 32 L8) (bs d)]⟩, some ⟨LI, (bitsS d).map natD⟩, some ⟨LI, GL⟩]) ?_ ?_ ⟨?_, rfl⟩
    · rintro i hi env rows ⟨hh, rfl⟩ R hR
      simp only [has] at hh
      have e0 : ((i : Int) < ((256 / x.w : Nat) : Int)) = True := eq_true (by omega)
      have e1 := wz_succ i (by omega)
      have hc := coefN_le d i x.w hw
      have gi := gl i hi
      have s2 : BitVec.ofNat 64 (sumD d x.w i) + BitVec.ofNat 64 (2 ^ x.w - 1 - coefN d i x.w) = BitVec.ofNat 64 (sumD d x.w (i + 1)) := by rw [sumD, BitVec.ofNat_add]
      have s1i := s1 _ hc
      simp only [↓amD, amU, Nat.reduceBEq, Nat.reduceAdd, Nat.reduceSub, Nat.reduceMul, Nat.reduceMod, Nat.reducePow, Nat.reduceLT, Nat.reduceDiv, Int.reduceToNat, BitVec.reduceToNat, zipEnv, Int.reduceLE, Int.reduceLT, Int.reduceNeg, BitVec.reduceEq, Int.reduceAdd, Int.reduceSub, Int.reduceMul, Nat.reduceLeDiff, Int.reduceEq, lv_app0, lv_appk, set_app0, set_appk, List.append_assoc, List.append_nil, Nat.add_assoc, hh, e0, e1, b0, gi, eI, Int.toNat_natCast, s1i, s2]
      exact hR _ _ ⟨by simp only [has, ↓amD, amU, Nat.reduceBEq, Nat.reduceAdd, Nat.reduceSub, Nat.reduceMul, Nat.reduceMod, Nat.reducePow, Nat.reduceLT, Nat.reduceDiv, Int.reduceToNat, BitVec.reduceToNat, zipEnv, Int.reduceLE, Int.reduceLT, Int.reduceNeg, BitVec.reduceEq, Int.reduceAdd, Int.reduceSub, Int.reduceMul, Nat.reduceLeDiff, Int.reduceEq, hh], rfl⟩
    · rintro env rows ⟨hh, rfl⟩ R
      simp only [has] at hh
      have e0 : (((256 / x.w : Nat) : Int) < ((256 / x.w : Nat) : Int)) = False := eq_false (by omega)
      have hsl := sumD_le d x.w (256 / x.w)
      have hbd : sumD d x.w (256 / x.w) * 2 ^ x.l < 65536 := Nat.lt_of_le_of_lt (Nat.mul_le_mul_right _ hsl) hs
      have hsh : BitVec.ofNat 64 (sumD d x.w (256 / x.w)) <<< x.l = BitVec.ofNat 64 (sumD d x.w (256 / x.w) * 2 ^ x.l) := by
        apply BitVec.eq_of_toNat_eq
        have hle2 : sumD d x.w (256 / x.w) ≤ sumD d x.w (256 / x.w) * 2 ^ x.l := Nat.le_mul_of_pos_right _ (Nat.pow_pos (by decide))
        rw [BitVec.toNat_shiftLeft, Nat.shiftLeft_eq, BitVec.toNat_ofNat, BitVec.toNat_ofNat, Nat.mod_eq_of_lt (a := sumD d x.w (256 / x.w)) (by omega)]
      have kN := fun rows k => kNumN rows k (BitVec.ofNat 64 (sumD d x.w (256 / x.w) * 2 ^ x.l)) 2 (by decide) (by decide)
      rw [show (2 : Int).toNat = 2 from rfl, numq2 _ hbd] at kN
      have hfd : [d, be2 (sumD d x.w (256 / x.w) * 2 ^ x.l)].flatten = fullD x d := by simp [fullD]
      have hfl : (fullD x d).length = 34 := by rw [fullD, List.length_append, hp]; rfl
      simp only [↓amD, amU, Nat.reduceBEq, Nat.reduceAdd, Nat.reduceSub, Nat.reduceMul, Nat.reduceMod, Nat.reducePow, Nat.reduceLT, Nat.reduceDiv, Int.reduceToNat, BitVec.reduceToNat, zipEnv, Int.reduceLE, Int.reduceLT, Int.reduceNeg, BitVec.reduceEq, Int.reduceAdd, Int.reduceSub, Int.reduceMul, Nat.reduceLeDiff, Int.reduceEq, lv_app0, lv_appk, set_app0, set_appk, List.append_assoc, List.append_nil, Nat.add_assoc, hh, e0, b0, Int.toNat_natCast, hsh, h4, kN, h5]
      refine Eq.mpr (kJoin _ _ _ 2 _ _ [d, be2 (sumD d x.w (256 / x.w) * 2 ^ x.l)] rfl rfl (.cons (BsIn.atAll (n := 32) rfl rfl hp) (.cons (BsIn.own rfl _ rfl) .nil)) (by simp) (by rw [hfd, hfl]; decide)) ?_
      rw [hfd, hfl]
      simp only [↓amD, amU, Nat.reduceBEq, Nat.reduceAdd, Nat.reduceSub, Nat.reduceMul, Nat.reduceMod, Nat.reducePow, Nat.reduceLT, Nat.reduceDiv, Int.reduceToNat, BitVec.reduceToNat, zipEnv, Int.reduceLE, Int.reduceLT, Int.reduceNeg, BitVec.reduceEq, Int.reduceAdd, Int.reduceSub, Int.reduceMul, Nat.reduceLeDiff, Int.reduceEq, lv_app0, lv_appk, set_app0, set_appk, List.append_assoc, List.append_nil, Nat.add_assoc, h2]
      refine Eq.mpr (kBits _ _ _ (fullD x d) (BsIn.own rfl _ hfl.symm) (by omega)) ?_
      have hbl2 : (bitsS (fullD x d)).length = 272 := by rw [bits_len, hfl]
      rw [hbl2]
      simp only [↓amD, amU, Nat.reduceBEq, Nat.reduceAdd, Nat.reduceSub, Nat.reduceMul, Nat.reduceMod, Nat.reducePow, Nat.reduceLT, Nat.reduceDiv, Int.reduceToNat, BitVec.reduceToNat, zipEnv, Int.reduceLE, Int.reduceLT, Int.reduceNeg, BitVec.reduceEq, Int.reduceAdd, Int.reduceSub, Int.reduceMul, Nat.reduceLeDiff, Int.reduceEq, lv_app0, lv_appk, set_app0, set_appk, List.append_assoc, List.append_nil, Nat.add_assoc, hh, h3]
      refine Eq.mpr (kRDig _ _ _ (bitsS (fullD x d)) x.w x.p (RdIn.il rfl hbl2) (by omega) (bits_le _) hw9 (by omega)) ?_
      have hdd : (List.range x.p).map (digR (bitsS (fullD x d)) x.w) = digsP x d x.p := by
        apply List.map_congr_left
        intro i hi
        have hi := List.mem_range.1 hi
        exact dig_coef (fullD x d) i x.w hw (by rw [hfl]; omega)
      rw [hdd]
      have hdl : (digsP x d x.p).length = x.p := by simp [digsP]
      simp only [↓amD, amU, Nat.reduceBEq, Nat.reduceAdd, Nat.reduceSub, Nat.reduceMul, Nat.reduceMod, Nat.reducePow, Nat.reduceLT, Nat.reduceDiv, Int.reduceToNat, BitVec.reduceToNat, zipEnv, Int.reduceLE, Int.reduceLT, Int.reduceNeg, BitVec.reduceEq, Int.reduceAdd, Int.reduceSub, Int.reduceMul, Nat.reduceLeDiff, Int.reduceEq, lv_app0, lv_appk, set_app0, set_appk, List.append_assoc, List.append_nil, Nat.add_assoc, hh]
      rw [outI, hdl]
      exact .own _ 7 0 _ false false _ rfl rfl (fun h => by cases h)
    · simp only [has, ↓amD, amU, Nat.reduceBEq, Nat.reduceAdd, Nat.reduceSub, Nat.reduceMul, Nat.reduceMod, Nat.reducePow, Nat.reduceLT, Nat.reduceDiv, Int.reduceToNat, BitVec.reduceToNat, zipEnv, Int.reduceLE, Int.reduceLT, Int.reduceNeg, BitVec.reduceEq, Int.reduceAdd, Int.reduceSub, Int.reduceMul, Nat.reduceLeDiff, Int.reduceEq]
      rfl
theorem kAllD (rows : Rows) (k : D → Rows → Prop) (t : BitVec 32) (d : List (BitVec 8)) (hd : d.length = 32) (ht : okT t.toNat = true) :
    kCall fAllD rows k [.raw (u32 t), .agg (.ar 32 L8) (bs d)] = k (.sl LI (0 + rows.length) [] 0 (pT t.toNat) false) (rows ++ [some ⟨LI, (digitsS t.toNat d).map natD⟩]) := by
  refine (kCall_rd2 (RdIn.raw (rd32_eq t)) (rdIn_d32 d) (by simp [hd]) rfl k).trans ?_
  have hl : (digitsS t.toNat d).length = pT t.toNat := by simp [digitsS, digsP]
  simp [ht, outI, shift, shiftRows, Sh.pure, hl]
theorem kAllD0 (rows : Rows) (k : D → Rows → Prop) (t : BitVec 32) (d : List (BitVec 8)) (hd : d.length = 32) (ht : okT t.toNat = false) :
    kCall fAllD rows k [.raw (u32 t), .agg (.ar 32 L8) (bs d)] = k (.sl LI (0 + rows.length) [] 0 0 false) (rows ++ [some ⟨LI, []⟩]) := by
  refine (kCall_rd2 (RdIn.raw (rd32_eq t)) (rdIn_d32 d) (by simp [hd]) rfl k).trans ?_
  simp [ht, outI, shift, shiftRows, Sh.pure]
/-- the types of the laws -/
def kindS (t : BitVec 8) : BitVec 32 := [3#32, 3#32, 3#32, 2#32, 1#32, 4#32].getD (t % 6#8).toNat 0#32
theorem kind_ok (t : BitVec 8) : okT (kindS t).toNat = true := by
  have h : ∀ n : Fin 6, okT ([3#32, 3#32, 3#32, 2#32, 1#32, 4#32].getD n.val 0#32).toNat = true := by decide
  have hl : (t % 6#8).toNat < 6 := by rw [BitVec.toNat_umod]; exact Nat.mod_lt _ (by decide)
  exact h ⟨_, hl⟩
def fKind : Fn := fn1 rd8 (fun _ => true) fun t => (.raw (u32 (kindS t)), [])
theorem kind_meets (C : Ctx) (hC : CtxOK C P) : Meets C.glob P 26 (Fn.run fKind) := by
  refine fn_meets (m_law05_kind C hC) fun ds rows r h => ?_
  obtain ⟨d, t, rfl, rfl, hd, hp, rfl⟩ := fn1_some h
  cases rd8_some hd
  refine ⟨rfl, afun_mk rfl ?_⟩
  clear h hd
  unfold a_law05_kind r_law05_kind
  have hl : (t % 6#8).toNat < 6 := by rw [BitVec.toNat_umod]; exact Nat.mod_lt _ (by decide)
  have hg : [D.raw (u32 3#32), .raw (u32 3#32), .raw (u32 3#32), .raw (u32 2#32), .raw (u32 1#32), .raw (u32 4#32)][(t % 6#8).toNat]? = some (.raw (u32 (kindS t))) := by
    unfold kindS
    generalize (t % 6#8).toNat = n at *
    match n, hl with
    | 0, _ | 1, _ | 2, _ | 3, _ | 4, _ | 5, _ => rfl
  have b0 : ∀ n : Nat, ((0 : Int) ≤ (n : Int)) = True := fun n => eq_true (by omega)
  have b1 : (((t % 6#8).toNat : Int) < 6) = True := eq_true (by omega)
  simp only [↓amD, amU, Nat.reduceBEq, Nat.reduceAdd, Nat.reduceSub, Nat.reduceMul, Nat.reduceMod, Nat.reducePow, Nat.reduceLT, Nat.reduceDiv, Int.reduceToNat, BitVec.reduceToNat, zipEnv, Int.reduceLE, Int.reduceLT, Int.reduceNeg, BitVec.reduceEq, Int.reduceAdd, Int.reduceSub, Int.reduceMul, Nat.reduceLeDiff, Int.reduceEq, lv_app0, lv_appk, set_app0, set_appk, List.append_assoc, List.append_nil, Nat.add_assoc, b0, b1, hg]
  exact .val _ rfl
theorem kKind (rows : Rows) (k : D → Rows → Prop) (t : BitVec 8) : kCall fKind rows k [.raw (u8 t)] = k (.raw (u32 (kindS t))) rows := by
  refine (kCall_rd1 (RdIn.raw (rd8_eq t)) rfl rfl k).trans ?_
  simp [shift, shiftRows]
end Job
end Go.Am
