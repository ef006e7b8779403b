/- AES: a block's steps -/
import Derived.Test.YtloclegkilgglaaAes2
namespace Go.Am
set_option linter.unusedSimpArgs false
set_option linter.unusedVariables false
attribute [local congr] bnd_congr kCond_congr kGd_congr kPick_congr kCall_congr kIdx_congr kSlice_congr kLoop_congr cond_congr' aBin_congr aBounds_congr aApp_congr aCopy_congr kFn_congr
namespace Job
open Go.Am.F
set_option maxRecDepth 10000
theorem b_andi (a b : Int) (k : D → Prop) : aBin .and (it a) (it b) k = k (.raw (it (wz ((BitVec.ofInt 64 a &&& BitVec.ofInt 64 b).toNat : Nat)))) := by simp only [aBin, it, true_and]; rfl
theorem and15 (x : Int) (h : -64 ≤ x ∧ x < 64) : wz ((BitVec.ofInt 64 x &&& BitVec.ofInt 64 15).toNat : Nat) = x % 16 := by
  have : ∀ m : Fin 128, (BitVec.ofInt 64 ((m.val : Int) - 64) &&& BitVec.ofInt 64 15).toNat = (((m.val : Int) - 64) % 16).toNat := by decide +kernel
  have h2 := this ⟨(x + 64).toNat, by omega⟩
  have h3 : (((x + 64).toNat : Nat) : Int) - 64 = x := by omega
  simp only [h3] at h2
  rw [h2, wz_id (by omega)]
  omega
/-- a list that is made from its beginning -/
def pf (n : Nat) (f : Nat → BitVec 8) (i : Nat) : List (BitVec 8) := (List.range n).map fun j => if j < i then f j else 0#8
theorem pf_len (n : Nat) (f : Nat → BitVec 8) (i : Nat) : (pf n f i).length = n := by simp [pf]
theorem pf_get {n : Nat} {f : Nat → BitVec 8} {i : Nat} (h : i < n) : (pf n f i).getD i 0#8 = 0#8 := by simp [pf, List.getD, h]
theorem pf_set {n : Nat} {f : Nat → BitVec 8} {i : Nat} (h : i < n) : (pf n f i).set i (f i) = pf n f (i + 1) := by
  refine List.ext_getElem (by simp [pf]) fun j h1 h2 => ?_
  rw [List.getElem_set]
  simp only [pf, List.getElem_map, List.getElem_range]
  by_cases hj : i = j
  · subst hj; simp
  · rw [if_neg hj]
    congr 1
    apply propext
    omega
theorem pf_0 (n : Nat) (f : Nat → BitVec 8) : pf n f 0 = List.replicate n 0#8 := by
  refine List.ext_getElem (by simp [pf]) fun j h1 h2 => ?_
  simp [pf]
theorem pf_all (n : Nat) (f : Nat → BitVec 8) : pf n f n = (List.range n).map f := by
  refine List.ext_getElem (by simp [pf]) fun j h1 h2 => ?_
  simp [pf] at h1 ⊢
  intro h3; omega
def mvM (m : Int) : Nat := if m = 1 then 4 else 12
noncomputable def fMoved : Fn := fn3 (rdOf b16D) (rdOf fun t => .cptr (t256 t)) rdI (fun b t m => decide (b.length = 16) && decide (t.length = 256) && decide (m = 1 ∨ m = -1)) fun b t m => (b16D (movS b t (mvM m)), [])
def z16 : List (BitVec 8) := List.replicate 16 0#8
theorem rep_z16 : List.replicate 16 (D.raw (u8 0#8)) = bs z16 := bs_rep 16 0#8
theorem moved_ok (C : Ctx) (hC : CtxOK C P) : Meets C.glob P 32 (Fn.run fMoved) := by
  refine fn_meets (m_aes_moved C hC) fun ds rows r h => ?_
  obtain ⟨d, e, f, b, t, m, rfl, rfl, hd, he, hf, hp, rfl⟩ := fn3_some h
  cases rdOf_some hd
  cases rdOf_some he
  cases rdI_some hf
  simp only [Bool.and_eq_true, decide_eq_true_eq] at hp
  obtain ⟨⟨hb, ht⟩, hm⟩ := hp
  refine ⟨rfl, afun_mk rfl ?_⟩
  clear h hd he hf
  unfold a_aes_moved r_aes_moved
  simp only [rep_z16]
  simp only [b16D, t256, ↓amD, amU, Nat.reduceBEq, Nat.reduceAdd, Nat.reduceSub, Nat.reduceMul, Nat.reduceMod, Nat.reducePow, Nat.reduceLT, Nat.reduceDiv, Int.reduceToNat, BitVec.reduceToNat, zipEnv, Int.reduceLE, Int.reduceLT, Int.reduceNeg, BitVec.reduceEq, Int.reduceAdd, Int.reduceSub, Int.reduceMul, Nat.reduceLeDiff, Int.reduceEq]
  refine kLoop_up 16 (fun i env rows => has env [(10, .raw (it (i : Int))), (1, .cptr (.agg (.ar 256 L8) (bs t))), (2, .raw (it m)), (3, .ptr (.ar 16 L8) 0 [0]), (6, .ptr (.ar 16 L8) 1 [0]), (7, .ptr (.ar 16 L8) 2 [0])] ∧
    ∃ z, rows = [some ⟨.ar 16 L8, [.agg (.ar 16 L8) (bs b)]⟩, some ⟨.ar 16 L8, [z]⟩, some ⟨.ar 16 L8, [.agg (.ar 16 L8) (bs (pf 16 (movI b t (mvM m)) i))]⟩]) ?_ ?_ ⟨?_, .agg (.ar 16 L8) (bs z16), ?_⟩
  · rintro i hi env rows ⟨hh, z, rfl⟩ R hR
    simp only [has] at hh
    obtain ⟨h10, h1, h2, h3, h6, h7, -⟩ := hh
    have e0 : ((i : Int) < 16) = True := eq_true (by omega)
    have e1 : ((0 : Int) ≤ (i : Int)) = True := eq_true (by omega)
    have e2 := wz_succ i (by omega)
    have e3 : (i : Int).tmod 4 = ((i % 4 : Nat) : Int) := rfl
    have e4 : wz (m * 4) = m * 4 := wz_id (by omega)
    have e5 : wz (m * 4 * ((i % 4 : Nat) : Int)) = m * 4 * ((i % 4 : Nat) : Int) := wz_id (by rcases hm with rfl | rfl <;> omega)
    have e6 : wz ((i : Int) + m * 4 * ((i % 4 : Nat) : Int)) = (i : Int) + m * 4 * ((i % 4 : Nat) : Int) := wz_id (by rcases hm with rfl | rfl <;> omega)
    have e7 : ∀ k, aBin .and (it ((i : Int) + m * 4 * ((i % 4 : Nat) : Int))) (it 15) k = k (.raw (it (((i + mvM m * (i % 4)) % 16 : Nat) : Int))) := by
      intro k
      rw [b_andi, and15 _ (by rcases hm with rfl | rfl <;> omega)]
      congr 3
      rcases hm with rfl | rfl
      · rw [show mvM 1 = 4 from rfl]; omega
      · rw [show mvM (-1) = 12 from rfl]; omega
    have e8 : (i + mvM m * (i % 4)) % 16 < 16 := Nat.mod_lt _ (by omega)
    have g1 : (bs b)[(i + mvM m * (i % 4)) % 16]? = some (.raw (u8 (b.getD ((i + mvM m * (i % 4)) % 16) 0#8))) := bs_get (by omega)
    have g2 : (bs t)[(b.getD ((i + mvM m * (i % 4)) % 16) 0#8).toNat]? = some (.raw (u8 (movI b t (mvM m) i))) := bs_get (by rw [ht]; exact BitVec.isLt _)
    have g3 : (bs (pf 16 (movI b t (mvM m)) i))[i]? = some (.raw (u8 ((pf 16 (movI b t (mvM m)) i).getD i 0#8))) := bs_get (by rw [pf_len]; omega)
    have a1 : ((((i + mvM m * (i % 4)) % 16 : Nat) : Int) < 16) = True := eq_true (by omega)
    have a2 : ((0 : Int) ≤ (((i + mvM m * (i % 4)) % 16 : Nat) : Int)) = True := eq_true (by omega)
    simp only [↓amD, amU, Nat.reduceBEq, Nat.reduceAdd, Nat.reduceSub, Nat.reduceMul, Nat.reduceMod, Nat.reducePow, Nat.reduceLT, Nat.reduceDiv, Int.reduceToNat, BitVec.reduceToNat, zipEnv, Int.reduceLE, Int.reduceLT, Int.reduceNeg, BitVec.reduceEq, Int.reduceAdd, Int.reduceSub, Int.reduceMul, Nat.reduceLeDiff, Int.reduceEq, h10, h1, h2, h3, h6, h7, e0, e1, e2, e3, e4, e5, e6, e7, g1, g2, g3, a1, a2, u8_lt, u8_ge, bs_set, pf_set hi, decide_true]
    exact hR _ _ ⟨by simp only [has, ↓amD, amU, Nat.reduceBEq, Nat.reduceAdd, Nat.reduceSub, Nat.reduceMul, Nat.reduceMod, Nat.reducePow, Nat.reduceLT, Nat.reduceDiv, Int.reduceToNat, BitVec.reduceToNat, zipEnv, Int.reduceLE, Int.reduceLT, Int.reduceNeg, BitVec.reduceEq, Int.reduceAdd, Int.reduceSub, Int.reduceMul, Nat.reduceLeDiff, Int.reduceEq, h1, h2, h3, h6, h7], z, rfl⟩
  · rintro env rows ⟨hh, z, rfl⟩ R
    simp only [has] at hh
    obtain ⟨h10, h1, h2, h3, h6, h7, -⟩ := hh
    simp only [↓amD, amU, Nat.reduceBEq, Nat.reduceAdd, Nat.reduceSub, Nat.reduceMul, Nat.reduceMod, Nat.reducePow, Nat.reduceLT, Nat.reduceDiv, Int.reduceToNat, BitVec.reduceToNat, zipEnv, Int.reduceLE, Int.reduceLT, Int.reduceNeg, BitVec.reduceEq, Int.reduceAdd, Int.reduceSub, Int.reduceMul, Nat.reduceLeDiff, Int.reduceEq, h10, h1, h2, h3, h6, h7, pf_all]
    exact .val _ rfl
  · simp only [has, ↓amD, amU, Nat.reduceBEq, Nat.reduceAdd, Nat.reduceSub, Nat.reduceMul, Nat.reduceMod, Nat.reducePow, Nat.reduceLT, Nat.reduceDiv, Int.reduceToNat, BitVec.reduceToNat, zipEnv, Int.reduceLE, Int.reduceLT, Int.reduceNeg, BitVec.reduceEq, Int.reduceAdd, Int.reduceSub, Int.reduceMul, Nat.reduceLeDiff, Int.reduceEq]
  · rw [pf_0]; rfl
theorem kMoved {rows : Rows} {row : Row} {r : Nat} {p : List Nat} {t : List (BitVec 8)} (h : live rows r = some row) (hg : rowGet row.els p = some (t256 t)) (k : D → Rows → Prop) (b : List (BitVec 8)) (m : Int) (hb : b.length = 16) (ht : t.length = 256) (hm : m = 1 ∨ m = -1) :
    kCall fMoved rows k [b16D b, .ptr (.ar 256 L8) r p, .raw (it m)] = k (b16D (movS b t (mvM m))) rows := by
  have h1 : fMoved [b16D b, .cptr (t256 t), .raw (it m)] [] = some (b16D (movS b t (mvM m)), []) := by
    simp only [fMoved, fn3_ev, rdOf_eq b16D_inj, rdI_eq, rdOf_eq (mk := fun t => D.cptr (t256 t)) (fun x y h => t256_inj _ _ (D.cptr.inj h)), Option.bind_some, hb, ht, hm, decide_true, Bool.and_true, cond_true]
  unfold b16D at h1 ⊢
  unfold kCall
  simp [hasRefL, hasRef, mapO, view, h, hg, h1, bnd, shift, shiftRows, noLst, noLstRows, Sh.pure]
def mixP (b f : List (BitVec 8)) (i : Nat) : Nat → BitVec 8
  | 0 => 0#8
  | j + 1 => mixP b f i j ^^^ gm (b.getD (i - i % 4 + (i + j) % 4) 0#8) (f.getD j 0#8)
theorem mixP_4 (b f : List (BitVec 8)) (i : Nat) : mixP b f i 4 = mixI b f i := by
  simp only [mixP, mixI, mrow, Nat.add_zero, BitVec.zero_xor]
noncomputable def fMixed : Fn := fn2 (rdOf b16D) (rdOf f4D) (fun b f => decide (b.length = 16) && decide (f.length = 4)) fun b f => (b16D (mixS b f), [])
theorem mixed_ok (C : Ctx) (hC : CtxOK C P) (hm : C.fn 13 = some fMul) : Meets C.glob P 34 (Fn.run fMixed) := by
  refine fn_meets (m_aes_mixed C hC) fun ds rows r h => ?_
  obtain ⟨d, e, b, f, rfl, rfl, hd, he, hp, rfl⟩ := fn2_some h
  cases rdOf_some hd
  cases rdOf_some he
  simp only [Bool.and_eq_true, decide_eq_true_eq] at hp
  obtain ⟨hb, hf⟩ := hp
  refine ⟨rfl, afun_mk rfl ?_⟩
  clear h hd he
  unfold a_aes_mixed r_aes_mixed
  simp only [rep_z16]
  simp only [b16D, f4D, ↓amD, amU, Nat.reduceBEq, Nat.reduceAdd, Nat.reduceSub, Nat.reduceMul, Nat.reduceMod, Nat.reducePow, Nat.reduceLT, Nat.reduceDiv, Int.reduceToNat, BitVec.reduceToNat, zipEnv, Int.reduceLE, Int.reduceLT, Int.reduceNeg, BitVec.reduceEq, Int.reduceAdd, Int.reduceSub, Int.reduceMul, Nat.reduceLeDiff, Int.reduceEq]
  refine kLoop_up 16 (fun i env rows => has env [(10, .raw (it (i : Int))), (2, .ptr (.ar 16 L8) 0 [0]), (3, .ptr (.ar 4 L8) 1 [0]), (4, .ptr (.ar 16 L8) 2 [0]), (5, .ptr (.ar 16 L8) 3 [0])] ∧
    ∃ z, rows = [some ⟨.ar 16 L8, [.agg (.ar 16 L8) (bs b)]⟩, some ⟨.ar 4 L8, [.agg (.ar 4 L8) (bs f)]⟩, some ⟨.ar 16 L8, [z]⟩, some ⟨.ar 16 L8, [.agg (.ar 16 L8) (bs (pf 16 (mixI b f) i))]⟩]) ?_ ?_ ⟨?_, .agg (.ar 16 L8) (bs z16), ?_⟩
  · rintro i hi env rows ⟨hh, z, rfl⟩ R hR
    simp only [has] at hh
    obtain ⟨h10, h2, h3, h4, h5, -⟩ := hh
    have e0 : ((i : Int) < 16) = True := eq_true (by omega)
    have e1 : ((0 : Int) ≤ (i : Int)) = True := eq_true (by omega)
    have e2 := wz_succ i (by omega)
    have e3 : (i : Int).tmod 4 = ((i % 4 : Nat) : Int) := rfl
    have e4 : wz ((i : Int) - ((i % 4 : Nat) : Int)) = ((i - i % 4 : Nat) : Int) := by rw [wz_id (by omega)]; omega
    simp only [↓amD, amU, Nat.reduceBEq, Nat.reduceAdd, Nat.reduceSub, Nat.reduceMul, Nat.reduceMod, Nat.reducePow, Nat.reduceLT, Nat.reduceDiv, Int.reduceToNat, BitVec.reduceToNat, zipEnv, Int.reduceLE, Int.reduceLT, Int.reduceNeg, BitVec.reduceEq, Int.reduceAdd, Int.reduceSub, Int.reduceMul, Nat.reduceLeDiff, Int.reduceEq, h10, h2, h3, h4, h5, e0, e3, e4, decide_true]
    have hs0 : pf 16 (mixI b f) i = (pf 16 (mixI b f) i).set i (mixP b f i 0) := by
      refine List.ext_getElem (by simp) fun j h1 h2 => ?_
      rw [List.getElem_set]
      by_cases hj : i = j
      · subst hj; simp [pf, mixP]
      · rw [if_neg hj]
    refine kLoop_up 4 (fun j env rows => has env [(18, .raw (it (j : Int))), (17, .agg (.ar 4 L8) (bs f)), (6, .raw (it (i : Int))), (7, .raw (it ((i - i % 4 : Nat) : Int))), (10, .raw (it (i : Int))), (2, .ptr (.ar 16 L8) 0 [0]), (3, .ptr (.ar 4 L8) 1 [0]), (4, .ptr (.ar 16 L8) 2 [0]), (5, .ptr (.ar 16 L8) 3 [0])] ∧
      rows = [some ⟨.ar 16 L8, [.agg (.ar 16 L8) (bs b)]⟩, some ⟨.ar 4 L8, [.agg (.ar 4 L8) (bs f)]⟩, some ⟨.ar 16 L8, [z]⟩, some ⟨.ar 16 L8, [.agg (.ar 16 L8) (bs ((pf 16 (mixI b f) i).set i (mixP b f i j)))]⟩]) ?_ ?_ ⟨?_, by rw [← hs0]⟩
    · rintro j hj env rows ⟨hh, rfl⟩ R hR
      simp only [has] at hh
      obtain ⟨h18, h17, h6, h7, h10, h2, h3, h4, h5, -⟩ := hh
      have e0 : ((j : Int) < 4) = True := eq_true (by omega)
      have e0' : ((i : Int) < 16) = True := eq_true (by omega)
      have e1' : ((0 : Int) ≤ (j : Int)) = True := eq_true (by omega)
      have e12 := wz_succ j (by omega)
      have a1 : wz ((i : Int) + (j : Int)) = ((i + j : Nat) : Int) := by rw [wz_id (by omega)]; omega
      have a2 : ((i + j : Nat) : Int).tmod 4 = (((i + j) % 4 : Nat) : Int) := rfl
      have a3 : wz (((i - i % 4 : Nat) : Int) + (((i + j) % 4 : Nat) : Int)) = ((i - i % 4 + (i + j) % 4 : Nat) : Int) := by rw [wz_id (by omega)]; omega
      have a4 : (((i - i % 4 + (i + j) % 4 : Nat) : Int) < 16) = True := eq_true (by omega)
      have a5 : ((0 : Int) ≤ ((i - i % 4 + (i + j) % 4 : Nat) : Int)) = True := eq_true (by omega)
      have g1 : (bs f)[j]? = some (.raw (u8 (f.getD j 0#8))) := bs_get (by omega)
      have g2 : (bs b)[i - i % 4 + (i + j) % 4]? = some (.raw (u8 (b.getD (i - i % 4 + (i + j) % 4) 0#8))) := bs_get (by omega)
      have g3 : (bs ((pf 16 (mixI b f) i).set i (mixP b f i j)))[i]? = some (.raw (u8 (mixP b f i j))) := by
        rw [bs_get (by rw [List.length_set, pf_len]; omega)]
        have hq : i < (pf 16 (mixI b f) i).length := by rw [pf_len]; exact hi
        simp [List.getD, hq]
      have e13 : mixP b f i j ^^^ gm (b.getD (i - i % 4 + (i + j) % 4) 0#8) (f.getD j 0#8) = mixP b f i (j + 1) := rfl
      simp only [↓amD, amU, Nat.reduceBEq, Nat.reduceAdd, Nat.reduceSub, Nat.reduceMul, Nat.reduceMod, Nat.reducePow, Nat.reduceLT, Nat.reduceDiv, Int.reduceToNat, BitVec.reduceToNat, zipEnv, Int.reduceLE, Int.reduceLT, Int.reduceNeg, BitVec.reduceEq, Int.reduceAdd, Int.reduceSub, Int.reduceMul, Nat.reduceLeDiff, Int.reduceEq, h18, h17, h6, h7, h10, h2, h3, h4, h5, hm, kMul, e0, e0', e1, e1', e12, a1, a2, a3, a4, a5, g1, g2, g3, bs_set, set_set', e13, decide_true]
      exact hR _ _ ⟨by simp only [has, ↓amD, amU, Nat.reduceBEq, Nat.reduceAdd, Nat.reduceSub, Nat.reduceMul, Nat.reduceMod, Nat.reducePow, Nat.reduceLT, Nat.reduceDiv, Int.reduceToNat, BitVec.reduceToNat, zipEnv, Int.reduceLE, Int.reduceLT, Int.reduceNeg, BitVec.reduceEq, Int.reduceAdd, Int.reduceSub, Int.reduceMul, Nat.reduceLeDiff, Int.reduceEq, h17, h6, h7, h10, h2, h3, h4, h5], rfl⟩
    · rintro env rows ⟨hh, rfl⟩ R
      simp only [has] at hh
      obtain ⟨h18, h17, h6, h7, h10, h2, h3, h4, h5, -⟩ := hh
      simp only [↓amD, amU, Nat.reduceBEq, Nat.reduceAdd, Nat.reduceSub, Nat.reduceMul, Nat.reduceMod, Nat.reducePow, Nat.reduceLT, Nat.reduceDiv, Int.reduceToNat, BitVec.reduceToNat, zipEnv, Int.reduceLE, Int.reduceLT, Int.reduceNeg, BitVec.reduceEq, Int.reduceAdd, Int.reduceSub, Int.reduceMul, Nat.reduceLeDiff, Int.reduceEq, h18, h17, h6, h7, h10, h2, h3, h4, h5, e2, mixP_4, pf_set hi]
      exact hR _ _ ⟨by simp only [has, ↓amD, amU, Nat.reduceBEq, Nat.reduceAdd, Nat.reduceSub, Nat.reduceMul, Nat.reduceMod, Nat.reducePow, Nat.reduceLT, Nat.reduceDiv, Int.reduceToNat, BitVec.reduceToNat, zipEnv, Int.reduceLE, Int.reduceLT, Int.reduceNeg, BitVec.reduceEq, Int.reduceAdd, Int.reduceSub, Int.reduceMul, Nat.reduceLeDiff, Int.reduceEq, h2, h3, h4, h5], z, rfl⟩
    · simp only [has, ↓amD, amU, Nat.reduceBEq, Nat.reduceAdd, Nat.reduceSub, Nat.reduceMul, Nat.reduceMod, Nat.reducePow, Nat.reduceLT, Nat.reduceDiv, Int.reduceToNat, BitVec.reduceToNat, zipEnv, Int.reduceLE, Int.reduceLT, Int.reduceNeg, BitVec.reduceEq, Int.reduceAdd, Int.reduceSub, Int.reduceMul, Nat.reduceLeDiff, Int.reduceEq, h10, h2, h3, h4, h5]
  · rintro env rows ⟨hh, z, rfl⟩ R
    simp only [has] at hh
    obtain ⟨h10, h2, h3, h4, h5, -⟩ := hh
    simp only [↓amD, amU, Nat.reduceBEq, Nat.reduceAdd, Nat.reduceSub, Nat.reduceMul, Nat.reduceMod, Nat.reducePow, Nat.reduceLT, Nat.reduceDiv, Int.reduceToNat, BitVec.reduceToNat, zipEnv, Int.reduceLE, Int.reduceLT, Int.reduceNeg, BitVec.reduceEq, Int.reduceAdd, Int.reduceSub, Int.reduceMul, Nat.reduceLeDiff, Int.reduceEq, h10, h2, h3, h4, h5, pf_all]
    exact .val _ rfl
  · simp only [has, ↓amD, amU, Nat.reduceBEq, Nat.reduceAdd, Nat.reduceSub, Nat.reduceMul, Nat.reduceMod, Nat.reducePow, Nat.reduceLT, Nat.reduceDiv, Int.reduceToNat, BitVec.reduceToNat, zipEnv, Int.reduceLE, Int.reduceLT, Int.reduceNeg, BitVec.reduceEq, Int.reduceAdd, Int.reduceSub, Int.reduceMul, Nat.reduceLeDiff, Int.reduceEq]
  · rw [pf_0]; rfl
theorem kMixed (rows : Rows) (k : D → Rows → Prop) (b f : List (BitVec 8)) (hb : b.length = 16) (hf : f.length = 4) : kCall fMixed rows k [b16D b, f4D f] = k (b16D (mixS b f)) rows := by
  refine (kCall_val rfl (r := (b16D (mixS b f), [])) ?_).trans ?_
  · rw [fMixed, fn2_eq (rdOf_eq b16D_inj b) (rdOf_eq f4D_inj f) (by simp [hb, hf])]
  · simp [b16D, shift, shiftRows, Sh.pure]
/-- a word's bytes upon four of a block's -/
def addW (l : List (BitVec 8)) (i : Nat) (x : BitVec 32) : List (BitVec 8) :=
  let l1 := l.set (4 * i) (l.getD (4 * i) 0#8 ^^^ (x >>> 24).setWidth 8)
  let l2 := l1.set (4 * i + 1) (l1.getD (4 * i + 1) 0#8 ^^^ (x >>> 16).setWidth 8)
  let l3 := l2.set (4 * i + 2) (l2.getD (4 * i + 2) 0#8 ^^^ (x >>> 8).setWidth 8)
  l3.set (4 * i + 3) (l3.getD (4 * i + 3) 0#8 ^^^ x.setWidth 8)
def addN (w : List (BitVec 32)) (r : Nat) (b : List (BitVec 8)) : Nat → List (BitVec 8)
  | 0 => b
  | i + 1 => addW (addN w r b i) i (w.getD (4 * r + i) 0#32)
theorem addN_len (w : List (BitVec 32)) (r : Nat) (b : List (BitVec 8)) : ∀ i, (addN w r b i).length = b.length
  | 0 => rfl
  | i + 1 => by simp only [addN, addW, List.length_set]; exact addN_len w r b i
def byW (x : BitVec 32) : List (BitVec 8) := [(x >>> 24).setWidth 8, (x >>> 16).setWidth 8, (x >>> 8).setWidth 8, x.setWidth 8]
def keyR (w : List (BitVec 32)) (r : Nat) : List (BitVec 8) := byW (w.getD (4 * r) 0#32) ++ byW (w.getD (4 * r + 1) 0#32) ++ byW (w.getD (4 * r + 2) 0#32) ++ byW (w.getD (4 * r + 3) 0#32)
theorem keyR_len (w : List (BitVec 32)) (r : Nat) : (keyR w r).length = 16 := rfl
theorem addN_all (w : List (BitVec 32)) (r : Nat) (b : List (BitVec 8)) (h : b.length = 16) : addN w r b 4 = addS (keyR w r) b := by
  obtain ⟨a, b', c, d, e, f, g, i, j, k, l, m1, n, o, p, q, rfl⟩ := sixteen h
  simp only [addN, addW, addS, keyR, byW, Nat.reduceMul, Nat.reduceAdd, Nat.add_zero, List.cons_append, List.nil_append, List.zipWith_cons_cons, List.zipWith_nil_left, List.set_cons_zero, List.set_cons_succ, List.getD_cons_zero, List.getD_cons_succ]
noncomputable def fAdd : Fn := fn3 (rdOf kD) (rdOf b16D) rdI (fun K b r => match K with | some (w, _) => decide (b.length = 16) && decide (0 ≤ r) && decide (4 * r + 4 ≤ (w.length : Int)) && decide (w.length ≤ 64) | none => false)
  fun K b r => match K with | some (w, _) => (b16D (addS (keyR w r.toNat) b), []) | none => (b16D b, [])
theorem us_drop (l : List (BitVec 32)) (n : Nat) : (us l).drop n = us (l.drop n) := by simp [us]
theorem us_take (l : List (BitVec 32)) (n : Nat) : (us l).take n = us (l.take n) := by simp [us]
theorem add_ok (C : Ctx) (hC : CtxOK C P) : Meets C.glob P 33 (Fn.run fAdd) := by
  refine fn_meets (m_aes_Key_add C hC) fun ds rows r h => ?_
  obtain ⟨d, e, f, K, b, r, rfl, rfl, hd, he, hf, hp, rfl⟩ := fn3_some h
  cases rdOf_some hd
  cases rdOf_some he
  cases rdI_some hf
  rcases K with _ | ⟨w, x⟩
  · cases hp
  simp only [Bool.and_eq_true, decide_eq_true_eq] at hp
  obtain ⟨⟨⟨hb, h0⟩, hr⟩, hw⟩ := hp
  obtain ⟨r, rfl⟩ := Int.eq_ofNat_of_zero_le h0
  refine ⟨rfl, afun_mk rfl ?_⟩
  clear h hd he hf
  unfold a_aes_Key_add r_aes_Key_add
  simp only [rep_z16]
  have e1 : wz (4 * (r : Int)) = 4 * (r : Int) := wz_id (by omega)
  have e2 : wz (4 * (r : Int) + 4) = 4 * (r : Int) + 4 := wz_id (by omega)
  have e3 : ((0 : Int) ≤ 4 * (r : Int)) = True := eq_true (by omega)
  have e4 : (4 * (r : Int) ≤ 4 * (r : Int) + 4) = True := eq_true (by omega)
  have e5 : (4 * (r : Int) + 4 ≤ (w.length : Int)) = True := eq_true (by omega)
  have e6 : (4 * (r : Int)).toNat = 4 * r := by omega
  have e7 : (4 * (r : Int) + 4).toNat = 4 * r + 4 := by omega
  have e8 : 4 * r + 4 - 4 * r = 4 := by omega
  have e9 : ((w.drop (4 * r)).take 4).length = 4 := by rw [List.length_take, List.length_drop]; omega
  simp only [kD, t256, b16D, ↓amD, amU, Nat.reduceBEq, Nat.reduceAdd, Nat.reduceSub, Nat.reduceMul, Nat.reduceMod, Nat.reducePow, Nat.reduceLT, Nat.reduceDiv, Int.reduceToNat, BitVec.reduceToNat, zipEnv, Int.reduceLE, Int.reduceLT, Int.reduceNeg, BitVec.reduceEq, Int.reduceAdd, Int.reduceSub, Int.reduceMul, Nat.reduceLeDiff, Int.reduceEq, e1, e2, e3, e4, e5, e6, e7, e8, us_len, us_drop, us_take, e9]
  refine kLoop_up 4 (fun i env rows => has env [(18, .raw (it (i : Int))), (17, .raw (it 4)), (16, .lst L32 (us ((w.drop (4 * r)).take 4)) (exOf none (4 * r + 4) (4 * r + 4) w.length x)), (4, .ptr (.ar 16 L8) 1 [0]), (6, .ptr (.ar 16 L8) 2 [0])] ∧
    ∃ y z, rows = [some ⟨S1, [y]⟩, some ⟨.ar 16 L8, [.agg (.ar 16 L8) (bs (addN w r b i))]⟩, some ⟨.ar 16 L8, [z]⟩]) ?_ ?_ ⟨?_, .agg S1 [.lst L32 (us w) x, .agg (.ar 256 L8) (bs boxL), .agg (.ar 256 L8) (bs backL)], .agg (.ar 16 L8) (bs z16), ?_⟩
  · rintro i hi env rows ⟨hh, y, z, rfl⟩ R hR
    simp only [has] at hh
    obtain ⟨h18, h17, h16, h4, h6, -⟩ := hh
    have e0 : ((i : Int) < 4) = True := eq_true (by omega)
    have e1 : ((0 : Int) ≤ (i : Int)) = True := eq_true (by omega)
    have e10 := wz_succ i (by omega)
    have a0 : wz (4 * (i : Int)) = ((4 * i : Nat) : Int) := by rw [wz_id (by omega)]; omega
    have a1 : wz (((4 * i : Nat) : Int) + 1) = ((4 * i + 1 : Nat) : Int) := by rw [wz_id (by omega)]; omega
    have a2 : wz (((4 * i : Nat) : Int) + 2) = ((4 * i + 2 : Nat) : Int) := by rw [wz_id (by omega)]; omega
    have a3 : wz (((4 * i : Nat) : Int) + 3) = ((4 * i + 3 : Nat) : Int) := by rw [wz_id (by omega)]; omega
    have c0 : (((4 * i : Nat) : Int) < 16) = True := eq_true (by omega)
    have c1 : (((4 * i + 1 : Nat) : Int) < 16) = True := eq_true (by omega)
    have c2 : (((4 * i + 2 : Nat) : Int) < 16) = True := eq_true (by omega)
    have c3 : (((4 * i + 3 : Nat) : Int) < 16) = True := eq_true (by omega)
    have b0 : ∀ n : Nat, ((0 : Int) ≤ (n : Int)) = True := fun n => eq_true (by omega)
    have hN := addN_len w r b i
    have gg : ∀ (l : List (BitVec 8)) (j : Nat), j < l.length → (bs l)[j]? = some (.raw (u8 (l.getD j 0#8))) := fun l j h => bs_get h
    have g0 := gg (addN w r b i) (4 * i) (by omega)
    have gw : (us ((w.drop (4 * r)).take 4))[i]? = some (.raw (u32 (w.getD (4 * r + i) 0#32))) := by
      rw [us_get (by omega)]
      simp [List.getD, List.getElem?_take, hi]
    generalize hA : addN w r b i = A at *
    generalize hX : w.getD (4 * r + i) 0#32 = X at *
    have g1 := gg (A.set (4 * i) (A.getD (4 * i) 0#8 ^^^ (X >>> 24).setWidth 8)) (4 * i + 1) (by simp only [List.length_set]; omega)
    generalize hB : A.set (4 * i) (A.getD (4 * i) 0#8 ^^^ (X >>> 24).setWidth 8) = B at *
    have hBl : B.length = A.length := by rw [← hB, List.length_set]
    have g2 := gg (B.set (4 * i + 1) (B.getD (4 * i + 1) 0#8 ^^^ (X >>> 16).setWidth 8)) (4 * i + 2) (by simp only [List.length_set]; omega)
    generalize hCc : B.set (4 * i + 1) (B.getD (4 * i + 1) 0#8 ^^^ (X >>> 16).setWidth 8) = Cc at *
    have hCl : Cc.length = B.length := by rw [← hCc, List.length_set]
    have g3 := gg (Cc.set (4 * i + 2) (Cc.getD (4 * i + 2) 0#8 ^^^ (X >>> 8).setWidth 8)) (4 * i + 3) (by simp only [List.length_set]; omega)
    generalize hDd : Cc.set (4 * i + 2) (Cc.getD (4 * i + 2) 0#8 ^^^ (X >>> 8).setWidth 8) = Dd at *
    have hf : Dd.set (4 * i + 3) (Dd.getD (4 * i + 3) 0#8 ^^^ X.setWidth 8) = addN w r b (i + 1) := by
      rw [addN, hA, hX]; simp only [addW, hB, hCc, hDd]
    simp only [↓amD, amU, Nat.reduceBEq, Nat.reduceAdd, Nat.reduceSub, Nat.reduceMul, Nat.reduceMod, Nat.reducePow, Nat.reduceLT, Nat.reduceDiv, Int.reduceToNat, BitVec.reduceToNat, zipEnv, Int.reduceLE, Int.reduceLT, Int.reduceNeg, BitVec.reduceEq, Int.reduceAdd, Int.reduceSub, Int.reduceMul, Nat.reduceLeDiff, Int.reduceEq, h18, h17, h16, h4, h6, e0, e1, e10, a0, a1, a2, a3, b0, c0, c1, c2, c3, us_len, e9, gw, g0, g1, g2, g3, bs_set, hB, hCc, hDd, hf, decide_true]
    exact hR _ _ ⟨by simp only [has, ↓amD, amU, Nat.reduceBEq, Nat.reduceAdd, Nat.reduceSub, Nat.reduceMul, Nat.reduceMod, Nat.reducePow, Nat.reduceLT, Nat.reduceDiv, Int.reduceToNat, BitVec.reduceToNat, zipEnv, Int.reduceLE, Int.reduceLT, Int.reduceNeg, BitVec.reduceEq, Int.reduceAdd, Int.reduceSub, Int.reduceMul, Nat.reduceLeDiff, Int.reduceEq, h17, h16, h4, h6], y, z, rfl⟩
  · rintro env rows ⟨hh, y, z, rfl⟩ R
    simp only [has] at hh
    obtain ⟨h18, h17, h16, h4, h6, -⟩ := hh
    simp only [↓amD, amU, Nat.reduceBEq, Nat.reduceAdd, Nat.reduceSub, Nat.reduceMul, Nat.reduceMod, Nat.reducePow, Nat.reduceLT, Nat.reduceDiv, Int.reduceToNat, BitVec.reduceToNat, zipEnv, Int.reduceLE, Int.reduceLT, Int.reduceNeg, BitVec.reduceEq, Int.reduceAdd, Int.reduceSub, Int.reduceMul, Nat.reduceLeDiff, Int.reduceEq, h18, h17, h16, h4, h6, addN_all w r b hb]
    exact .val _ rfl
  · simp only [has, ↓amD, amU, Nat.reduceBEq, Nat.reduceAdd, Nat.reduceSub, Nat.reduceMul, Nat.reduceMod, Nat.reducePow, Nat.reduceLT, Nat.reduceDiv, Int.reduceToNat, BitVec.reduceToNat, zipEnv, Int.reduceLE, Int.reduceLT, Int.reduceNeg, BitVec.reduceEq, Int.reduceAdd, Int.reduceSub, Int.reduceMul, Nat.reduceLeDiff, Int.reduceEq]
  · rfl
theorem kAdd (rows : Rows) (k : D → Rows → Prop) (w : List (BitVec 32)) (e : Bool) (b : List (BitVec 8)) (r : Nat) (hb : b.length = 16) (hr : 4 * r + 4 ≤ w.length) (hw : w.length ≤ 64) :
    kCall fAdd rows k [.agg S1 [.lst L32 (us w) e, t256 boxL, t256 backL], b16D b, .raw (it (r : Int))] = k (b16D (addS (keyR w r) b)) rows := by
  have h1 : fAdd [kD (some (w, e)), b16D b, .raw (it (r : Int))] [] = some (b16D (addS (keyR w r) b), []) := by
    have e1 : (0 : Int) ≤ (r : Int) := by omega
    have e2 : 4 * (r : Int) + 4 ≤ (w.length : Int) := by omega
    simp only [fAdd, fn3_ev, rdOf_eq b16D_inj, rdI_eq, rdOf_eq kD_inj, Option.bind_some, hb, hw, e1, e2, decide_true, Bool.and_true, cond_true, Int.toNat_natCast]
  refine (kCall_val rfl h1).trans ?_
  simp [b16D, shift, shiftRows, Sh.pure]
end Job
end Go.Am
