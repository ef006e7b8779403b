/- AES: blocks, joined bit by bit -/
import Derived.Test.YtloclegkilgglaaAes11
namespace Go.Am
set_option linter.unusedSimpArgs false
set_option linter.unusedVariables false
attribute [local congr] bnd_congr kCond_congr kGd_congr kPick_congr kCall_congr kIdx_congr kSlice_congr kLoop_congr cond_congr' aBin_congr aBounds_congr aApp_congr aCopy_congr kFn_congr
namespace Job
open Go.Am.F
set_option maxRecDepth 10000
def px (o x : List (BitVec 8)) (j : Nat) : List (BitVec 8) := (List.range 16).map fun m => if m < j then o.getD m 0#8 ^^^ x.getD m 0#8 else o.getD m 0#8
theorem px_len (o x : List (BitVec 8)) (j : Nat) : (px o x j).length = 16 := by simp [px]
theorem px_get (o x : List (BitVec 8)) (j : Nat) (h : j < 16) : (px o x j).getD j 0#8 = o.getD j 0#8 := by simp [px, List.getD, h]
theorem px_set (o x : List (BitVec 8)) (j : Nat) (h : j < 16) : (px o x j).set j (o.getD j 0#8 ^^^ x.getD j 0#8) = px o x (j + 1) := by
  refine List.ext_getElem (by simp [px]) fun m h1 h2 => ?_
  rw [List.getElem_set]
  simp only [px, List.getElem_map, List.getElem_range]
  by_cases hj : j = m
  · subst hj; simp
  · rw [if_neg hj]
    congr 1
    apply propext
    omega
theorem px_0 (o x : List (BitVec 8)) (h : o.length = 16) : px o x 0 = o := by
  obtain ⟨a, b', c, d, e, f, g, i, j, k, l, m1, n, o, p, q, rfl⟩ := sixteen h
  rfl
theorem px_16 (o x : List (BitVec 8)) (h : o.length = 16) (hx : x.length = 16) : px o x 16 = addS x o := by
  obtain ⟨a, b', c, d, e, f, g, i, j, k, l, m1, n, o, p, q, rfl⟩ := sixteen h
  obtain ⟨a2, b2, c2, d2, e2, f2, g2, i2, j2, k2, l2, m2, n2, o2, p2, q2, rfl⟩ := sixteen hx
  rfl
noncomputable def fXorR : Fn := fn2 (rdOf b16D) (rdOf b16D) (fun a b => decide (a.length = 16) && decide (b.length = 16)) fun a b => (b16D (addS b a), [])
theorem xorR_ok (C : Ctx) (hC : CtxOK C P) : Meets C.glob P 26 (Fn.run fXorR) := by
  refine fn_meets (m_ref03_Xor C hC) fun ds rows r h => ?_
  obtain ⟨d, e, a, b, rfl, rfl, hd, he, hp, rfl⟩ := fn2_some h
  cases rdOf_some hd
  cases rdOf_some he
  simp only [Bool.and_eq_true, decide_eq_true_eq] at hp
  obtain ⟨ha, hb⟩ := hp
  refine ⟨rfl, afun_mk rfl ?_⟩
  clear h hd he
  unfold a_ref03_Xor r_ref03_Xor
  simp only [rep_z16]
  simp only [b16D, ↓amD, amU, Nat.reduceBEq, Nat.reduceAdd, Nat.reduceSub, Nat.reduceMul, Nat.reduceMod, Nat.reducePow, Nat.reduceLT, Nat.reduceDiv, Int.reduceToNat, BitVec.reduceToNat, zipEnv, Int.reduceLE, Int.reduceLT, Int.reduceNeg, BitVec.reduceEq, Int.reduceAdd, Int.reduceSub, Int.reduceMul, Nat.reduceLeDiff, Int.reduceEq]
  refine kLoop_up 16 (fun i env rows => has env [(6, .raw (it (i : Int))), (2, .ptr (.ar 16 L8) 0 [0]), (3, .ptr (.ar 16 L8) 1 [0]), (4, .ptr (.ar 16 L8) 2 [0])] ∧
    ∃ z, rows = [some ⟨.ar 16 L8, [.agg (.ar 16 L8) (bs (px a b i))]⟩, some ⟨.ar 16 L8, [.agg (.ar 16 L8) (bs b)]⟩, some ⟨.ar 16 L8, [z]⟩]) ?_ ?_ ⟨?_, .agg (.ar 16 L8) (bs z16), ?_⟩
  · rintro i hi env rows ⟨hh, z, rfl⟩ R hR
    simp only [has] at hh
    obtain ⟨h6, h2, h3, h4, -⟩ := hh
    have e0 : ((i : Int) < 16) = True := eq_true (by omega)
    have e1 : ((0 : Int) ≤ (i : Int)) = True := eq_true (by omega)
    have e2 := wz_succ i (by omega)
    have g1 : (bs (px a b i))[i]? = some (.raw (u8 (a.getD i 0#8))) := by rw [bs_get (by rw [px_len]; omega), px_get _ _ _ hi]
    have g2 : (bs b)[i]? = some (.raw (u8 (b.getD i 0#8))) := bs_get (by omega)
    simp only [↓amD, amU, Nat.reduceBEq, Nat.reduceAdd, Nat.reduceSub, Nat.reduceMul, Nat.reduceMod, Nat.reducePow, Nat.reduceLT, Nat.reduceDiv, Int.reduceToNat, BitVec.reduceToNat, zipEnv, Int.reduceLE, Int.reduceLT, Int.reduceNeg, BitVec.reduceEq, Int.reduceAdd, Int.reduceSub, Int.reduceMul, Nat.reduceLeDiff, Int.reduceEq, h6, h2, h3, h4, e0, e1, e2, g1, g2, bs_set, px_set a b i hi, decide_true]
    exact hR _ _ ⟨by simp only [has, ↓amD, amU, Nat.reduceBEq, Nat.reduceAdd, Nat.reduceSub, Nat.reduceMul, Nat.reduceMod, Nat.reducePow, Nat.reduceLT, Nat.reduceDiv, Int.reduceToNat, BitVec.reduceToNat, zipEnv, Int.reduceLE, Int.reduceLT, Int.reduceNeg, BitVec.reduceEq, Int.reduceAdd, Int.reduceSub, Int.reduceMul, Nat.reduceLeDiff, Int.reduceEq, h2, h3, h4], z, rfl⟩
  · rintro env rows ⟨hh, z, rfl⟩ R
    simp only [has] at hh
    obtain ⟨h6, h2, h3, h4, -⟩ := hh
    simp only [↓amD, amU, Nat.reduceBEq, Nat.reduceAdd, Nat.reduceSub, Nat.reduceMul, Nat.reduceMod, Nat.reducePow, Nat.reduceLT, Nat.reduceDiv, Int.reduceToNat, BitVec.reduceToNat, zipEnv, Int.reduceLE, Int.reduceLT, Int.reduceNeg, BitVec.reduceEq, Int.reduceAdd, Int.reduceSub, Int.reduceMul, Nat.reduceLeDiff, Int.reduceEq, h6, h2, h3, h4, px_16 _ _ ha hb]
    exact .val _ rfl
  · simp only [has, ↓amD, amU, Nat.reduceBEq, Nat.reduceAdd, Nat.reduceSub, Nat.reduceMul, Nat.reduceMod, Nat.reducePow, Nat.reduceLT, Nat.reduceDiv, Int.reduceToNat, BitVec.reduceToNat, zipEnv, Int.reduceLE, Int.reduceLT, Int.reduceNeg, BitVec.reduceEq, Int.reduceAdd, Int.reduceSub, Int.reduceMul, Nat.reduceLeDiff, Int.reduceEq]
  · rw [px_0 _ _ ha]
theorem kXorR (rows : Rows) (k : D → Rows → Prop) (a b : List (BitVec 8)) (ha : a.length = 16) (hb : b.length = 16) : kCall fXorR rows k [b16D a, b16D b] = k (b16D (addS b a)) rows := by
  refine (kCall_val (by simp [hasRefL, b16_ref]) (r := (b16D (addS b a), [])) ?_).trans ?_
  · rw [fXorR, fn2_eq (rdOf_eq b16D_inj a) (rdOf_eq b16D_inj b) (by simp [ha, hb])]
  · simp [b16_shift, shiftRows]
def xorL (ls : List (List (BitVec 8))) : Nat → List (BitVec 8)
  | 0 => z16
  | i + 1 => addS (ls.getD i []) (xorL ls i)
def all16 (ls : List (List (BitVec 8))) : Bool := ls.all fun b => decide (b.length = 16)
theorem all16_get {ls : List (List (BitVec 8))} (h : all16 ls = true) {i : Nat} (hi : i < ls.length) : (ls.getD i []).length = 16 := by
  simp only [all16, List.all_eq_true, decide_eq_true_eq] at h
  refine h _ ?_
  simp [List.getD, hi]
theorem xorL_len {ls : List (List (BitVec 8))} (h : all16 ls = true) : ∀ {i : Nat}, i ≤ ls.length → (xorL ls i).length = 16
  | 0, _ => List.length_replicate
  | i + 1, hi => add_len _ _ (all16_get h (by omega)) (xorL_len h (by omega))
noncomputable def fXor : Fn := fn1 (rdLst (.ar 16 L8) b16D) (fun ls => all16 ls && decide (ls.length ≤ 64)) fun ls => (b16D (xorL ls ls.length), [])
theorem xor_ok (C : Ctx) (hC : CtxOK C P) : Meets C.glob P 25 (Fn.run fXor) := by
  refine fn_meetsN (m_aes_Xor C hC) fun ds rows r h => ?_
  obtain ⟨d, ls, rfl, rfl, hd, hp, rfl⟩ := fn1_some h
  obtain ⟨x, hx⟩ := rdLst_nrm hd
  refine ⟨rfl, _, .cons hx .nil, afun_mk rfl ?_⟩
  simp only [Bool.and_eq_true, decide_eq_true_eq] at hp
  obtain ⟨hp, hl⟩ := hp
  clear h hx hd
  unfold a_aes_Xor r_aes_Xor
  simp only [rep_z16]
  simp only [↓amD, amU, Nat.reduceBEq, Nat.reduceAdd, Nat.reduceSub, Nat.reduceMul, Nat.reduceMod, Nat.reducePow, Nat.reduceLT, Nat.reduceDiv, Int.reduceToNat, BitVec.reduceToNat, zipEnv, Int.reduceLE, Int.reduceLT, Int.reduceNeg, BitVec.reduceEq, Int.reduceAdd, Int.reduceSub, Int.reduceMul, Nat.reduceLeDiff, Int.reduceEq]
  refine kLoop_up ls.length (fun i env rows => has env [(10, .raw (it (i : Int))), (9, .raw (it (ls.length : Int))), (8, .lst (.ar 16 L8) (ls.map b16D) x), (2, .ptr (.ar 16 L8) 0 [0]), (3, .ptr (.ar 16 L8) 1 [0])] ∧
    (∃ z, live rows 0 = some ⟨.ar 16 L8, [z]⟩) ∧ live rows 1 = some ⟨.ar 16 L8, [b16D (xorL ls i)]⟩) ?_ ?_ ⟨?_, ⟨.agg (.ar 16 L8) (bs z16), rfl⟩, rfl⟩
  · rintro i hi env rs ⟨hh, ⟨z, l0⟩, l1⟩ R hR
    simp only [has] at hh
    obtain ⟨h10, h9, h8, h2, h3, -⟩ := hh
    have e0 : ((i : Int) < (ls.length : Int)) = True := eq_true (by omega)
    have e1 : ((0 : Int) ≤ (i : Int)) = True := eq_true (by omega)
    have e2 := wz_succ i (by omega)
    have g1 : (ls.map b16D)[i]? = some (b16D (ls.getD i [])) := by simp [List.getD, hi]
    have hbl := all16_get hp hi
    have hol := xorL_len hp (i := i) (by omega)
    have hnx : xorL ls (i + 1) = addS (ls.getD i []) (xorL ls i) := rfl
    rw [hnx] at hR
    generalize ls.getD i [] = b at *
    generalize xorL ls i = o at *
    simp only [↓amD, amU, Nat.reduceBEq, Nat.reduceAdd, Nat.reduceSub, Nat.reduceMul, Nat.reduceMod, Nat.reducePow, Nat.reduceLT, Nat.reduceDiv, Int.reduceToNat, BitVec.reduceToNat, zipEnv, Int.reduceLE, Int.reduceLT, Int.reduceNeg, BitVec.reduceEq, Int.reduceAdd, Int.reduceSub, Int.reduceMul, Nat.reduceLeDiff, Int.reduceEq, lv_app0, lv_appk, set_app0, set_appk, List.append_assoc, List.append_nil, Nat.add_assoc, h10, h9, h8, h2, h3, e0, e1, g1, b16_fits, decide_true]
    have m0 := live_app l0 [some ⟨.ar 16 L8, [b16D b]⟩]
    have m1 := live_app l1 [some ⟨.ar 16 L8, [b16D b]⟩]
    generalize rs ++ [some ⟨.ar 16 L8, [b16D b]⟩] = RS at *
    refine kLoop_up 16 (fun j env rows => has env [(15, .raw (it (j : Int))), (14, b16D b), (10, .raw (it (i : Int))), (9, .raw (it (ls.length : Int))), (8, .lst (.ar 16 L8) (ls.map b16D) x), (2, .ptr (.ar 16 L8) 0 [0]), (3, .ptr (.ar 16 L8) 1 [0])] ∧
      live rows 0 = some ⟨.ar 16 L8, [z]⟩ ∧ live rows 1 = some ⟨.ar 16 L8, [.agg (.ar 16 L8) (bs (px o b j))]⟩) ?_ ?_ ⟨?_, m0, by rw [px_0 _ _ hol]; exact m1⟩
    · rintro j hj env rs2 ⟨hh, l0, l1⟩ R hR
      simp only [has] at hh
      obtain ⟨h15, h14, h10, h9, h8, h2, h3, -⟩ := hh
      have e0 : ((j : Int) < 16) = True := eq_true (by omega)
      have e1 : ((0 : Int) ≤ (j : Int)) = True := eq_true (by omega)
      have e2 := wz_succ j (by omega)
      have g1 : (bs (px o b j))[j]? = some (.raw (u8 (o.getD j 0#8))) := by rw [bs_get (by rw [px_len]; omega), px_get _ _ _ hj]
      have g2 : (bs b)[j]? = some (.raw (u8 (b.getD j 0#8))) := bs_get (by omega)
      have ho : look env 14 = some (.agg (.ar 16 L8) (bs b)) := h14
      simp only [↓amD, amU, Nat.reduceBEq, Nat.reduceAdd, Nat.reduceSub, Nat.reduceMul, Nat.reduceMod, Nat.reducePow, Nat.reduceLT, Nat.reduceDiv, Int.reduceToNat, BitVec.reduceToNat, zipEnv, Int.reduceLE, Int.reduceLT, Int.reduceNeg, BitVec.reduceEq, Int.reduceAdd, Int.reduceSub, Int.reduceMul, Nat.reduceLeDiff, Int.reduceEq, h15, ho, h10, h9, h8, h2, h3, l1, e0, e1, e2, g1, g2, bs_set, px_set o b j hj, decide_true]
      exact hR _ _ ⟨by simp only [has, ↓amD, amU, Nat.reduceBEq, Nat.reduceAdd, Nat.reduceSub, Nat.reduceMul, Nat.reduceMod, Nat.reducePow, Nat.reduceLT, Nat.reduceDiv, Int.reduceToNat, BitVec.reduceToNat, zipEnv, Int.reduceLE, Int.reduceLT, Int.reduceNeg, BitVec.reduceEq, Int.reduceAdd, Int.reduceSub, Int.reduceMul, Nat.reduceLeDiff, Int.reduceEq, h14, h10, h9, h8, h2, h3], live_set_o l0 (by decide), live_set_eq l1⟩
    · rintro env rs2 ⟨hh, l0, l1⟩ R
      simp only [has] at hh
      obtain ⟨h15, h14, h10, h9, h8, h2, h3, -⟩ := hh
      rw [px_16 _ _ hol hbl] at l1
      simp only [↓amD, amU, Nat.reduceBEq, Nat.reduceAdd, Nat.reduceSub, Nat.reduceMul, Nat.reduceMod, Nat.reducePow, Nat.reduceLT, Nat.reduceDiv, Int.reduceToNat, BitVec.reduceToNat, zipEnv, Int.reduceLE, Int.reduceLT, Int.reduceNeg, BitVec.reduceEq, Int.reduceAdd, Int.reduceSub, Int.reduceMul, Nat.reduceLeDiff, Int.reduceEq, h15, h10, h9, h8, h2, h3, e2]
      exact hR _ _ ⟨by simp only [has, ↓amD, amU, Nat.reduceBEq, Nat.reduceAdd, Nat.reduceSub, Nat.reduceMul, Nat.reduceMod, Nat.reducePow, Nat.reduceLT, Nat.reduceDiv, Int.reduceToNat, BitVec.reduceToNat, zipEnv, Int.reduceLE, Int.reduceLT, Int.reduceNeg, BitVec.reduceEq, Int.reduceAdd, Int.reduceSub, Int.reduceMul, Nat.reduceLeDiff, Int.reduceEq, h9, h8, h2, h3], ⟨z, l0⟩, l1⟩
    · simp only [has, ↓amD, amU, Nat.reduceBEq, Nat.reduceAdd, Nat.reduceSub, Nat.reduceMul, Nat.reduceMod, Nat.reducePow, Nat.reduceLT, Nat.reduceDiv, Int.reduceToNat, BitVec.reduceToNat, zipEnv, Int.reduceLE, Int.reduceLT, Int.reduceNeg, BitVec.reduceEq, Int.reduceAdd, Int.reduceSub, Int.reduceMul, Nat.reduceLeDiff, Int.reduceEq, h10, h9, h8, h2, h3]
  · rintro env rs ⟨hh, ⟨z, l0⟩, l1⟩ R
    simp only [has] at hh
    obtain ⟨h10, h9, h8, h2, h3, -⟩ := hh
    have l2 := live_set_eq (y := ⟨.ar 16 L8, [b16D (xorL ls ls.length)]⟩) l0
    have e0 : ((ls.length : Int) < (ls.length : Int)) = False := eq_false (by omega)
    simp only [↓amD, amU, Nat.reduceBEq, Nat.reduceAdd, Nat.reduceSub, Nat.reduceMul, Nat.reduceMod, Nat.reducePow, Nat.reduceLT, Nat.reduceDiv, Int.reduceToNat, BitVec.reduceToNat, zipEnv, Int.reduceLE, Int.reduceLT, Int.reduceNeg, BitVec.reduceEq, Int.reduceAdd, Int.reduceSub, Int.reduceMul, Nat.reduceLeDiff, Int.reduceEq, h10, h9, h8, h2, h3, l0, l1, l2, e0, b16_fits]
    exact .val _ rfl
  · simp only [has, ↓amD, amU, Nat.reduceBEq, Nat.reduceAdd, Nat.reduceSub, Nat.reduceMul, Nat.reduceMod, Nat.reducePow, Nat.reduceLT, Nat.reduceDiv, Int.reduceToNat, BitVec.reduceToNat, zipEnv, Int.reduceLE, Int.reduceLT, Int.reduceNeg, BitVec.reduceEq, Int.reduceAdd, Int.reduceSub, Int.reduceMul, Nat.reduceLeDiff, Int.reduceEq, List.length_map]
theorem kXor {rows : Rows} {r : Nat} {ex : Bool} {ls : List (List (BitVec 8))} (h : live rows r = some ⟨.ar 16 L8, ls.map b16D⟩) (hp : all16 ls = true) (hl : ls.length ≤ 64) (k : D → Rows → Prop) :
    kCall fXor rows k [.sl (.ar 16 L8) r [] 0 ls.length ex] = k (b16D (xorL ls ls.length)) rows := by
  have hf : fXor [.lst (.ar 16 L8) (ls.map b16D) ex] [] = some (b16D (xorL ls ls.length), []) := by
    rw [fXor]; exact fn1_eq (rdLst_eq b16D_inj ls ex) (by simp [hp, hl])
  have hv : view rows 9 (.sl (.ar 16 L8) r [] 0 ls.length ex) = some (.lst (.ar 16 L8) (ls.map b16D) ex) := by
    have : elems rows (.sl (.ar 16 L8) r [] 0 ls.length ex) = some (ls.map b16D) := by
      simp only [elems, h]; simp [List.take_of_length_le]
    simp only [view]
    rw [this]
    simp [Sh.pure]
  unfold kCall
  simp [hasRefL, hasRef, mapO, hv, hf, bnd, b16_shift, b16_noLst, shiftRows, noLstRows]
theorem kXor0 (rows : Rows) (k : D → Rows → Prop) : kCall fXor rows k [.raw (.slice none 0 0)] = k (b16D z16) rows := by
  refine (kCall_val rfl (r := (b16D z16, [])) ?_).trans ?_
  · rw [fXor]; exact fn1_eq (x := []) rfl rfl
  · simp [b16_shift, shiftRows]
theorem add_z (b : List (BitVec 8)) (h : b.length = 16) : addS b z16 = b := by
  obtain ⟨a, b', c, d, e, f, g, i, j, k, l, m1, n, o, p, q, rfl⟩ := sixteen h
  simp [addS, z16, List.replicate_succ]
theorem add_self (b : List (BitVec 8)) (h : b.length = 16) : addS b b = z16 := by
  obtain ⟨a, b', c, d, e, f, g, i, j, k, l, m1, n, o, p, q, rfl⟩ := sixteen h
  simp [addS, z16, List.replicate_succ]
end Job
end Go.Am
