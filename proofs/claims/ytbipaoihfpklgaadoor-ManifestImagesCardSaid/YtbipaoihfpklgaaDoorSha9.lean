/- SHA-256: the sum, as the reference makes it -/
import Derived.Test.YtbipaoihfpklgaaDoorSha8
namespace Go.Am
set_option linter.unusedSimpArgs false
set_option linter.unusedVariables false
attribute [local congr] bnd_congr kCond_congr kGd_congr kPick_congr kCall_congr kIdx_congr kSlice_congr kLoop_congr cond_congr' aBin_congr aBounds_congr aApp_congr aCopy_congr kFn_congr
namespace Job
open Go.Am.F
set_option maxRecDepth 10000
theorem num8 (m : BitVec 64) : numL 8 m = be8 m 8 := by
  have d1 : ∀ x : BitVec 64, x / 256#64 = x >>> 8 := fun x => by
    apply BitVec.eq_of_toNat_eq
    rw [BitVec.toNat_udiv, BitVec.toNat_ushiftRight, Nat.shiftRight_eq_div_pow]; rfl
  have d2 : ∀ x : BitVec 64, (x % 256#64).setWidth 8 = x.setWidth 8 := fun x => by
    apply BitVec.eq_of_toNat_eq
    rw [BitVec.toNat_setWidth, BitVec.toNat_setWidth, BitVec.toNat_umod]
    simp
  have d3 : ∀ (x : BitVec 64) (i j : Nat), (x >>> i) >>> j = x >>> (i + j) := fun x i j => (BitVec.shiftRight_add x i j).symm
  simp only [numL, d1, d2, d3, be8, List.range_succ, List.range_zero, List.nil_append, List.map_append, List.map_cons, List.map_nil, List.cons_append, Nat.reduceAdd, Nat.reduceMul, Nat.reduceSub, BitVec.ushiftRight_zero]
theorem shl3 (n : BitVec 64) : 8#64 * n = n <<< 3 := by
  apply BitVec.eq_of_toNat_eq
  rw [BitVec.toNat_mul, BitVec.toNat_shiftLeft, Nat.shiftLeft_eq]; simp; omega
theorem zerosN_of (L : Nat) (h : L < 18446744073709551616) : zerosN (BitVec.ofNat 64 L) = (119 - L % 64) % 64 := by
  unfold zerosN
  have : (BitVec.ofNat 64 L).toNat = L := by simp; omega
  rw [BitVec.toNat_umod, BitVec.toNat_sub, BitVec.toNat_umod, this]
  simp; omega
def textS (p : List (BitVec 8)) : List (BitVec 8) := p ++ padS (BitVec.ofNat 64 p.length)
def blkH (p : List (BitVec 8)) (j : Nat) : List (BitVec 32) := (feed st0 ((textS p).take (64 * j))).h
theorem text_len (p : List (BitVec 8)) (h : p.length < 18446744073709551616) : (textS p).length % 64 = 0 ∧ (textS p).length ≤ p.length + 72 := by
  have hz := zerosN_of p.length h
  rw [textS, List.length_append, padS_len, hz]
  omega
theorem feed_blk (t : List (BitVec 8)) : ∀ (j : Nat), 64 * j ≤ t.length → (feed st0 (t.take (64 * j))).rest = zero64 ∧ (feed st0 (t.take (64 * j))).n = BitVec.ofNat 64 (64 * j) ∧ (feed st0 (t.take (64 * j))).h.length = 8
  | 0, _ => ⟨rfl, rfl, rfl⟩
  | j + 1, h => by
    obtain ⟨h1, h2, h3⟩ := feed_blk t j (by omega)
    have e : t.take (64 * (j + 1)) = t.take (64 * j) ++ (t.drop (64 * j)).take 64 := by
      rw [show 64 * (j + 1) = 64 * j + 64 by omega, List.take_add]
    have hx : ((t.drop (64 * j)).take 64).length = 64 := by rw [List.length_take, List.length_drop]; omega
    have ha : (feed st0 (t.take (64 * j))).n.toNat % 64 = 0 := by rw [h2, BitVec.toNat_ofNat]; omega
    have hf := feed_full (feed st0 (t.take (64 * j))) (by rw [h1]; rfl) ((t.drop (64 * j)).take 64) (by rw [ha, hx])
    rw [e, feed_app, hf]
    refine ⟨rfl, ?_, ?_⟩
    · show (feed st0 (t.take (64 * j))).n + _ = _
      rw [h2, hx]
      apply BitVec.eq_of_toNat_eq
      simp only [BitVec.toNat_add, BitVec.toNat_ofNat]; omega
    · exact press_len _ _ h3
theorem blkH_succ (p : List (BitVec 8)) (j : Nat) (h : 64 * (j + 1) ≤ (textS p).length) : blkH p (j + 1) = pressS (blkH p j) (((textS p).drop (64 * j)).take 64) := by
  unfold blkH
  generalize textS p = t at *
  obtain ⟨h1, h2, h3⟩ := feed_blk t j (by omega)
  have e : t.take (64 * (j + 1)) = t.take (64 * j) ++ (t.drop (64 * j)).take 64 := by
    rw [show 64 * (j + 1) = 64 * j + 64 by omega, List.take_add]
  have hx : ((t.drop (64 * j)).take 64).length = 64 := by rw [List.length_take, List.length_drop]; omega
  have ha : (feed st0 (t.take (64 * j))).n.toNat % 64 = 0 := by rw [h2, BitVec.toNat_ofNat]; omega
  have hf := feed_full (feed st0 (t.take (64 * j))) (by rw [h1]; rfl) ((t.drop (64 * j)).take 64) (by rw [ha, hx])
  rw [e, feed_app, hf, ha, h1]
  have hs : splice zero64 0 ((t.drop (64 * j)).take 64) = (t.drop (64 * j)).take 64 := by
    unfold splice
    have hz : zero64.drop (0 + ((t.drop (64 * j)).take 64).length) = [] := List.drop_eq_nil_of_le (by rw [hx]; exact Nat.le_refl _)
    rw [List.take_zero, List.nil_append, hz, List.append_nil]
  rw [hs]
theorem blkH_len (p : List (BitVec 8)) (j : Nat) (h : 64 * j ≤ (textS p).length) : (blkH p j).length = 8 := (feed_blk _ j h).2.2
theorem sumS_eq (p : List (BitVec 8)) : sumS p = digS (blkH p ((textS p).length / 64)) ∨ ¬ (textS p).length % 64 = 0 := by
  by_cases h : (textS p).length % 64 = 0
  · left
    have e : 64 * ((textS p).length / 64) = (textS p).length := by omega
    have hn : (feed st0 p).n = BitVec.ofNat 64 p.length := by rw [feed_n]; show 0#64 + _ = _; rw [BitVec.zero_add]
    rw [blkH, e, List.take_length, textS, feed_app, sumS, sumSt, hn]
  · exact .inr h
theorem kPressR (rows : Rows) (k : D → Rows → Prop) (h : List (BitVec 32)) (d : D) (b : List (BitVec 8)) (hd : BsIn rows d b) (hh : h.length = 8) (hb : b.length = 64) : kCall fPressR rows k [.agg (.ar 8 L32) (us h), d] = k (.agg (.ar 8 L32) (us (pressS h b))) rows := by
  obtain ⟨⟨d', hd', hbd⟩, hn⟩ := hd
  have e1 : ∀ d2, rdBs d2 = some b → fPressR [.agg (.ar 8 L32) (us h), d2] [] = some (h8D (pressS h b), []) := fun d2 h2 => fn2_eq (rdOf_eq h8D_inj h) h2 (by simp [hh, hb])
  have hr : hasRef (.agg (.ar 8 L32) (us h)) = false := by simp [hasRef, Sh.pure]
  have hv : view rows 9 (.agg (.ar 8 L32) (us h)) = some (.agg (.ar 8 L32) (us h)) := by simp [view, Sh.pure]
  unfold kCall
  have h1 : hasRefL [.agg (.ar 8 L32) (us h), d] = hasRef d := by simp [hasRefL, hr]
  rw [h1]
  have hsh : shift rows.length (h8D (pressS h b)) = h8D (pressS h b) := by simp [h8D, shift, Sh.pure]
  have hno : noLst (h8D (pressS h b)) = true := by simp [h8D, noLst, Sh.pure]
  cases hh : hasRef d with
  | true =>
    simp only [forall_const, mapO, hv, hd', bnd, e1 _ hbd.rd, hno, noLstRows, Bool.and_self, true_and, hsh, shiftRows, List.append_nil]
    simp [h8D]
  | false =>
    simp only [forall_const, bnd, e1 _ (hn hh).rd, hsh, shiftRows, List.append_nil]
    simp [h8D]
theorem fill8_set {l : List (BitVec 8)} {n : Nat} (h : l.length < n) (x : BitVec 8) : (fill8 l n).set l.length x = fill8 (l ++ [x]) n := by
  obtain ⟨k, hk⟩ : ∃ k, n - l.length = k + 1 := ⟨n - l.length - 1, by omega⟩
  have h2 : n - (l ++ [x]).length = k := by simp; omega
  rw [fill8, fill8, hk, h2, List.replicate_succ, List.set_append_right _ _ (Nat.le_refl _)]
  simp
theorem kNum8 (rows : Rows) (k : D → Rows → Prop) (n : BitVec 64) : kCall fNumS rows k [.raw (u64 n), .raw (it 8)] = k (.sl L8 (0 + rows.length) [] 0 8 false) (rows ++ [some ⟨L8, bs (numL 8 n)⟩]) := by
  refine (kCall_val rfl (r := outBs (numL 8 n) false) ?_).trans ?_
  · rw [fNumS, fn2_eq (rd64_eq _) (rdI_eq 8) (by decide)]; rfl
  · simp [outBs, shift, shiftRows, Sh.pure, numL_len]
def fRSum : Fn := fn1 rdBs (fun p => Nat.ble p.length 1099511627000) fun p => (d32D (sumS p), [])
theorem rsum_ok (C : Ctx) (hC : CtxOK C P) (h9 : C.fn 6 = some fCut) (h21 : C.fn 29 = some fPressR) (h24 : C.fn 23 = some fNumS) : Meets C.glob P 18 (Fn.run fRSum) := by
  refine fn_meetsN (m_ref01_Sum C hC) fun ds rows r h => ?_
  obtain ⟨d, p, rfl, rfl, hd, hp, rfl⟩ := fn1_some h
  obtain ⟨x0, hx⟩ := rdBs_nrm hd
  simp only [Nat.ble_eq] at hp
  refine ⟨rfl, _, .cons hx .nil, afun_mk rfl ?_⟩
  clear h hd hx
  unfold a_ref01_Sum r_ref01_Sum
  have hcut := fun rows k => kCut rows k (.lst L8 (bs p) x0) p (p.length : Int) (.inr ⟨x0, rfl⟩) (by omega) (by rw [List.length_take]; omega)
  have ht : p.take (p.length : Int).toNat = p := by rw [Int.toNat_natCast, List.take_length]
  simp only [ht] at hcut
  simp only [↓amD, amU, Nat.reduceBEq, Nat.reduceAdd, Nat.reduceSub, Nat.reduceMul, Nat.reduceMod, Nat.reducePow, Nat.reduceLT, Nat.reduceDiv, Int.reduceToNat, BitVec.reduceToNat, zipEnv, Int.reduceLE, Int.reduceLT, Int.reduceNeg, BitVec.reduceEq, Int.reduceAdd, Int.reduceSub, Int.reduceMul, Nat.reduceLeDiff, Int.reduceEq, lv_app0, lv_appk, set_app0, set_appk, List.append_assoc, List.append_nil, Nat.add_assoc, h9, bs_len, hcut, List.nil_append]
  have htl : (bs p).take p.length = bs p := bs_take_len p
  have hof : BitVec.ofInt 64 (p.length : Int) = BitVec.ofNat 64 p.length := rfl
  simp only [htl, hof]
  refine ⟨bs_len p, by omega, by omega, ?_⟩
  obtain ⟨z, hz⟩ : ∃ z, zerosN (BitVec.ofNat 64 p.length) = z := ⟨_, rfl⟩
  have hz1 : z = (119 - p.length % 64) % 64 := by rw [← hz]; exact zerosN_of _ (by omega)
  have ne0 : ∀ {rows : Rows} {x : D} {l : List (BitVec 8)} {y : D}, Own L8 x rows (bs l) → live rows 0 = some ⟨.ar 32 L8, [y]⟩ → ∀ ex, x ≠ .sl L8 0 [] 0 (bs l).length ex := by
    intro rows x l y how hl ex he
    rcases how with ⟨_, h⟩ | ⟨r, ex', h, hr⟩
    · rw [h] at he; cases he
    · rw [h] at he
      injection he with _ hr0
      subst hr0
      rw [hl] at hr
      cases hr
  have tm : ∀ n : Nat, ((n : Int).tmod 64) = ((n % 64 : Nat) : Int) := fun n => by rw [Int.tmod_eq_emod_of_nonneg (by omega)]; omega
  have how0 : ∀ R : Rows, live R 3 = some ⟨L8, bs p ++ [.raw (u8 128#8)]⟩ → Own L8 (.sl L8 3 [] 0 (p.length + 1) false) R (bs (p ++ [128#8] ++ List.replicate 0 0#8)) := fun R h => by
    refine .inr ⟨3, false, by rw [bs_len]; simp, ?_⟩
    rw [List.replicate_zero, List.append_nil, bs_snoc]; exact h
  refine kLoop_up z (fun i env rows => ∃ x y, has env [(0, x), (3, .raw (u64 (BitVec.ofNat 64 p.length))), (2, .ptr (.ar 32 L8) 0 [0])] ∧ live rows 0 = some ⟨.ar 32 L8, [y]⟩ ∧ Own L8 x rows (bs (p ++ [128#8] ++ List.replicate i 0#8))) ?_ ?_ ⟨_, _, ?_, rfl, how0 _ rfl⟩
  · rintro i hi env rows ⟨x, y, hh, r0, how⟩ R hR
    simp only [has] at hh
    obtain ⟨q0, q3, q2, -⟩ := hh
    have hl : (p ++ [128#8] ++ List.replicate i 0#8).length = p.length + 1 + i := by simp; omega
    have hl2 : (bs (p ++ [128#8] ++ List.replicate i 0#8)).length = p.length + 1 + i := by rw [bs_len, hl]
    have c1 : (((p.length + 1 + i : Nat) : Int).tmod 64 = 56) = False := eq_false (by rw [tm]; omega)
    simp only [↓amD, amU, Nat.reduceBEq, Nat.reduceAdd, Nat.reduceSub, Nat.reduceMul, Nat.reduceMod, Nat.reducePow, Nat.reduceLT, Nat.reduceDiv, Int.reduceToNat, BitVec.reduceToNat, zipEnv, Int.reduceLE, Int.reduceLT, Int.reduceNeg, BitVec.reduceEq, Int.reduceAdd, Int.reduceSub, Int.reduceMul, Nat.reduceLeDiff, Int.reduceEq, q0, q3, q2, how.slen, hl2, c1, decide_false]
    refine app_own how.push (by rw [hl2]; simp only [List.length_cons, List.length_nil]; unfold most; omega) (by rw [hl2]; simp only [List.length_cons, List.length_nil]; unfold most; omega) ?_
    intro x' rows' how' hk _ _
    simp only [↓amD, amU, Nat.reduceBEq, Nat.reduceAdd, Nat.reduceSub, Nat.reduceMul, Nat.reduceMod, Nat.reducePow, Nat.reduceLT, Nat.reduceDiv, Int.reduceToNat, BitVec.reduceToNat, zipEnv, Int.reduceLE, Int.reduceLT, Int.reduceNeg, BitVec.reduceEq, Int.reduceAdd, Int.reduceSub, Int.reduceMul, Nat.reduceLeDiff, Int.reduceEq, q0, q3, q2]
    refine hR _ _ ⟨x', y, by simp only [has, ↓amD, amU, Nat.reduceBEq, Nat.reduceAdd, Nat.reduceSub, Nat.reduceMul, Nat.reduceMod, Nat.reducePow, Nat.reduceLT, Nat.reduceDiv, Int.reduceToNat, BitVec.reduceToNat, zipEnv, Int.reduceLE, Int.reduceLT, Int.reduceNeg, BitVec.reduceEq, Int.reduceAdd, Int.reduceSub, Int.reduceMul, Nat.reduceLeDiff, Int.reduceEq, q3, q2], hk 0 _ (live_push r0) (fun ex => ne0 how r0 ex), ?_⟩
    rw [List.replicate_succ', ← List.append_assoc, bs_snoc]
    exact how'
  · rintro env rows ⟨x, y, hh, r0, how⟩ R
    simp only [has] at hh
    obtain ⟨q0, q3, q2, -⟩ := hh
    have hl : (p ++ [128#8] ++ List.replicate z 0#8).length = p.length + 1 + z := by simp; omega
    have hl2 : (bs (p ++ [128#8] ++ List.replicate z 0#8)).length = p.length + 1 + z := by rw [bs_len, hl]
    have c1 : (((p.length + 1 + z : Nat) : Int).tmod 64 = 56) = True := eq_true (by rw [tm]; omega)
    have b8 : (bs (be8 (BitVec.ofNat 64 p.length <<< 3) 8)).take 8 = bs (be8 (BitVec.ofNat 64 p.length <<< 3) 8) := by rw [bs_take]; congr 1
    have b9 : (bs (be8 (BitVec.ofNat 64 p.length <<< 3) 8)).length = 8 := by rw [bs_len, be8_len]
    generalize hT : p ++ [128#8] ++ List.replicate z 0#8 = T at *
    generalize hK : p.length + 1 + z = K at hl hl2 c1
    simp only [↓amD, amU, Nat.reduceBEq, Nat.reduceAdd, Nat.reduceSub, Nat.reduceMul, Nat.reduceMod, Nat.reducePow, Nat.reduceLT, Nat.reduceDiv, Int.reduceToNat, BitVec.reduceToNat, zipEnv, Int.reduceLE, Int.reduceLT, Int.reduceNeg, BitVec.reduceEq, Int.reduceAdd, Int.reduceSub, Int.reduceMul, Nat.reduceLeDiff, Int.reduceEq, lv_app0, lv_appk, set_app0, set_appk, List.append_assoc, List.append_nil, Nat.add_assoc, q0, q3, q2, how.slen, hl2, c1, h24, kNum8, shl3, num8, b8, b9, decide_true]
    refine app_own how.push (by rw [hl2, b9]; unfold most; omega) (by rw [hl2, b9]; unfold most; omega) ?_
    intro x' rows' how' hk _ hx'
    have r0' := hk 0 _ (live_push r0) (fun ex => ne0 how r0 ex)
    have htx : bs T ++ bs (be8 (BitVec.ofNat 64 p.length <<< 3) 8) = bs (textS p) := by
      rw [bs_app, ← hT]; simp only [textS, padS, hz, List.append_assoc]
    rw [htx] at how' hx'
    obtain ⟨rt, ext, hx'⟩ := hx'
    rw [bs_len] at hx'
    have hlt : live rows' rt = some ⟨L8, bs (textS p)⟩ := by
      rcases how' with ⟨_, h⟩ | ⟨r2, ex2, h, h2⟩
      · rw [h] at hx'; cases hx'
      · rw [bs_len] at h; rw [h] at hx'; cases hx'; exact h2
    subst hx'
    obtain ⟨hm0, hm1⟩ := text_len p (by omega)
    obtain ⟨m, hm⟩ : ∃ m, (textS p).length = 64 * m := ⟨(textS p).length / 64, by omega⟩
    simp only [↓amD, amU, Nat.reduceBEq, Nat.reduceAdd, Nat.reduceSub, Nat.reduceMul, Nat.reduceMod, Nat.reducePow, Nat.reduceLT, Nat.reduceDiv, Int.reduceToNat, BitVec.reduceToNat, zipEnv, Int.reduceLE, Int.reduceLT, Int.reduceNeg, BitVec.reduceEq, Int.reduceAdd, Int.reduceSub, Int.reduceMul, Nat.reduceLeDiff, Int.reduceEq, lv_app0, lv_appk, set_app0, set_appk, List.append_assoc, List.append_nil, Nat.add_assoc, q0, q3, q2]
    have hr4 : rt ≠ rows'.length := by have := live_lt hlt; omega
    have hr40 : 0 ≠ rows'.length := by have := live_lt r0'; omega
    refine kLoop_up m (fun j env rows => has env [(0, .sl L8 rt [] 0 (textS p).length ext), (2, .ptr (.ar 32 L8) 0 [0]), (4, .ptr (.ar 8 L32) rows'.length [0]), (5, .raw (it ((64 * j : Nat) : Int)))] ∧ live rows 0 = some ⟨.ar 32 L8, [y]⟩ ∧ live rows rt = some ⟨L8, bs (textS p)⟩ ∧
      live rows rows'.length = some ⟨.ar 8 L32, [.agg (.ar 8 L32) (us (blkH p j))]⟩) ?_ ?_ ⟨?_, live_push r0', live_push hlt, ?_⟩
    · rintro j hj env rows ⟨hh, r0, rt_, r4⟩ R hR
      simp only [has] at hh
      obtain ⟨q0, q2, q4, q5, -⟩ := hh
      have e0 : (((64 * j : Nat) : Int) < ((textS p).length : Int)) = True := eq_true (by omega)
      have e1 : ((0 : Int) ≤ ((64 * j : Nat) : Int)) = True := eq_true (by omega)
      have e2 : wz (((64 * j : Nat) : Int) + 64) = ((64 * (j + 1) : Nat) : Int) := by rw [wz_id (by omega)]; omega
      have e3 : (((64 * j : Nat) : Int) ≤ ((64 * (j + 1) : Nat) : Int)) = True := eq_true (by omega)
      have e4 : (((64 * (j + 1) : Nat) : Int) ≤ ((textS p).length : Int)) = True := eq_true (by omega)
      have e5 : 64 * (j + 1) - 64 * j = 64 := by omega
      have hbl := blkH_len p j (by omega)
      have s4 : ∀ x, live (rows.set rows'.length (some x)) rows'.length = some x := fun x => live_set_same r4
      simp only [↓amD, amU, Nat.reduceBEq, Nat.reduceAdd, Nat.reduceSub, Nat.reduceMul, Nat.reduceMod, Nat.reducePow, Nat.reduceLT, Nat.reduceDiv, Int.reduceToNat, BitVec.reduceToNat, zipEnv, Int.reduceLE, Int.reduceLT, Int.reduceNeg, BitVec.reduceEq, Int.reduceAdd, Int.reduceSub, Int.reduceMul, Nat.reduceLeDiff, Int.reduceEq, q0, q2, q4, q5, h21, e0, e1, e2, e3, e4, e5, r4, decide_true]
      refine Eq.mpr (kPressR _ _ _ _ _ (BsIn.sub rt_ (by omega)) hbl (by rw [List.length_take, List.length_drop]; omega)) ?_
      rw [← blkH_succ p j (by omega)]
      simp only [↓amD, amU, Nat.reduceBEq, Nat.reduceAdd, Nat.reduceSub, Nat.reduceMul, Nat.reduceMod, Nat.reducePow, Nat.reduceLT, Nat.reduceDiv, Int.reduceToNat, BitVec.reduceToNat, zipEnv, Int.reduceLE, Int.reduceLT, Int.reduceNeg, BitVec.reduceEq, Int.reduceAdd, Int.reduceSub, Int.reduceMul, Nat.reduceLeDiff, Int.reduceEq, q0, q2, q4, q5, e2, r4]
      exact hR _ _ ⟨by simp only [has, ↓amD, amU, Nat.reduceBEq, Nat.reduceAdd, Nat.reduceSub, Nat.reduceMul, Nat.reduceMod, Nat.reducePow, Nat.reduceLT, Nat.reduceDiv, Int.reduceToNat, BitVec.reduceToNat, zipEnv, Int.reduceLE, Int.reduceLT, Int.reduceNeg, BitVec.reduceEq, Int.reduceAdd, Int.reduceSub, Int.reduceMul, Nat.reduceLeDiff, Int.reduceEq, q0, q2, q4], (live_set_ne hr40.symm).trans r0, (live_set_ne hr4.symm).trans rt_, s4 _⟩
    · rintro env rows ⟨hh, r0, rt_, r4⟩ R
      simp only [has] at hh
      obtain ⟨q0, q2, q4, q5, -⟩ := hh
      have e0 : (((64 * m : Nat) : Int) < ((textS p).length : Int)) = False := eq_false (by omega)
      simp only [↓amD, amU, Nat.reduceBEq, Nat.reduceAdd, Nat.reduceSub, Nat.reduceMul, Nat.reduceMod, Nat.reducePow, Nat.reduceLT, Nat.reduceDiv, Int.reduceToNat, BitVec.reduceToNat, zipEnv, Int.reduceLE, Int.reduceLT, Int.reduceNeg, BitVec.reduceEq, Int.reduceAdd, Int.reduceSub, Int.reduceMul, Nat.reduceLeDiff, Int.reduceEq, lv_app0, lv_appk, set_app0, set_appk, List.append_assoc, List.append_nil, Nat.add_assoc, q0, q2, q4, q5, e0, live_app r4, decide_false]
      have hS : sumS p = digS (blkH p m) := by
        rcases sumS_eq p with h | h
        · rw [h, hm]; congr 2; omega
        · exact absurd hm0 h
      have hbl := blkH_len p m (by omega)
      generalize blkH p m = w at *
      have hr60 : 0 ≠ rows.length := by have := live_lt r0; omega
      refine kLoop_up 8 (fun i env R0 => has env [(2, .ptr (.ar 32 L8) 0 [0]), (46, .agg (.ar 8 L32) (us w)), (6, .ptr (.ar 32 L8) rows.length [0]), (47, .raw (it (i : Int)))] ∧ live R0 0 = some ⟨.ar 32 L8, [y]⟩ ∧
        live R0 rows.length = some ⟨.ar 32 L8, [.agg (.ar 32 L8) (bs (fill8 (digS (w.take i)) 32))]⟩) ?_ ?_ ⟨?_, live_push r0, ?_⟩
      · rintro i hi env R0 ⟨hh, r0, r6⟩ R hR
        simp only [has] at hh
        obtain ⟨q2, q46, q6, q47, -⟩ := hh
        have e0 : ((i : Int) < 8) = True := eq_true (by omega)
        have e9 : ((0 : Int) ≤ (i : Int)) = True := eq_true (by omega)
        have e11 := wz_succ i (by omega)
        have eg : (us w)[i]? = some (.raw (u32 (w.getD i 0#32))) := us_get (by omega)
        have hl : (digS (w.take i)).length = 4 * i := by rw [digS_len, List.length_take]; omega
        simp only [↓amD, amU, Nat.reduceBEq, Nat.reduceAdd, Nat.reduceSub, Nat.reduceMul, Nat.reduceMod, Nat.reducePow, Nat.reduceLT, Nat.reduceDiv, Int.reduceToNat, BitVec.reduceToNat, zipEnv, Int.reduceLE, Int.reduceLT, Int.reduceNeg, BitVec.reduceEq, Int.reduceAdd, Int.reduceSub, Int.reduceMul, Nat.reduceLeDiff, Int.reduceEq, lv_app0, lv_appk, set_app0, set_appk, List.append_assoc, List.append_nil, Nat.add_assoc, q2, q46, q6, q47, h24, e0, e9, eg, kNum, decide_true]
        refine kLoop_up 4 (fun j env R1 => has env [(2, .ptr (.ar 32 L8) 0 [0]), (46, .agg (.ar 8 L32) (us w)), (6, .ptr (.ar 32 L8) rows.length [0]), (47, .raw (it (i : Int))), (7, .raw (it (i : Int))), (53, .sl L8 R0.length [] 0 4 false), (54, .raw (it 4)), (55, .raw (it (j : Int)))] ∧ live R1 0 = some ⟨.ar 32 L8, [y]⟩ ∧
          live R1 rows.length = some ⟨.ar 32 L8, [.agg (.ar 32 L8) (bs (fill8 (digS (w.take i) ++ (wordB (w.getD i 0#32)).take j) 32))]⟩ ∧ live R1 R0.length = some ⟨L8, bs (wordB (w.getD i 0#32))⟩) ?_ ?_ ⟨?_, live_push r0, ?_, ?_⟩
        · rintro j hj env R1 ⟨hh, r0', r6', rn⟩ R hR
          simp only [has] at hh
          obtain ⟨q2, q46, q6, q47, q7, q53, q54, q55, -⟩ := hh
          have f0 : ((j : Int) < 4) = True := eq_true (by omega)
          have f1 : ((0 : Int) ≤ (j : Int)) = True := eq_true (by omega)
          have f2 : wz (4 * (i : Int)) = ((4 * i : Nat) : Int) := by rw [wz_id (by omega)]; omega
          have f3 : wz (((4 * i : Nat) : Int) + (j : Int)) = ((4 * i + j : Nat) : Int) := by rw [wz_id (by omega)]; omega
          have f4 : ((0 : Int) ≤ ((4 * i + j : Nat) : Int)) = True := eq_true (by omega)
          have f5 : (((4 * i + j : Nat) : Int) < 32) = True := eq_true (by omega)
          have f6 := wz_succ j (by omega)
          have g1 : (bs (wordB (w.getD i 0#32)))[j]? = some (.raw (u8 ((wordB (w.getD i 0#32)).getD j 0#8))) := bs_get (by rw [wordB_len]; omega)
          have hl3 : (digS (w.take i) ++ (wordB (w.getD i 0#32)).take j).length = 4 * i + j := by rw [List.length_append, hl, List.length_take, wordB_len]; omega
          have g2 : (bs (fill8 (digS (w.take i) ++ (wordB (w.getD i 0#32)).take j) 32))[4 * i + j]? = some (.raw (u8 ((fill8 (digS (w.take i) ++ (wordB (w.getD i 0#32)).take j) 32).getD (4 * i + j) 0#8))) := bs_get (by rw [fill8_len (by omega)]; omega)
          have g3 : (fill8 (digS (w.take i) ++ (wordB (w.getD i 0#32)).take j) 32).set (4 * i + j) ((wordB (w.getD i 0#32)).getD j 0#8) = fill8 (digS (w.take i) ++ (wordB (w.getD i 0#32)).take (j + 1)) 32 := by
            have := fill8_set (l := digS (w.take i) ++ (wordB (w.getD i 0#32)).take j) (n := 32) (by omega) ((wordB (w.getD i 0#32)).getD j 0#8)
            rw [hl3] at this
            rw [this, take_succ_getD (z := 0#8) (by rw [wordB_len]; omega), List.append_assoc]
          simp only [↓amD, amU, Nat.reduceBEq, Nat.reduceAdd, Nat.reduceSub, Nat.reduceMul, Nat.reduceMod, Nat.reducePow, Nat.reduceLT, Nat.reduceDiv, Int.reduceToNat, BitVec.reduceToNat, zipEnv, Int.reduceLE, Int.reduceLT, Int.reduceNeg, BitVec.reduceEq, Int.reduceAdd, Int.reduceSub, Int.reduceMul, Nat.reduceLeDiff, Int.reduceEq, q2, q46, q6, q47, q7, q53, q54, q55, f0, f1, f2, f3, f4, f5, f6, rn, r6', g1, g2, bs_set, g3, decide_true]
          have hne : rows.length ≠ R0.length := by have := live_lt r6; omega
          exact hR _ _ ⟨by simp only [has, ↓amD, amU, Nat.reduceBEq, Nat.reduceAdd, Nat.reduceSub, Nat.reduceMul, Nat.reduceMod, Nat.reducePow, Nat.reduceLT, Nat.reduceDiv, Int.reduceToNat, BitVec.reduceToNat, zipEnv, Int.reduceLE, Int.reduceLT, Int.reduceNeg, BitVec.reduceEq, Int.reduceAdd, Int.reduceSub, Int.reduceMul, Nat.reduceLeDiff, Int.reduceEq, q2, q46, q6, q47, q7, q53, q54], (live_set_ne hr60.symm).trans r0', live_set_same r6', (live_set_ne hne).trans rn⟩
        · rintro env R1 ⟨hh, r0', r6', rn⟩ R2
          simp only [has] at hh
          obtain ⟨q2, q46, q6, q47, q7, q53, q54, q55, -⟩ := hh
          simp only [↓amD, amU, Nat.reduceBEq, Nat.reduceAdd, Nat.reduceSub, Nat.reduceMul, Nat.reduceMod, Nat.reducePow, Nat.reduceLT, Nat.reduceDiv, Int.reduceToNat, BitVec.reduceToNat, zipEnv, Int.reduceLE, Int.reduceLT, Int.reduceNeg, BitVec.reduceEq, Int.reduceAdd, Int.reduceSub, Int.reduceMul, Nat.reduceLeDiff, Int.reduceEq, q2, q46, q6, q47, q7, q53, q54, q55, e11]
          have hd : digS (w.take (i + 1)) = digS (w.take i) ++ (wordB (w.getD i 0#32)).take 4 := by
            rw [take_snoc (by omega), digS_app]
            simp [digS, List.take_of_length_le (Nat.le_of_eq (wordB_len _))]
          exact hR _ _ ⟨by simp only [has, ↓amD, amU, Nat.reduceBEq, Nat.reduceAdd, Nat.reduceSub, Nat.reduceMul, Nat.reduceMod, Nat.reducePow, Nat.reduceLT, Nat.reduceDiv, Int.reduceToNat, BitVec.reduceToNat, zipEnv, Int.reduceLE, Int.reduceLT, Int.reduceNeg, BitVec.reduceEq, Int.reduceAdd, Int.reduceSub, Int.reduceMul, Nat.reduceLeDiff, Int.reduceEq, q2, q46, q6], r0', by rw [hd]; exact r6'⟩
        · simp only [has, ↓amD, amU, Nat.reduceBEq, Nat.reduceAdd, Nat.reduceSub, Nat.reduceMul, Nat.reduceMod, Nat.reducePow, Nat.reduceLT, Nat.reduceDiv, Int.reduceToNat, BitVec.reduceToNat, zipEnv, Int.reduceLE, Int.reduceLT, Int.reduceNeg, BitVec.reduceEq, Int.reduceAdd, Int.reduceSub, Int.reduceMul, Nat.reduceLeDiff, Int.reduceEq, q2, q46, q6, q47]
        · rw [List.take_zero, List.append_nil]; exact live_push r6
        · exact live_len
      · rintro env R0 ⟨hh, r0, r6⟩ R
        simp only [has] at hh
        obtain ⟨q2, q46, q6, q47, -⟩ := hh
        have s0 : ∀ x, live (R0.set 0 (some x)) 0 = some x := fun x => live_set_same r0
        have hf : fill8 (digS (w.take 8)) 32 = sumS p := by rw [hS, List.take_of_length_le (by omega), fill8_full (by rw [digS_len]; omega)]
        rw [hf] at r6
        simp only [↓amD, amU, Nat.reduceBEq, Nat.reduceAdd, Nat.reduceSub, Nat.reduceMul, Nat.reduceMod, Nat.reducePow, Nat.reduceLT, Nat.reduceDiv, Int.reduceToNat, BitVec.reduceToNat, zipEnv, Int.reduceLE, Int.reduceLT, Int.reduceNeg, BitVec.reduceEq, Int.reduceAdd, Int.reduceSub, Int.reduceMul, Nat.reduceLeDiff, Int.reduceEq, q2, q46, q6, q47, r6, r0, s0]
        exact .val _ rfl
      · simp only [has, ↓amD, amU, Nat.reduceBEq, Nat.reduceAdd, Nat.reduceSub, Nat.reduceMul, Nat.reduceMod, Nat.reducePow, Nat.reduceLT, Nat.reduceDiv, Int.reduceToNat, BitVec.reduceToNat, zipEnv, Int.reduceLE, Int.reduceLT, Int.reduceNeg, BitVec.reduceEq, Int.reduceAdd, Int.reduceSub, Int.reduceMul, Nat.reduceLeDiff, Int.reduceEq, q2]
      · rw [live_len]; rfl
    · simp only [has, ↓amD, amU, Nat.reduceBEq, Nat.reduceAdd, Nat.reduceSub, Nat.reduceMul, Nat.reduceMod, Nat.reducePow, Nat.reduceLT, Nat.reduceDiv, Int.reduceToNat, BitVec.reduceToNat, zipEnv, Int.reduceLE, Int.reduceLT, Int.reduceNeg, BitVec.reduceEq, Int.reduceAdd, Int.reduceSub, Int.reduceMul, Nat.reduceLeDiff, Int.reduceEq, q2]
    · rw [live_len]; rfl
  · simp only [has, ↓amD, amU, Nat.reduceBEq, Nat.reduceAdd, Nat.reduceSub, Nat.reduceMul, Nat.reduceMod, Nat.reducePow, Nat.reduceLT, Nat.reduceDiv, Int.reduceToNat, BitVec.reduceToNat, zipEnv, Int.reduceLE, Int.reduceLT, Int.reduceNeg, BitVec.reduceEq, Int.reduceAdd, Int.reduceSub, Int.reduceMul, Nat.reduceLeDiff, Int.reduceEq]
end Job
end Go.Am
