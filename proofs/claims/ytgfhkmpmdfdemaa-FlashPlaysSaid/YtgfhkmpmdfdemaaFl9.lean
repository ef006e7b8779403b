/- the flash: the reference's new bytes; what a tear leaves -/
import Derived.Test.YtgfhkmpmdfdemaaFl8
namespace Go.Am
set_option linter.unusedSimpArgs false
set_option linter.unusedVariables false
attribute [local congr] bnd_congr kCond_congr kGd_congr kPick_congr kCall_congr kIdx_congr kSlice_congr kLoop_congr cond_congr' aBin_congr aBounds_congr aApp_congr aCopy_congr kFn_congr
namespace Job
open Go.Am.F
set_option maxRecDepth 10000
noncomputable def fRNew : Fn := fn1 rdI (fun n => decide (0 ≤ n) && decide (n ≤ 1024)) fun n => outBs (List.replicate (256 * n.toNat) 255#8) false
theorem rnew_ok (C : Ctx) (hC : CtxOK C P) : Meets C.glob P 21 (Fn.run fRNew) := by
  refine fn_meets (m_ref12_New C hC) fun ds rows r h => ?_
  obtain ⟨d, n, rfl, rfl, hd, hp, rfl⟩ := fn1_some h
  cases rdI_some hd
  simp only [Bool.and_eq_true, decide_eq_true_eq] at hp
  obtain ⟨h0, hn⟩ := hp
  obtain ⟨n, rfl⟩ := Int.eq_ofNat_of_zero_le h0
  refine ⟨rfl, afun_mk rfl ?_⟩
  clear h hd
  unfold a_ref12_New r_ref12_New
  have w1 : wz (256 * (n : Int)) = ((256 * n : Nat) : Int) := by rw [wz_id (by omega)]; omega
  have f1 : ((0 : Int) ≤ ((256 * n : Nat) : Int)) = True := eq_true (by omega)
  have f2 : (((256 * n : Nat) : Int) ≤ ((256 * n : Nat) : Int)) = True := eq_true (by omega)
  have f3 : (((256 * n : Nat) : Int) * 1 ≤ 1099511627776) = True := eq_true (by omega)
  have f4 : (((256 * n : Nat) : Int) ≤ 1099511627776) = True := eq_true (by omega)
  have f5 : (((256 * n : Nat) : Int) * ((1 : Nat) : Int) ≤ 1099511627776) = True := eq_true (by omega)
  have hz : List.replicate (256 * n) (D.raw (u8 0#8)) = bs (List.replicate (256 * n) 0#8) := by simp [bs]
  simp only [Int.toNat_natCast]
  simp only [↓amD, amU, Nat.reduceBEq, Nat.reduceAdd, Nat.reduceSub, Nat.reduceMul, Nat.reduceMod, Nat.reducePow, Nat.reduceLT, Nat.reduceDiv, Int.reduceToNat, BitVec.reduceToNat, zipEnv, Int.reduceLE, Int.reduceLT, Int.reduceNeg, BitVec.reduceEq, Int.reduceAdd, Int.reduceSub, Int.reduceMul, Nat.reduceLeDiff, Int.reduceEq, w1, f1, f2, f3, f4, f5, hz]
  refine kLoop_up (256 * n) (fun i env rows => (∃ e, has env [(10, .raw (it (i : Int))), (9, .raw (it ((256 * n : Nat) : Int))), (3, .sl L8 0 [] 0 (256 * n) e)]) ∧ ∃ l : List (BitVec 8), l.length = 256 * n ∧ rows = [some ⟨L8, bs l⟩] ∧ ∀ j, j < i → l.getD j 0#8 = 255#8) ?_ ?_ ⟨⟨true, ?_⟩, List.replicate (256 * n) 0#8, by simp, rfl, fun j h => by omega⟩
  · rintro i hi env rows ⟨⟨e, hh⟩, l, hl, rfl, hc⟩ R hR
    simp only [has] at hh
    obtain ⟨h10, h9, h3, -⟩ := hh
    have e0 : ((i : Int) < ((256 * n : Nat) : Int)) = True := eq_true (by omega)
    have e1 : ((0 : Int) ≤ (i : Int)) = True := eq_true (by omega)
    have e2 := wz_succ i (by omega)
    have g1 : (bs l)[i]? = some (.raw (u8 (l.getD i 0#8))) := bs_get (by omega)
    simp only [↓amD, amU, Nat.reduceBEq, Nat.reduceAdd, Nat.reduceSub, Nat.reduceMul, Nat.reduceMod, Nat.reducePow, Nat.reduceLT, Nat.reduceDiv, Int.reduceToNat, BitVec.reduceToNat, zipEnv, Int.reduceLE, Int.reduceLT, Int.reduceNeg, BitVec.reduceEq, Int.reduceAdd, Int.reduceSub, Int.reduceMul, Nat.reduceLeDiff, Int.reduceEq, h10, h9, h3, e0, e1, e2, g1, bs_set, decide_true]
    exact hR _ _ ⟨⟨e, by simp only [has, ↓amD, amU, Nat.reduceBEq, Nat.reduceAdd, Nat.reduceSub, Nat.reduceMul, Nat.reduceMod, Nat.reducePow, Nat.reduceLT, Nat.reduceDiv, Int.reduceToNat, BitVec.reduceToNat, zipEnv, Int.reduceLE, Int.reduceLT, Int.reduceNeg, BitVec.reduceEq, Int.reduceAdd, Int.reduceSub, Int.reduceMul, Nat.reduceLeDiff, Int.reduceEq, h9, h3]⟩, l.set i 255#8, by rw [List.length_set, hl], rfl, fun j hj => by
      rw [set_get _ _ _ _ (by omega)]
      split
      · rfl
      · exact hc j (by omega)⟩
  · rintro env rows ⟨⟨e, hh⟩, l, hl, rfl, hc⟩ R
    simp only [has] at hh
    obtain ⟨h10, h9, h3, -⟩ := hh
    have e0 : (((256 * n : Nat) : Int) < ((256 * n : Nat) : Int)) = False := eq_false (by omega)
    have hle : l = List.replicate (256 * n) 255#8 := by
      refine List.ext_getElem (by simp [hl]) fun i h1 h2 => ?_
      have := hc i (by omega)
      simpa [List.getD, h1] using this
    subst hle
    simp only [↓amD, amU, Nat.reduceBEq, Nat.reduceAdd, Nat.reduceSub, Nat.reduceMul, Nat.reduceMod, Nat.reducePow, Nat.reduceLT, Nat.reduceDiv, Int.reduceToNat, BitVec.reduceToNat, zipEnv, Int.reduceLE, Int.reduceLT, Int.reduceNeg, BitVec.reduceEq, Int.reduceAdd, Int.reduceSub, Int.reduceMul, Nat.reduceLeDiff, Int.reduceEq, h10, h9, h3, e0, decide_false]
    exact Own.expo (l := List.replicate (256 * n) 255#8) (.inr ⟨0, e, by rw [bs_len, List.length_replicate], rfl⟩)
  · simp only [has, ↓amD, amU, Nat.reduceBEq, Nat.reduceAdd, Nat.reduceSub, Nat.reduceMul, Nat.reduceMod, Nat.reducePow, Nat.reduceLT, Nat.reduceDiv, Int.reduceToNat, BitVec.reduceToNat, zipEnv, Int.reduceLE, Int.reduceLT, Int.reduceNeg, BitVec.reduceEq, Int.reduceAdd, Int.reduceSub, Int.reduceMul, Nat.reduceLeDiff, Int.reduceEq]
theorem kRNew (rows : Rows) (k : D → Rows → Prop) (n : Nat) (hn : n ≤ 1024) : kCall fRNew rows k [.raw (it (n : Int))] = k (.sl L8 (0 + rows.length) [] 0 (256 * n) false) (rows ++ [some ⟨L8, bs (List.replicate (256 * n) 255#8)⟩]) := by
  refine (kCall_val rfl (r := outBs (List.replicate (256 * n) 255#8) false) ?_).trans ?_
  · rw [fRNew, fn1_eq (rdI_eq _) (by simp; omega)]; simp
  · simp [outBs, shift, shiftRows, Sh.pure]
theorem teN_get (x : List (BitVec 8)) (i : Nat) (w k : List (BitVec 8)) : ∀ j t, 256 * i + j ≤ x.length → (teN x i w k j).getD t 0#8 = if 256 * i ≤ t ∧ t < 256 * i + j then teV (x.getD t 0#8) (w.getD (t - 256 * i) 0#8) (k.getD (t - 256 * i) 0#8) else x.getD t 0#8
  | 0, t, _ => by rw [if_neg (by omega)]; rfl
  | j + 1, t, h => by
    have hl := teN_len x i w k j
    rw [teN, set_get _ _ _ _ (by omega), teN_get x i w k j _ (by omega), teN_get x i w k j t (by omega)]
    by_cases ht : t = 256 * i + j
    · subst ht
      rw [if_pos rfl, if_neg (by omega), if_pos (by omega), Nat.add_sub_cancel_left]
    · rw [if_neg ht]
      by_cases h2 : 256 * i ≤ t ∧ t < 256 * i + j
      · rw [if_pos h2, if_pos (by omega)]
      · rw [if_neg h2, if_neg (by omega)]
theorem teV_all (b w : BitVec 8) : teV b w 255#8 = w := by
  have h1 : b &&& ~~~255#8 = 0#8 := by revert b; decide +kernel
  have h2 : w &&& 255#8 = w := by revert w; decide +kernel
  rw [teV, h1, h2, BitVec.zero_or]
theorem splice_get (x p : List (BitVec 8)) (a i : Nat) (h : a + p.length ≤ x.length) : (splice x a p).getD i 0#8 = if a ≤ i ∧ i < a + p.length then p.getD (i - a) 0#8 else x.getD i 0#8 := by
  unfold splice
  have ht : (x.take a).length = a := by rw [List.length_take]; omega
  simp only [List.getD_eq_getElem?_getD]
  rw [List.append_assoc]
  by_cases h1 : i < a
  · rw [List.getElem?_append_left (by omega), if_neg (by omega), List.getElem?_take_of_lt h1]
  · rw [List.getElem?_append_right (by omega), ht]
    by_cases h2 : i < a + p.length
    · rw [List.getElem?_append_left (by omega), if_pos (by omega)]
    · rw [List.getElem?_append_right (by omega), if_neg (by omega), List.getElem?_drop]
      congr 2
      omega
theorem sub_ext (x p : List (BitVec 8)) (a : Nat) (h : a + p.length ≤ x.length) (hp : ∀ i, i < p.length → x.getD (a + i) 0#8 = p.getD i 0#8) : sub x a p.length = p := by
  have hl := sub_len (x := x) (a := a) (n := p.length) h
  refine List.ext_getElem hl fun i h1 h2 => ?_
  have h3 := sub_get x a p.length i h2
  rw [hp i h2] at h3
  simpa [List.getD, h1, h2] using h3
theorem and_bits (a b : BitVec 8) : (b &&& ~~~a = 0#8) ↔ (b &&& a = b) := by
  constructor
  · intro h
    apply BitVec.eq_of_getLsbD_eq
    intro i hi
    have := congrArg (fun z => z.getLsbD i) h
    simp only [BitVec.getLsbD_and, BitVec.getLsbD_not, hi, decide_true, Bool.true_and, BitVec.getLsbD_zero] at this ⊢
    revert this
    cases b.getLsbD i <;> cases a.getLsbD i <;> simp
  · intro h
    apply BitVec.eq_of_getLsbD_eq
    intro i hi
    have := congrArg (fun z => z.getLsbD i) h
    simp only [BitVec.getLsbD_and, BitVec.getLsbD_not, hi, decide_true, Bool.true_and, BitVec.getLsbD_zero] at this ⊢
    revert this
    cases b.getLsbD i <;> cases a.getLsbD i <;> simp
def clB (x q : List (BitVec 8)) (m i : Nat) : Prop := ∀ j, j < i → q.getD j 0#8 &&& x.getD (m + j) 0#8 = q.getD j 0#8
theorem drop_get (x : List (BitVec 8)) (m j : Nat) : (x.drop m).getD j 0#8 = x.getD (m + j) 0#8 := by simp [List.getD]
theorem clB_iff (x q : List (BitVec 8)) (m : Nat) : clB x q m q.length ↔ clears (x.drop m) q := by
  constructor
  · intro h i hi
    unfold clr1
    rw [drop_get]
    exact (and_bits _ _).2 (h i hi)
  · intro h i hi
    have := h i hi
    unfold clr1 at this
    rw [drop_get] at this
    exact (and_bits _ _).1 this
theorem drop_rep (n k : Nat) : (List.replicate n 255#8).drop k = List.replicate (n - k) 255#8 := by simp
/-- a page torn wholly -/
theorem tear_all (x w : List (BitVec 8)) (i m n : Nat) (part : List (BitVec 8)) (hx : 256 * i + 256 ≤ x.length) (hw : w.length = 256) (a : Nat) (hm : m = 256 * i + a) (hn : a + part.length ≤ 256) (hs : w = splice (sub x (256 * i) 256) a part) :
    sub (teX x (i : Int) w (List.replicate 256 255#8)) m part.length = part := by
  have h0 : erE x (i : Int) = 0 := by simp only [erE, errP]; rw [if_neg (by omega)]
  obtain ⟨kk, hkk⟩ : ∃ kk, kk = List.replicate 256 255#8 := ⟨_, rfl⟩
  have hkl : kk.length = 256 := by rw [hkk, List.length_replicate]
  have hkg : ∀ t, t < 256 → kk.getD t 0#8 = 255#8 := fun t ht => by rw [hkk]; exact rep255 _ _ ht
  rw [← hkk]
  clear hkk
  have hM : teM w kk = 256 := by unfold teM; omega
  obtain ⟨N, hN⟩ : ∃ N, N = 256 := ⟨_, rfl⟩
  have hX : teX x (i : Int) w kk = teN x i w kk N := by
    unfold teX
    rw [if_pos h0, hM, Int.toNat_natCast, hN]
  have hl := teN_len x i w kk N
  rw [hX]
  refine sub_ext _ _ _ (by omega) fun j hj => ?_
  rw [teN_get _ _ _ _ _ _ (by omega), if_pos (by omega), hkg _ (by omega), teV_all, hs, splice_get _ _ _ _ (by rw [sub_len (by omega)]; omega), if_pos (by omega)]
  congr 1
  omega
end Job
end Go.Am
