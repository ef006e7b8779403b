/- the flash: the law of the scripts -/
import Derived.Test.YtgfhkmpmdfdemaaFl16
namespace Go.Am
set_option linter.unusedSimpArgs false
set_option linter.unusedVariables false
attribute [local congr] bnd_congr kCond_congr kGd_congr kPick_congr kCall_congr kIdx_congr kSlice_congr kLoop_congr cond_congr' aBin_congr aBounds_congr aApp_congr aCopy_congr kFn_congr
namespace Job
open Go.Am.F
set_option maxRecDepth 10000
set_option maxHeartbeats 2000000 in
theorem plays_law (C : Ctx) (h : FlC C) (ha : C.fn 8 = some fAwake) (hrn : C.fn 21 = some fRNew) (n1 : C.fn 24 = none) (r1 : C.fnr 24 = some (afun CR 1 r_ref12_Few a_ref12_Few)) (n2 : C.fn 23 = none) (r2 : C.fnr 23 = some (afun CD 3 r_law12_do a_law12_do))
    (pg : BitVec 8) (acts : List D) (hal : acts.length ≤ maxLen) (hacts : ∀ d ∈ acts, ∃ (t : BitVec 8) (i j : Int) (dp dq : D) (p q : List (BitVec 8)), d = actD t i j dp dq ∧ IsBs dp p ∧ IsBs dq q ∧ p.length ≤ maxLen ∧ q.length ≤ maxLen) :
    afun C 2 r_law12_FlashPlays a_law12_FlashPlays [.raw (u8 pg), .lst SA acts false] [] (fun d _ => d = .raw (.bool true)) := by
  refine afun_mk rfl ?_
  unfold a_law12_FlashPlays r_law12_FlashPlays
  unfold maxLen at hal hacts
  have kaw := fun rows k => kAwake rows k (F := fAwake) rfl
  obtain ⟨n, hn⟩ : ∃ n, n = (pg % 4#8).toNat := ⟨_, rfl⟩
  have hn4 : n < 4 := by rw [hn, BitVec.toNat_umod]; exact Nat.mod_lt _ (by decide)
  simp only [↓amD, amU, Nat.reduceBEq, Nat.reduceAdd, Nat.reduceSub, Nat.reduceMul, Nat.reduceMod, Nat.reducePow, Nat.reduceLT, Nat.reduceDiv, Int.reduceToNat, BitVec.reduceToNat, zipEnv, Int.reduceLE, Int.reduceLT, Int.reduceNeg, BitVec.reduceEq, Int.reduceAdd, Int.reduceSub, Int.reduceMul, Nat.reduceLeDiff, Int.reduceEq, ha, kaw, ← hn, h.n9, h.r9]
  refine newA (rows := []) n (by omega) fun R0 r m hM => ?_
  have hF := hM.fl
  have ltf := hF.lt
  have kn := fun R K => kRNew R K n (by omega)
  have hxl : (List.replicate (256 * n) 255#8).length = 256 * n := List.length_replicate
  generalize List.replicate (256 * n) 255#8 = x0 at *
  simp only [↓amD, amU, Nat.reduceBEq, Nat.reduceAdd, Nat.reduceSub, Nat.reduceMul, Nat.reduceMod, Nat.reducePow, Nat.reduceLT, Nat.reduceDiv, Int.reduceToNat, BitVec.reduceToNat, zipEnv, Int.reduceLE, Int.reduceLT, Int.reduceNeg, BitVec.reduceEq, Int.reduceAdd, Int.reduceSub, Int.reduceMul, Nat.reduceLeDiff, Int.reduceEq, lv_app0, lv_appk, set_app0, set_appk, List.append_assoc, List.append_nil, Nat.add_assoc, hrn, kn]
  have hF1 := hF.push [some ⟨L8, bs x0⟩]
  have lx1 : live (R0 ++ [some ⟨L8, bs x0⟩]) R0.length = some ⟨L8, bs x0⟩ := by rw [lv_app0]; rfl
  refine kLoop_up acts.length (fun i env rows => has env [(34, .raw (it (i : Int))), (33, .raw (it (acts.length : Int))), (32, .lst SA acts false), (6, .ptr SF r [0]), (5, .raw (it (n : Int)))] ∧
    ∃ (qx : Nat) (ex : Bool) (x : List (BitVec 8)), look env 8 = some (.sl L8 qx [] 0 (256 * n) ex) ∧ FlAt rows r m x ∧ live rows qx = some ⟨L8, bs x⟩ ∧ qx ≠ m ∧ x.length = 256 * n) ?_ ?_ ⟨?_, R0.length, false, x0, ?_, hF1, lx1, by omega, hxl⟩
  · rintro i hi env rows ⟨hh, qx, ex, x, h8, hF, hlx, nx, hxl⟩ R hR
    simp only [has] at hh
    obtain ⟨h34, h33, h32, h6, h5, -⟩ := hh
    have e0 : ((i : Int) < (acts.length : Int)) = True := eq_true (by omega)
    have b0 : ∀ n : Nat, ((0 : Int) ≤ (n : Int)) = True := fun n => eq_true (by omega)
    have e2 := wz_succ i (by omega)
    obtain ⟨d, hd⟩ : ∃ d, acts[i]? = some d := ⟨acts[i], List.getElem?_eq_getElem hi⟩
    obtain ⟨t, ii, jj, dp, dq, p, q, rfl, hbp, hbq, hpl, hql⟩ := hacts d (List.mem_of_getElem? hd)
    have hfit : (actD t ii jj dp dq).fits SA = true := by simp [actD, D.fits]
    by_cases h30 : 30 ≤ i
    · have e3 : ((30 : Int) ≤ (i : Int)) = True := eq_true (by omega)
      simp only [↓amD, amU, Nat.reduceBEq, Nat.reduceAdd, Nat.reduceSub, Nat.reduceMul, Nat.reduceMod, Nat.reducePow, Nat.reduceLT, Nat.reduceDiv, Int.reduceToNat, BitVec.reduceToNat, zipEnv, Int.reduceLE, Int.reduceLT, Int.reduceNeg, BitVec.reduceEq, Int.reduceAdd, Int.reduceSub, Int.reduceMul, Nat.reduceLeDiff, Int.reduceEq, lv_app0, lv_appk, set_app0, set_appk, List.append_assoc, List.append_nil, Nat.add_assoc, h34, h33, h32, h6, h5, h8, e0, b0, e2, e3, hd, hfit, decide_true]
      have hF := hF.push [some ⟨SA, [actD t ii jj dp dq]⟩]
      have hlx := live_app hlx [some ⟨SA, [actD t ii jj dp dq]⟩]
      generalize rows ++ [some ⟨SA, [actD t ii jj dp dq]⟩] = rows at *
      obtain ⟨e9, hi9⟩ := hF.to
      have ks9 := fun K => kSize hi9 K
      have hfl9 : flLen (some (x, e9)) = 256 * n := hxl
      rw [hfl9] at ks9
      have kr9 := fun K => kRead_ok hF (by omega) 0 (256 * n) (by omega) K
      have hsx9 : sub x 0 (256 * n) = x := by rw [sub, List.drop_zero, List.take_of_length_le (by omega)]
      rw [show ((0 : Nat) : Int) = 0 from rfl, hsx9] at kr9
      have ksm9 := fun K => kSame (rows ++ [some ⟨L8, bs x⟩]) K (.sl L8 rows.length [] 0 (256 * n) false) (.sl L8 qx [] 0 (256 * n) ex) x x (BsIn.own (by rw [lv_app0]; rfl) _ hxl.symm) (BsIn.own (live_push hlx) _ hxl.symm) (by omega) (by omega)
      obtain ⟨e8, hi8⟩ := (hF.push [some ⟨L8, bs x⟩]).to
      have ks8 := fun K => kSize hi8 K
      have hfl8 : flLen (some (x, e8)) = 256 * n := hxl
      rw [hfl8] at ks8
      have w9 : wz (256 * (n : Int)) = ((256 * n : Nat) : Int) := by rw [wz_id (by omega)]; omega
      simp only [↓amD, amU, Nat.reduceBEq, Nat.reduceAdd, Nat.reduceSub, Nat.reduceMul, Nat.reduceMod, Nat.reducePow, Nat.reduceLT, Nat.reduceDiv, Int.reduceToNat, BitVec.reduceToNat, zipEnv, Int.reduceLE, Int.reduceLT, Int.reduceNeg, BitVec.reduceEq, Int.reduceAdd, Int.reduceSub, Int.reduceMul, Nat.reduceLeDiff, Int.reduceEq, lv_app0, lv_appk, set_app0, set_appk, List.append_assoc, List.append_nil, Nat.add_assoc, h6, h5, h8, h.rd, h.sz, h.same, ks9, kr9, ksm9, ks8, w9, decide_true]
    · have e3 : ((30 : Int) ≤ (i : Int)) = False := eq_false (by omega)
      simp only [↓amD, amU, Nat.reduceBEq, Nat.reduceAdd, Nat.reduceSub, Nat.reduceMul, Nat.reduceMod, Nat.reducePow, Nat.reduceLT, Nat.reduceDiv, Int.reduceToNat, BitVec.reduceToNat, zipEnv, Int.reduceLE, Int.reduceLT, Int.reduceNeg, BitVec.reduceEq, Int.reduceAdd, Int.reduceSub, Int.reduceMul, Nat.reduceLeDiff, Int.reduceEq, lv_app0, lv_appk, set_app0, set_appk, List.append_assoc, List.append_nil, Nat.add_assoc, h34, h33, h32, h6, h5, h8, e0, b0, e3, hd, hfit, n1, r1, decide_true, decide_false]
      refine few_run hbp hbq (by omega) (by omega) fun R2 p1 p2 l1 l2 g1 g2 hfr => ?_
      have ltf := hF.lt
      have hF2 : FlAt R2 r m x := by
        obtain ⟨⟨e, h1⟩, h2⟩ := hF
        exact ⟨⟨e, hfr _ _ (live_push h1)⟩, hfr _ _ (live_push h2)⟩
      have hlx2 := hfr _ _ (live_push (more := [some ⟨SA, [actD t ii jj dp dq]⟩]) hlx)
      have hlen : (rows ++ [some ⟨SA, [actD t ii jj dp dq]⟩] : Rows).length = rows.length + 1 := by simp
      rw [hlen] at g1 g2
      simp only [↓amD, amU, Nat.reduceBEq, Nat.reduceAdd, Nat.reduceSub, Nat.reduceMul, Nat.reduceMod, Nat.reducePow, Nat.reduceLT, Nat.reduceDiv, Int.reduceToNat, BitVec.reduceToNat, zipEnv, Int.reduceLE, Int.reduceLT, Int.reduceNeg, BitVec.reduceEq, Int.reduceAdd, Int.reduceSub, Int.reduceMul, Nat.reduceLeDiff, Int.reduceEq, lv_app0, lv_appk, set_app0, set_appk, List.append_assoc, List.append_nil, Nat.add_assoc, h6, h8, n2, r2]
      rw [← hxl]
      refine act_run hF2 hlx2 nx l1 l2 (by omega) (by omega) (by omega) (by rw [List.length_take]; omega) (by rw [List.length_take]; omega) fun R3 q' ex' hF3 hl3 nq => ?_
      have hX := doX_len t ii jj (p.take 300) (q.take 300) x
      simp only [↓amD, amU, Nat.reduceBEq, Nat.reduceAdd, Nat.reduceSub, Nat.reduceMul, Nat.reduceMod, Nat.reducePow, Nat.reduceLT, Nat.reduceDiv, Int.reduceToNat, BitVec.reduceToNat, zipEnv, Int.reduceLE, Int.reduceLT, Int.reduceNeg, BitVec.reduceEq, Int.reduceAdd, Int.reduceSub, Int.reduceMul, Nat.reduceLeDiff, Int.reduceEq, lv_app0, lv_appk, set_app0, set_appk, List.append_assoc, List.append_nil, Nat.add_assoc, h34, h33, h32, h6, h5, e2, hxl]
      exact hR _ _ ⟨by simp only [has, ↓amD, amU, Nat.reduceBEq, Nat.reduceAdd, Nat.reduceSub, Nat.reduceMul, Nat.reduceMod, Nat.reducePow, Nat.reduceLT, Nat.reduceDiv, Int.reduceToNat, BitVec.reduceToNat, zipEnv, Int.reduceLE, Int.reduceLT, Int.reduceNeg, BitVec.reduceEq, Int.reduceAdd, Int.reduceSub, Int.reduceMul, Nat.reduceLeDiff, Int.reduceEq, h33, h32, h6, h5], q', ex', _, by simp only [↓amD, amU, Nat.reduceBEq, Nat.reduceAdd, Nat.reduceSub, Nat.reduceMul, Nat.reduceMod, Nat.reducePow, Nat.reduceLT, Nat.reduceDiv, Int.reduceToNat, BitVec.reduceToNat, zipEnv, Int.reduceLE, Int.reduceLT, Int.reduceNeg, BitVec.reduceEq, Int.reduceAdd, Int.reduceSub, Int.reduceMul, Nat.reduceLeDiff, Int.reduceEq], hF3, hl3, nq, by omega⟩
  · rintro env rows ⟨hh, qx, ex, x, h8, hF, hlx, nx, hxl⟩ R
    simp only [has] at hh
    obtain ⟨h34, h33, h32, h6, h5, -⟩ := hh
    have e0 : ((acts.length : Int) < (acts.length : Int)) = False := eq_false (by omega)
    simp only [↓amD, amU, Nat.reduceBEq, Nat.reduceAdd, Nat.reduceSub, Nat.reduceMul, Nat.reduceMod, Nat.reducePow, Nat.reduceLT, Nat.reduceDiv, Int.reduceToNat, BitVec.reduceToNat, zipEnv, Int.reduceLE, Int.reduceLT, Int.reduceNeg, BitVec.reduceEq, Int.reduceAdd, Int.reduceSub, Int.reduceMul, Nat.reduceLeDiff, Int.reduceEq, h34, h33, h32, h6, h5, h8, e0, decide_false]
    obtain ⟨e9, hi9⟩ := hF.to
    have ks9 := fun K => kSize hi9 K
    have hfl9 : flLen (some (x, e9)) = 256 * n := hxl
    rw [hfl9] at ks9
    have kr9 := fun K => kRead_ok hF (by omega) 0 (256 * n) (by omega) K
    have hsx9 : sub x 0 (256 * n) = x := by rw [sub, List.drop_zero, List.take_of_length_le (by omega)]
    rw [show ((0 : Nat) : Int) = 0 from rfl, hsx9] at kr9
    have ksm9 := fun K => kSame (rows ++ [some ⟨L8, bs x⟩]) K (.sl L8 rows.length [] 0 (256 * n) false) (.sl L8 qx [] 0 (256 * n) ex) x x (BsIn.own (by rw [lv_app0]; rfl) _ hxl.symm) (BsIn.own (live_push hlx) _ hxl.symm) (by omega) (by omega)
    obtain ⟨e8, hi8⟩ := (hF.push [some ⟨L8, bs x⟩]).to
    have ks8 := fun K => kSize hi8 K
    have hfl8 : flLen (some (x, e8)) = 256 * n := hxl
    rw [hfl8] at ks8
    have w9 : wz (256 * (n : Int)) = ((256 * n : Nat) : Int) := by rw [wz_id (by omega)]; omega
    simp only [↓amD, amU, Nat.reduceBEq, Nat.reduceAdd, Nat.reduceSub, Nat.reduceMul, Nat.reduceMod, Nat.reducePow, Nat.reduceLT, Nat.reduceDiv, Int.reduceToNat, BitVec.reduceToNat, zipEnv, Int.reduceLE, Int.reduceLT, Int.reduceNeg, BitVec.reduceEq, Int.reduceAdd, Int.reduceSub, Int.reduceMul, Nat.reduceLeDiff, Int.reduceEq, lv_app0, lv_appk, set_app0, set_appk, List.append_assoc, List.append_nil, Nat.add_assoc, h6, h5, h8, h.rd, h.sz, h.same, ks9, kr9, ksm9, ks8, w9, decide_true]
  · simp only [has, ↓amD, amU, Nat.reduceBEq, Nat.reduceAdd, Nat.reduceSub, Nat.reduceMul, Nat.reduceMod, Nat.reducePow, Nat.reduceLT, Nat.reduceDiv, Int.reduceToNat, BitVec.reduceToNat, zipEnv, Int.reduceLE, Int.reduceLT, Int.reduceNeg, BitVec.reduceEq, Int.reduceAdd, Int.reduceSub, Int.reduceMul, Nat.reduceLeDiff, Int.reduceEq]
  · simp only [↓amD, amU, Nat.reduceBEq, Nat.reduceAdd, Nat.reduceSub, Nat.reduceMul, Nat.reduceMod, Nat.reducePow, Nat.reduceLT, Nat.reduceDiv, Int.reduceToNat, BitVec.reduceToNat, zipEnv, Int.reduceLE, Int.reduceLT, Int.reduceNeg, BitVec.reduceEq, Int.reduceAdd, Int.reduceSub, Int.reduceMul, Nat.reduceLeDiff, Int.reduceEq]
end Job
end Go.Am
