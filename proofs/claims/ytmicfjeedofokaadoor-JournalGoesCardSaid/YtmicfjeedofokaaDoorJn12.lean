/- the journal: the law of states one behind the other -/
import Derived.Test.YtmicfjeedofokaaDoorJn11
namespace Go.Am
set_option linter.unusedSimpArgs false
set_option linter.unusedVariables false
attribute [local congr] bnd_congr kCond_congr kGd_congr kPick_congr kCall_congr kIdx_congr kSlice_congr kLoop_congr cond_congr' aBin_congr aBounds_congr aApp_congr aCopy_congr kFn_congr
namespace Job
open Go.Am.F
set_option maxRecDepth 10000
theorem mod2_1 {n : Nat} (hn : n < 1000) (h : n % 2 = 1) : BitVec.ofNat 32 n % 2#32 = 1#32 := by
  apply BitVec.eq_of_toNat_eq
  rw [BitVec.toNat_umod, BitVec.toNat_ofNat]
  show n % 4294967296 % 2 = 1
  omega
theorem mod2_0 {n : Nat} (hn : n < 1000) (h : ¬ n % 2 = 1) : BitVec.ofNat 32 n % 2#32 = 0#32 := by
  apply BitVec.eq_of_toNat_eq
  rw [BitVec.toNat_umod, BitVec.toNat_ofNat]
  show n % 4294967296 % 2 = 0
  omega
set_option maxHeartbeats 4000000 in
theorem goes_law (C0 C1 C : Ctx) (H : JR C0 C1 C) (hw : C.fn 8 = some fAwakeJ) (ls : List D) (hll : ls.length ≤ 9223372036854775807) (hls : ∀ d ∈ ls, ∃ s : JS, d = jD s) :
    afun C 1 r_law22_JournalGoes a_law22_JournalGoes [.lst SJ ls false] [] (fun d rows => d = .raw (.bool true)) := by
  refine afun_mk rfl ?_
  have hf := jD_fits
  unfold a_law22_JournalGoes r_law22_JournalGoes
  simp only [↓amD, amU, Nat.reduceBEq, Nat.reduceAdd, Nat.reduceSub, Nat.reduceMul, Nat.reduceMod, Nat.reducePow, Nat.reduceLT, Nat.reduceDiv, Int.reduceToNat, BitVec.reduceToNat, zipEnv, Int.reduceLE, Int.reduceLT, Int.reduceNeg, BitVec.reduceEq, Int.reduceAdd, Int.reduceSub, Int.reduceMul, Nat.reduceLeDiff, Int.reduceEq, lv_app0, lv_appk, set_app0, set_appk, List.append_assoc, List.append_nil, Nat.add_assoc, hw, kAwakeJ, H.f.nN, H.f.rN]
  refine newA 40 (by omega) fun R0 r m hM => ?_
  obtain ⟨x, hx⟩ : ∃ x, x = List.replicate (256 * 40) 255#8 := ⟨_, rfl⟩
  have hG := goI_new x hx
  rw [← hx] at hM
  have hF := hM.fl
  have lt0 := hF.lt
  have kf := fun rows k => kFirst rows k
  simp only [↓amD, amU, Nat.reduceBEq, Nat.reduceAdd, Nat.reduceSub, Nat.reduceMul, Nat.reduceMod, Nat.reducePow, Nat.reduceLT, Nat.reduceDiv, Int.reduceToNat, BitVec.reduceToNat, zipEnv, Int.reduceLE, Int.reduceLT, Int.reduceNeg, BitVec.reduceEq, Int.reduceAdd, Int.reduceSub, Int.reduceMul, Nat.reduceLeDiff, Int.reduceEq, lv_app0, lv_appk, set_app0, set_appk, List.append_assoc, List.append_nil, Nat.add_assoc, hf, jD_mk, H.f.first, kf]
  have hF1 := hF.push [some ⟨SJ, [jD firstJ]⟩]
  have h6 : live (R0 ++ [some ⟨SJ, [jD firstJ]⟩]) R0.length = some ⟨SJ, [jD firstJ]⟩ := by rw [lv_app0]; rfl
  generalize hq6 : R0.length = q6 at *
  generalize R0 ++ [some ⟨SJ, [jD firstJ]⟩] = R1 at *
  clear hx hM hF
  refine kLoop_up ls.length (fun i env rows => has env [(24, .raw (it (i : Int))), (23, .raw (it (ls.length : Int))), (22, .lst SJ ls false), (3, .ptr SF r [0]), (6, .ptr SJ q6 [0])] ∧
    ∃ x n last, look env 5 = some (.raw (u32 (BitVec.ofNat 32 n))) ∧ GoI x n last ∧ n ≤ i ∧ FlAt rows r m x ∧ live rows q6 = some ⟨SJ, [jD last]⟩) ?_ ?_ ⟨?_, x, 0, firstJ, ?_, hG, Nat.le_refl _, hF1, h6⟩
  · clear hG hF1 h6 x
    rintro i hi env rows ⟨hh, x, n, last, h5, hG, hn, hF, h6⟩ R hR
    simp only [has] at hh
    have e0 : ((i : Int) < (ls.length : Int)) = True := eq_true (by omega)
    have e1 := wz_succ i (by omega)
    have b0 : ∀ n : Nat, ((0 : Int) ≤ (n : Int)) = True := fun n => eq_true (by omega)
    obtain ⟨d, hd⟩ : ∃ d, ls[i]? = some d := ⟨ls[i], List.getElem?_eq_getElem hi⟩
    obtain ⟨s, rfl⟩ := hls d (List.mem_of_getElem? hd)
    by_cases h10 : (10 : Int) ≤ (i : Int)
    · have e10 : ((10 : Int) ≤ (i : Int)) = True := eq_true h10
      simp only [↓amD, amU, Nat.reduceBEq, Nat.reduceAdd, Nat.reduceSub, Nat.reduceMul, Nat.reduceMod, Nat.reducePow, Nat.reduceLT, Nat.reduceDiv, Int.reduceToNat, BitVec.reduceToNat, zipEnv, Int.reduceLE, Int.reduceLT, Int.reduceNeg, BitVec.reduceEq, Int.reduceAdd, Int.reduceSub, Int.reduceMul, Nat.reduceLeDiff, Int.reduceEq, lv_app0, lv_appk, set_app0, set_appk, List.append_assoc, List.append_nil, Nat.add_assoc, hh, e0, e10, b0, hd, hf, jD_mk]
    have e10 : ((10 : Int) ≤ (i : Int)) = False := eq_false h10
    simp only [↓amD, amU, Nat.reduceBEq, Nat.reduceAdd, Nat.reduceSub, Nat.reduceMul, Nat.reduceMod, Nat.reducePow, Nat.reduceLT, Nat.reduceDiv, Int.reduceToNat, BitVec.reduceToNat, zipEnv, Int.reduceLE, Int.reduceLT, Int.reduceNeg, BitVec.reduceEq, Int.reduceAdd, Int.reduceSub, Int.reduceMul, Nat.reduceLeDiff, Int.reduceEq, lv_app0, lv_appk, set_app0, set_appk, List.append_assoc, List.append_nil, Nat.add_assoc, hh, e0, e1, e10, b0, hd, hf, jD_mk, H.nn, H.rn]
    have hx := hG.1
    have lt1 := hF.lt
    have lt6 := live_lt h6
    have hF2 := hF.push [some ⟨SJ, [jD s]⟩]
    have l8 : live (rows ++ [some ⟨SJ, [jD s]⟩]) rows.length = some ⟨SJ, [jD s]⟩ := by rw [lv_app0]; rfl
    have l6 := live_app h6 [some ⟨SJ, [jD s]⟩]
    generalize rows.length = n8 at *
    generalize rows ++ [some ⟨SJ, [jD s]⟩] = R2 at *
    have kR := fun rows k => kRightJ rows k s
    have hB := nextB_ref (x := x) (by omega) s
    have lt2 := hF2.lt
    have lt8 := live_lt l8
    refine nextA H hF2 (by omega) (by omega) s (fun h L => ?_) (fun h L ro q hro hq g1 g2 => ?_)
    · have hr : rightJ s = false := by
        cases hr : rightJ s
        · rfl
        · have := (goI_step (q := 0) hG (by omega) hr).1
          rw [h] at this; cases this
      rw [hr] at kR
      have l8' := live_app l8 L
      simp only [↓amD, amU, Nat.reduceBEq, Nat.reduceAdd, Nat.reduceSub, Nat.reduceMul, Nat.reduceMod, Nat.reducePow, Nat.reduceLT, Nat.reduceDiv, Int.reduceToNat, BitVec.reduceToNat, zipEnv, Int.reduceLE, Int.reduceLT, Int.reduceNeg, BitVec.reduceEq, Int.reduceAdd, Int.reduceSub, Int.reduceMul, Nat.reduceLeDiff, Int.reduceEq, lv_app0, lv_appk, set_app0, set_appk, List.append_assoc, List.append_nil, Nat.add_assoc, hh, l8', hf, H.f.rright, kR]
      refine hR _ _ ⟨by simp only [has, ↓amD, amU, Nat.reduceBEq, Nat.reduceAdd, Nat.reduceSub, Nat.reduceMul, Nat.reduceMod, Nat.reducePow, Nat.reduceLT, Nat.reduceDiv, Int.reduceToNat, BitVec.reduceToNat, zipEnv, Int.reduceLE, Int.reduceLT, Int.reduceNeg, BitVec.reduceEq, Int.reduceAdd, Int.reduceSub, Int.reduceMul, Nat.reduceLeDiff, Int.reduceEq, hh, e1], x, n, last, by simp only [↓amD, amU, Nat.reduceBEq, Nat.reduceAdd, Nat.reduceSub, Nat.reduceMul, Nat.reduceMod, Nat.reducePow, Nat.reduceLT, Nat.reduceDiv, Int.reduceToNat, BitVec.reduceToNat, zipEnv, Int.reduceLE, Int.reduceLT, Int.reduceNeg, BitVec.reduceEq, Int.reduceAdd, Int.reduceSub, Int.reduceMul, Nat.reduceLeDiff, Int.reduceEq, h5], hG, by omega, hF2.push L, live_app l6 L⟩
    · have hr : rightJ s = true := by
        have hB2 := hB.symm.trans h
        cases hr : rightJ s
        · rw [hr, Bool.and_false] at hB2; cases hB2
        · rfl
      obtain ⟨-, hG2, hok, hot⟩ := goI_step (q := q) hG (by omega) hr
      rw [hr] at kR
      have l8' := live_app l8 L
      have l6' := live_app l6 L
      have e5 : BitVec.ofNat 32 n + 1#32 = BitVec.ofNat 32 (n + 1) := by rw [BitVec.ofNat_add]
      obtain ⟨s', hs'⟩ : ∃ s' : JS, s' = ⟨BitVec.ofNat 32 (n + 1), s.a, s.t, s.n⟩ := ⟨_, rfl⟩
      rw [← hs'] at hG2
      have hF3 := hF2.push L
      have hLl : (R2 ++ L).length = R2.length + L.length := List.length_append
      generalize hR3 : R2 ++ L = R3 at *
      have k8 := live_set_eq (y := ⟨SJ, [jD s']⟩) l8'
      have k6 := live_set_o (y := ⟨SJ, [jD s']⟩) l6' (q := n8) (by omega)
      have kg1 := live_set_o (y := ⟨SJ, [jD s']⟩) g1 (q := n8) (by omega)
      have kg2 := live_set_o (y := ⟨SJ, [jD s']⟩) g2 (q := n8) (by omega)
      have kF := hF3.set (q := n8) (y := ⟨SJ, [jD s']⟩) (by omega) (by omega)
      have klen : (R3.set n8 (some ⟨SJ, [jD s']⟩)).length = R3.length := List.length_set
      simp only [↓amD, amU, Nat.reduceBEq, Nat.reduceAdd, Nat.reduceSub, Nat.reduceMul, Nat.reduceMod, Nat.reducePow, Nat.reduceLT, Nat.reduceDiv, Int.reduceToNat, BitVec.reduceToNat, zipEnv, Int.reduceLE, Int.reduceLT, Int.reduceNeg, BitVec.reduceEq, Int.reduceAdd, Int.reduceSub, Int.reduceMul, Nat.reduceLeDiff, Int.reduceEq, lv_app0, lv_appk, set_app0, set_appk, List.append_assoc, List.append_nil, Nat.add_assoc, hh, h5, e5, l8', l6', hf, jD_s0, jD_mk, H.f.rright, kR, ← hs']
      generalize R3.set n8 (some ⟨SJ, [jD s']⟩) = R4 at *
      have klen' := klen.symm
      have m8 := live_app k8 [some ⟨SJ, [jD last]⟩]
      have m6 := live_app k6 [some ⟨SJ, [jD last]⟩]
      have mg1 := live_app kg1 [some ⟨SJ, [jD last]⟩]
      have mg2 := live_app kg2 [some ⟨SJ, [jD last]⟩]
      have mF := kF.push [some ⟨SJ, [jD last]⟩]
      have m10 : live (R4 ++ [some ⟨SJ, [jD last]⟩]) R4.length = some ⟨SJ, [jD last]⟩ := by rw [lv_app0]; rfl
      have hzz : (⟨0#32, 0, 0, 0⟩ : JS) = zeroJ := rfl
      have a10 : ∀ v, live (R4 ++ [some ⟨SJ, [v]⟩]) R4.length = some ⟨SJ, [v]⟩ := fun v => by rw [lv_app0]; rfl
      simp only [↓amD, amU, Nat.reduceBEq, Nat.reduceAdd, Nat.reduceSub, Nat.reduceMul, Nat.reduceMod, Nat.reducePow, Nat.reduceLT, Nat.reduceDiv, Int.reduceToNat, BitVec.reduceToNat, zipEnv, Int.reduceLE, Int.reduceLT, Int.reduceNeg, BitVec.reduceEq, Int.reduceAdd, Int.reduceSub, Int.reduceMul, Nat.reduceLeDiff, Int.reduceEq, lv_app0, lv_appk, set_app0, set_appk, List.append_assoc, List.append_nil, Nat.add_assoc, hh, k6, a10, klen', hf, jD_mk, H.nd, H.rd]
      generalize R4 ++ [some ⟨SJ, [jD last]⟩] = R5 at *
      generalize R4.length = n10 at *
      refine doA H s mF (by omega) (by omega) mg1 (by omega) mg2 (by omega) fun R6 U => ?_
      have y8 := U.frame _ _ m8 (by omega)
      have y6 := U.frame _ _ m6 (by omega)
      have y10 := U.frame _ _ m10 (by omega)
      have hF6 := U.fl
      clear U
      generalize doX x (nextO (K0 x) s q) = y at hF6 hG2 hok hot
      have hyl := hG2.1
      have hRf := hG2.2.2
      rw [if_neg (by omega)] at hRf
      have kr := fun k => kReadF hF6 (by omega) (by omega) k
      rw [hRf] at kr
      have y8A := fun L => live_app y8 L
      have y6A := fun L => live_app y6 L
      have y10A := fun L => live_app y10 L
      have hF6A := fun L => hF6.push L
      have lt6b := live_lt y6
      by_cases c : (n + 1) % 2 = 1
      · rw [if_pos c] at kr hok hot
        have e65 : wz (65 - 32) = ((33 : Nat) : Int) := by decide
        have kpg := fun L q ex h k => kPageJ (hF6A L) (by omega) 33 (by omega) (q := q) (ex := ex) h k
        simp only [↓amD, amU, Nat.reduceBEq, Nat.reduceAdd, Nat.reduceSub, Nat.reduceMul, Nat.reduceMod, Nat.reducePow, Nat.reduceLT, Nat.reduceDiv, Int.reduceToNat, BitVec.reduceToNat, zipEnv, Int.reduceLE, Int.reduceLT, Int.reduceNeg, BitVec.reduceEq, Int.reduceAdd, Int.reduceSub, Int.reduceMul, Nat.reduceLeDiff, Int.reduceEq, lv_app0, lv_appk, set_app0, set_appk, List.append_assoc, List.append_nil, Nat.add_assoc, hh, H.f.read, kr, jD_mk, hf, e65, H.f.pages]
        refine Eq.mpr (kpg _ _ _ (by rw [lv_appk]; rfl) _) ?_
        have hsl : (sub y (256 * 33) 256).length = 256 := sub_len (by omega)
        have kp := fun rs q ex (h : live rs q = some ⟨L8, bs (sub y (256 * 33) 256)⟩) k => kParseJ rs k (.sl L8 q [] 0 32 ex) (sub y (256 * 33) 32) (by
          have := BsIn.sub (off := 0) (len := 32) (ex := ex) h (by omega)
          rw [List.drop_zero, ← sub_take _ _ _ _ (by omega)] at this
          exact this) (by rw [sub_len (by omega)]; omega)
        simp only [↓amD, amU, Nat.reduceBEq, Nat.reduceAdd, Nat.reduceSub, Nat.reduceMul, Nat.reduceMod, Nat.reducePow, Nat.reduceLT, Nat.reduceDiv, Int.reduceToNat, BitVec.reduceToNat, zipEnv, Int.reduceLE, Int.reduceLT, Int.reduceNeg, BitVec.reduceEq, Int.reduceAdd, Int.reduceSub, Int.reduceMul, Nat.reduceLeDiff, Int.reduceEq, lv_app0, lv_appk, set_app0, set_appk, List.append_assoc, List.append_nil, Nat.add_assoc, hh, hsl, H.f.parse]
        refine Eq.mpr (kp _ _ _ (by rw [lv_appk]; rfl) _) ?_
        rw [hok]
        have hmod := mod2_1 (n := n + 1) (by omega) c
        by_cases h0 : n = 0
        · have e2 : decide (1 < n + 1) = false := decide_eq_false (by omega)
          have e3 : (1#32 < BitVec.ofNat 32 (n + 1)) = False := by subst h0; exact eq_false (by decide)
          simp only [↓amD, amU, Nat.reduceBEq, Nat.reduceAdd, Nat.reduceSub, Nat.reduceMul, Nat.reduceMod, Nat.reducePow, Nat.reduceLT, Nat.reduceDiv, Int.reduceToNat, BitVec.reduceToNat, zipEnv, Int.reduceLE, Int.reduceLT, Int.reduceNeg, BitVec.reduceEq, Int.reduceAdd, Int.reduceSub, Int.reduceMul, Nat.reduceLeDiff, Int.reduceEq, lv_app0, lv_appk, set_app0, set_appk, List.append_assoc, List.append_nil, Nat.add_assoc, hh, y8A, y6A, y10A, jD_mk, hf, eqA_j, hmod, u32_gt, e2, e3, decide_false, bqtt, bqtf, bqft, bqff, Bool.not_true, Bool.not_false]
          refine hR _ _ ⟨by simp only [has, ↓amD, amU, Nat.reduceBEq, Nat.reduceAdd, Nat.reduceSub, Nat.reduceMul, Nat.reduceMod, Nat.reducePow, Nat.reduceLT, Nat.reduceDiv, Int.reduceToNat, BitVec.reduceToNat, zipEnv, Int.reduceLE, Int.reduceLT, Int.reduceNeg, BitVec.reduceEq, Int.reduceAdd, Int.reduceSub, Int.reduceMul, Nat.reduceLeDiff, Int.reduceEq, hh, e1], y, n + 1, s', by simp only [↓amD, amU, Nat.reduceBEq, Nat.reduceAdd, Nat.reduceSub, Nat.reduceMul, Nat.reduceMod, Nat.reducePow, Nat.reduceLT, Nat.reduceDiv, Int.reduceToNat, BitVec.reduceToNat, zipEnv, Int.reduceLE, Int.reduceLT, Int.reduceNeg, BitVec.reduceEq, Int.reduceAdd, Int.reduceSub, Int.reduceMul, Nat.reduceLeDiff, Int.reduceEq], hG2, by omega, (hF6A _).set (by omega) (by omega), live_set_eq (y6A _)⟩
        · have e2 : decide (1 < n + 1) = true := decide_eq_true (by omega)
          have e3 : (1#32 < BitVec.ofNat 32 (n + 1)) = True := eq_true (by
            rw [BitVec.lt_def, BitVec.toNat_ofNat]
            show 1 < (n + 1) % 4294967296
            omega)
          rw [hot (by omega)]
          simp only [↓amD, amU, Nat.reduceBEq, Nat.reduceAdd, Nat.reduceSub, Nat.reduceMul, Nat.reduceMod, Nat.reducePow, Nat.reduceLT, Nat.reduceDiv, Int.reduceToNat, BitVec.reduceToNat, zipEnv, Int.reduceLE, Int.reduceLT, Int.reduceNeg, BitVec.reduceEq, Int.reduceAdd, Int.reduceSub, Int.reduceMul, Nat.reduceLeDiff, Int.reduceEq, lv_app0, lv_appk, set_app0, set_appk, List.append_assoc, List.append_nil, Nat.add_assoc, hh, y8A, y6A, y10A, jD_mk, hf, eqA_j, hmod, u32_gt, e2, e3, decide_true, bqtt, bqtf, bqft, bqff, Bool.not_true, Bool.not_false]
          refine hR _ _ ⟨by simp only [has, ↓amD, amU, Nat.reduceBEq, Nat.reduceAdd, Nat.reduceSub, Nat.reduceMul, Nat.reduceMod, Nat.reducePow, Nat.reduceLT, Nat.reduceDiv, Int.reduceToNat, BitVec.reduceToNat, zipEnv, Int.reduceLE, Int.reduceLT, Int.reduceNeg, BitVec.reduceEq, Int.reduceAdd, Int.reduceSub, Int.reduceMul, Nat.reduceLeDiff, Int.reduceEq, hh, e1], y, n + 1, s', by simp only [↓amD, amU, Nat.reduceBEq, Nat.reduceAdd, Nat.reduceSub, Nat.reduceMul, Nat.reduceMod, Nat.reducePow, Nat.reduceLT, Nat.reduceDiv, Int.reduceToNat, BitVec.reduceToNat, zipEnv, Int.reduceLE, Int.reduceLT, Int.reduceNeg, BitVec.reduceEq, Int.reduceAdd, Int.reduceSub, Int.reduceMul, Nat.reduceLeDiff, Int.reduceEq], hG2, by omega, (hF6A _).set (by omega) (by omega), live_set_eq (y6A _)⟩

      · rw [if_neg c] at kr hok hot
        have e65 : wz (65 - 33) = ((32 : Nat) : Int) := by decide
        have kpg := fun L q ex h k => kPageJ (hF6A L) (by omega) 32 (by omega) (q := q) (ex := ex) h k
        simp only [↓amD, amU, Nat.reduceBEq, Nat.reduceAdd, Nat.reduceSub, Nat.reduceMul, Nat.reduceMod, Nat.reducePow, Nat.reduceLT, Nat.reduceDiv, Int.reduceToNat, BitVec.reduceToNat, zipEnv, Int.reduceLE, Int.reduceLT, Int.reduceNeg, BitVec.reduceEq, Int.reduceAdd, Int.reduceSub, Int.reduceMul, Nat.reduceLeDiff, Int.reduceEq, lv_app0, lv_appk, set_app0, set_appk, List.append_assoc, List.append_nil, Nat.add_assoc, hh, H.f.read, kr, jD_mk, hf, e65, H.f.pages]
        refine Eq.mpr (kpg _ _ _ (by rw [lv_appk]; rfl) _) ?_
        have hsl : (sub y (256 * 32) 256).length = 256 := sub_len (by omega)
        have kp := fun rs q ex (h : live rs q = some ⟨L8, bs (sub y (256 * 32) 256)⟩) k => kParseJ rs k (.sl L8 q [] 0 32 ex) (sub y (256 * 32) 32) (by
          have := BsIn.sub (off := 0) (len := 32) (ex := ex) h (by omega)
          rw [List.drop_zero, ← sub_take _ _ _ _ (by omega)] at this
          exact this) (by rw [sub_len (by omega)]; omega)
        simp only [↓amD, amU, Nat.reduceBEq, Nat.reduceAdd, Nat.reduceSub, Nat.reduceMul, Nat.reduceMod, Nat.reducePow, Nat.reduceLT, Nat.reduceDiv, Int.reduceToNat, BitVec.reduceToNat, zipEnv, Int.reduceLE, Int.reduceLT, Int.reduceNeg, BitVec.reduceEq, Int.reduceAdd, Int.reduceSub, Int.reduceMul, Nat.reduceLeDiff, Int.reduceEq, lv_app0, lv_appk, set_app0, set_appk, List.append_assoc, List.append_nil, Nat.add_assoc, hh, hsl, H.f.parse]
        refine Eq.mpr (kp _ _ _ (by rw [lv_appk]; rfl) _) ?_
        rw [hok]
        have hmod := mod2_0 (n := n + 1) (by omega) c
        by_cases h0 : n = 0
        · have e2 : decide (1 < n + 1) = false := decide_eq_false (by omega)
          have e3 : (1#32 < BitVec.ofNat 32 (n + 1)) = False := by subst h0; exact eq_false (by decide)
          simp only [↓amD, amU, Nat.reduceBEq, Nat.reduceAdd, Nat.reduceSub, Nat.reduceMul, Nat.reduceMod, Nat.reducePow, Nat.reduceLT, Nat.reduceDiv, Int.reduceToNat, BitVec.reduceToNat, zipEnv, Int.reduceLE, Int.reduceLT, Int.reduceNeg, BitVec.reduceEq, Int.reduceAdd, Int.reduceSub, Int.reduceMul, Nat.reduceLeDiff, Int.reduceEq, lv_app0, lv_appk, set_app0, set_appk, List.append_assoc, List.append_nil, Nat.add_assoc, hh, y8A, y6A, y10A, jD_mk, hf, eqA_j, hmod, u32_gt, e2, e3, decide_false, bqtt, bqtf, bqft, bqff, Bool.not_true, Bool.not_false]
          refine hR _ _ ⟨by simp only [has, ↓amD, amU, Nat.reduceBEq, Nat.reduceAdd, Nat.reduceSub, Nat.reduceMul, Nat.reduceMod, Nat.reducePow, Nat.reduceLT, Nat.reduceDiv, Int.reduceToNat, BitVec.reduceToNat, zipEnv, Int.reduceLE, Int.reduceLT, Int.reduceNeg, BitVec.reduceEq, Int.reduceAdd, Int.reduceSub, Int.reduceMul, Nat.reduceLeDiff, Int.reduceEq, hh, e1], y, n + 1, s', by simp only [↓amD, amU, Nat.reduceBEq, Nat.reduceAdd, Nat.reduceSub, Nat.reduceMul, Nat.reduceMod, Nat.reducePow, Nat.reduceLT, Nat.reduceDiv, Int.reduceToNat, BitVec.reduceToNat, zipEnv, Int.reduceLE, Int.reduceLT, Int.reduceNeg, BitVec.reduceEq, Int.reduceAdd, Int.reduceSub, Int.reduceMul, Nat.reduceLeDiff, Int.reduceEq], hG2, by omega, (hF6A _).set (by omega) (by omega), live_set_eq (y6A _)⟩
        · have e2 : decide (1 < n + 1) = true := decide_eq_true (by omega)
          have e3 : (1#32 < BitVec.ofNat 32 (n + 1)) = True := eq_true (by
            rw [BitVec.lt_def, BitVec.toNat_ofNat]
            show 1 < (n + 1) % 4294967296
            omega)
          rw [hot (by omega)]
          simp only [↓amD, amU, Nat.reduceBEq, Nat.reduceAdd, Nat.reduceSub, Nat.reduceMul, Nat.reduceMod, Nat.reducePow, Nat.reduceLT, Nat.reduceDiv, Int.reduceToNat, BitVec.reduceToNat, zipEnv, Int.reduceLE, Int.reduceLT, Int.reduceNeg, BitVec.reduceEq, Int.reduceAdd, Int.reduceSub, Int.reduceMul, Nat.reduceLeDiff, Int.reduceEq, lv_app0, lv_appk, set_app0, set_appk, List.append_assoc, List.append_nil, Nat.add_assoc, hh, y8A, y6A, y10A, jD_mk, hf, eqA_j, hmod, u32_gt, e2, e3, decide_true, bqtt, bqtf, bqft, bqff, Bool.not_true, Bool.not_false]
          refine hR _ _ ⟨by simp only [has, ↓amD, amU, Nat.reduceBEq, Nat.reduceAdd, Nat.reduceSub, Nat.reduceMul, Nat.reduceMod, Nat.reducePow, Nat.reduceLT, Nat.reduceDiv, Int.reduceToNat, BitVec.reduceToNat, zipEnv, Int.reduceLE, Int.reduceLT, Int.reduceNeg, BitVec.reduceEq, Int.reduceAdd, Int.reduceSub, Int.reduceMul, Nat.reduceLeDiff, Int.reduceEq, hh, e1], y, n + 1, s', by simp only [↓amD, amU, Nat.reduceBEq, Nat.reduceAdd, Nat.reduceSub, Nat.reduceMul, Nat.reduceMod, Nat.reducePow, Nat.reduceLT, Nat.reduceDiv, Int.reduceToNat, BitVec.reduceToNat, zipEnv, Int.reduceLE, Int.reduceLT, Int.reduceNeg, BitVec.reduceEq, Int.reduceAdd, Int.reduceSub, Int.reduceMul, Nat.reduceLeDiff, Int.reduceEq], hG2, by omega, (hF6A _).set (by omega) (by omega), live_set_eq (y6A _)⟩

  · rintro env rows ⟨hh, -⟩ R
    simp only [has] at hh
    have e0 : ((ls.length : Int) < (ls.length : Int)) = False := eq_false (by omega)
    simp only [↓amD, amU, Nat.reduceBEq, Nat.reduceAdd, Nat.reduceSub, Nat.reduceMul, Nat.reduceMod, Nat.reducePow, Nat.reduceLT, Nat.reduceDiv, Int.reduceToNat, BitVec.reduceToNat, zipEnv, Int.reduceLE, Int.reduceLT, Int.reduceNeg, BitVec.reduceEq, Int.reduceAdd, Int.reduceSub, Int.reduceMul, Nat.reduceLeDiff, Int.reduceEq, lv_app0, lv_appk, set_app0, set_appk, List.append_assoc, List.append_nil, Nat.add_assoc, hh, e0]
  · simp only [has, ↓amD, amU, Nat.reduceBEq, Nat.reduceAdd, Nat.reduceSub, Nat.reduceMul, Nat.reduceMod, Nat.reducePow, Nat.reduceLT, Nat.reduceDiv, Int.reduceToNat, BitVec.reduceToNat, zipEnv, Int.reduceLE, Int.reduceLT, Int.reduceNeg, BitVec.reduceEq, Int.reduceAdd, Int.reduceSub, Int.reduceMul, Nat.reduceLeDiff, Int.reduceEq]
  · simp only [↓amD, amU, Nat.reduceBEq, Nat.reduceAdd, Nat.reduceSub, Nat.reduceMul, Nat.reduceMod, Nat.reducePow, Nat.reduceLT, Nat.reduceDiv, Int.reduceToNat, BitVec.reduceToNat, zipEnv, Int.reduceLE, Int.reduceLT, Int.reduceNeg, BitVec.reduceEq, Int.reduceAdd, Int.reduceSub, Int.reduceMul, Nat.reduceLeDiff, Int.reduceEq]
end Job
end Go.Am
