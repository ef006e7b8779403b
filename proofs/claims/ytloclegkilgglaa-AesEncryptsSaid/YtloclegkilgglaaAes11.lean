/- AES: the law of the schedules -/
import Derived.Test.YtloclegkilgglaaAes10
namespace Go.Am
set_option linter.unusedSimpArgs false
set_option linter.unusedVariables false
attribute [local congr] bnd_congr kCond_congr kGd_congr kPick_congr kCall_congr kIdx_congr kSlice_congr kLoop_congr cond_congr' aBin_congr aBounds_congr aApp_congr aCopy_congr kFn_congr
namespace Job
open Go.Am.F
set_option maxRecDepth 10000
set_option maxHeartbeats 2000000 in
theorem schedules_law (C : Ctx) (h : AesC C) (ha : C.fn 8 = some fAwakeA) (hk : C.fn 10 = some fKey) (hw : C.fn 20 = some fWordsK) (hv : C.fn 22 = some fValue) (hs : C.fn 23 = some fSame)
    (p q : List (BitVec 8)) (long : Bool) (hp : p.length = 32) (hq : q.length = 32) :
    afun C 3 r_law03_AesSchedules a_law03_AesSchedules [d32D p, d32D q, bD long] [] (fun d _ => d = .raw (.bool true)) := by
  refine afun_mk rfl ?_
  unfold a_law03_AesSchedules r_law03_AesSchedules
  have hpf : ∀ p, (d32D p).fits (.ar 32 L8) = true := fun p => by simp [d32D, D.fits]
  have hkp := fun rows k => kKey rows k p long hp
  have hkq := fun rows k => kKey rows k q long hq
  simp only [rep_z]
  obtain ⟨n, hn4, ea, eb⟩ : ∃ n, (n = 4 ∨ n = 8) ∧ (keyS p long).length = 4 * n ∧ (keyS q long).length = 4 * n := by
    cases long
    · exact ⟨4, .inl rfl, by simp [keyS]; omega, by simp [keyS]; omega⟩
    · exact ⟨8, .inr rfl, by simp [keyS]; omega, by simp [keyS]; omega⟩
  have hka := keyS_len p long hp
  have hkb := keyS_len q long hq
  simp only [↓amD, amU, Nat.reduceBEq, Nat.reduceAdd, Nat.reduceSub, Nat.reduceMul, Nat.reduceMod, Nat.reducePow, Nat.reduceLT, Nat.reduceDiv, Int.reduceToNat, BitVec.reduceToNat, zipEnv, Int.reduceLE, Int.reduceLT, Int.reduceNeg, BitVec.reduceEq, Int.reduceAdd, Int.reduceSub, Int.reduceMul, Nat.reduceLeDiff, Int.reduceEq, hpf, ha, kAwakeA, hk, hkp, hkq, h.n9, h.r9]
  generalize keyS p long = a at *
  generalize keyS q long = b at *
  refine new_run (kb := a) rfl hka fun d1 rs1 hK1 => ?_
  have l3 : live rs1 3 = some ⟨L8, bs b⟩ := hK1.frame 3 _ rfl
  have l2 : live rs1 2 = some ⟨L8, bs a⟩ := hK1.frame 2 _ rfl
  simp only [↓amD, amU, Nat.reduceBEq, Nat.reduceAdd, Nat.reduceSub, Nat.reduceMul, Nat.reduceMod, Nat.reducePow, Nat.reduceLT, Nat.reduceDiv, Int.reduceToNat, BitVec.reduceToNat, zipEnv, Int.reduceLE, Int.reduceLT, Int.reduceNeg, BitVec.reduceEq, Int.reduceAdd, Int.reduceSub, Int.reduceMul, Nat.reduceLeDiff, Int.reduceEq, lv_app0, lv_appk, set_app0, set_appk, List.append_assoc, List.append_nil, Nat.add_assoc, kA_fits, h.n9, h.r9]
  refine new_run (kb := b) (live_push l3) hkb fun d2 rs2 hK2 => ?_
  have m2 : live rs2 2 = some ⟨L8, bs a⟩ := hK2.frame 2 _ (live_push l2)
  have m3 : live rs2 3 = some ⟨L8, bs b⟩ := hK2.frame 3 _ (live_push l3)
  have mS : live rs2 rs1.length = some ⟨S1, [kA d1]⟩ := hK2.frame _ _ (by simp only [lv_app0]; rfl)
  have hO1 : Own L32 d1 rs2 (us (sched a)) := by
    rcases hK1.own with h | ⟨r, ex, rfl, hl⟩
    · exact .inl h
    · exact .inr ⟨r, ex, rfl, hK2.frame _ _ (live_push hl)⟩
  have hWa : (sched a).length = 4 * n + 28 := by rw [sched_len, ea]; omega
  have hWb : (sched b).length = 4 * n + 28 := by rw [sched_len, eb]; omega
  have na : sched a ≠ [] := by intro h; rw [h] at hWa; simp at hWa
  have nb : sched b ≠ [] := by intro h; rw [h] at hWb; simp at hWb
  have k1 := fun more k => kWordsA (rows := rs2 ++ more) hO1.push na (by omega) k
  have k2 := fun more k => kWordsA (rows := rs2 ++ more) hK2.own.push nb (by omega) k
  have e1 : ((a.length : Nat) : Int).tdiv 4 = (n : Int) := by rw [ea]; rcases hn4 with rfl | rfl <;> rfl
  have e2 : wz (n : Int) = (n : Int) := wz_id (by omega)
  have e3 : wz ((n : Int) + 7) = (n : Int) + 7 := wz_id (by omega)
  have e4 : wz (4 * ((n : Int) + 7)) = 4 * ((n : Int) + 7) := wz_id (by omega)
  have e5 : (((sched a).length : Int) = 4 * ((n : Int) + 7)) = True := eq_true (by omega)
  have e6 : (((sched b).length : Int) = ((sched a).length : Int)) = True := eq_true (by omega)
  simp only [↓amD, amU, Nat.reduceBEq, Nat.reduceAdd, Nat.reduceSub, Nat.reduceMul, Nat.reduceMod, Nat.reducePow, Nat.reduceLT, Nat.reduceDiv, Int.reduceToNat, BitVec.reduceToNat, zipEnv, Int.reduceLE, Int.reduceLT, Int.reduceNeg, BitVec.reduceEq, Int.reduceAdd, Int.reduceSub, Int.reduceMul, Nat.reduceLeDiff, Int.reduceEq, lv_app0, lv_appk, set_app0, set_appk, List.append_assoc, List.append_nil, Nat.add_assoc, live_app mS, kA_fits, hw, k1, k2, e1, e2, e3, e4, e5, e6]
  have A1 := fun i h => sched_lo a n i ea h
  have A2 := fun i h1 h2 h3 h4 => sched_hi a n i ea h1 h2 (by omega) h3 h4
  have A3 := sched_inj n a b ea eb
  generalize sched a = w at *
  generalize sched b = x at *
  have r1 : live (rs2 ++ [some ⟨S1, [kA d2]⟩, some ⟨L32, us w⟩, some ⟨L32, us x⟩]) (rs2.length + 1) = some ⟨L32, us w⟩ := by rw [lv_appk]; rfl
  have r2 : live (rs2 ++ [some ⟨S1, [kA d2]⟩, some ⟨L32, us w⟩, some ⟨L32, us x⟩]) (rs2.length + 2) = some ⟨L32, us x⟩ := by rw [lv_appk]; rfl
  have r3 := live_app m2 [some ⟨S1, [kA d2]⟩, some ⟨L32, us w⟩, some ⟨L32, us x⟩]
  have r4 := live_app m3 [some ⟨S1, [kA d2]⟩, some ⟨L32, us w⟩, some ⟨L32, us x⟩]
  generalize (rs2 ++ [some ⟨S1, [kA d2]⟩, some ⟨L32, us w⟩, some ⟨L32, us x⟩]) = RS at *
  refine kLoop_up (4 * n + 28) (fun i env rows => has env [(59, .raw (it (i : Int))), (58, .raw (it (w.length : Int))), (57, .sl L32 (rs2.length + 1) [] 0 w.length false), (14, .sl L32 (rs2.length + 1) [] 0 w.length false), (15, .sl L32 (rs2.length + 2) [] 0 x.length false),
    (16, .raw (.bool (al w x i))), (13, .raw (it (n : Int))), (7, .sl L8 2 [] 0 a.length false), (8, .sl L8 3 [] 0 b.length false)] ∧ rows = RS) ?_ ?_ ⟨?_, rfl⟩
  · rintro i hi env rows ⟨hh, rfl⟩ R hR
    simp only [has] at hh
    obtain ⟨h59, h58, h57, h14, h15, h16, h13, h7, h8, -⟩ := hh
    have hiw : i < w.length := by omega
    have hix : i < x.length := by omega
    have e0 : ((i : Int) < (w.length : Int)) = True := eq_true (by omega)
    have c15 : ((i : Int) < (x.length : Int)) = True := eq_true (by omega)
    have b0 : ∀ n : Nat, ((0 : Int) ≤ (n : Int)) = True := fun n => eq_true (by omega)
    have e2 := wz_succ i (by omega)
    have gw : (us w)[i]? = some (.raw (u32 (w.getD i 0#32))) := us_get hiw
    have gx : (us x)[i]? = some (.raw (u32 (x.getD i 0#32))) := us_get hix
    have hn := al_succ w x i hiw hix
    have a0 : wz (4 * (i : Int)) = ((4 * i : Nat) : Int) := by rw [wz_id (by omega)]; omega
    have a1 : wz (((4 * i : Nat) : Int) + 4) = ((4 * i + 4 : Nat) : Int) := by rw [wz_id (by omega)]; omega
    have a2 : (((4 * i : Nat) : Int) ≤ ((4 * i + 4 : Nat) : Int)) = True := eq_true (by omega)
    have a4 : 4 * i + 4 - 4 * i = 4 := by omega
    have d1 : ((n : Int) = 0) = False := eq_false (by omega)
    have d2 : (i : Int).tmod (n : Int) = ((i % n : Nat) : Int) := rfl
    have d8 : (i : Int).tmod 8 = ((i % 8 : Nat) : Int) := rfl
    by_cases hin : i < n
    · have f1 : ((i : Int) < (n : Int)) = True := eq_true (by omega)
      have f2 : ((n : Int) ≤ (i : Int)) = False := eq_false (by omega)
      have a3 : (((4 * i + 4 : Nat) : Int) ≤ (a.length : Int)) = True := eq_true (by omega)
      have kv := fun k e => kValB rows k _ ((a.drop (4 * i)).take 4) (BsIn.sub (ex := e) r3 (by omega)) (by rw [List.length_take]; omega)
      have ev : (w.getD i 0#32).setWidth 64 = valS ((a.drop (4 * i)).take 4) := by
        rw [A1 i hin, num_val _ (by rw [List.length_take, List.length_drop]; omega)]
      cases hal : al w x i
      all_goals
        rw [hal] at h16 hn
        simp only [↓amD, amU, Nat.reduceBEq, Nat.reduceAdd, Nat.reduceSub, Nat.reduceMul, Nat.reduceMod, Nat.reducePow, Nat.reduceLT, Nat.reduceDiv, Int.reduceToNat, BitVec.reduceToNat, zipEnv, Int.reduceLE, Int.reduceLT, Int.reduceNeg, BitVec.reduceEq, Int.reduceAdd, Int.reduceSub, Int.reduceMul, Nat.reduceLeDiff, Int.reduceEq, h59, h58, h57, h14, h15, h16, h13, h7, h8, r1, r2, r3, e0, e2, c15, b0, gw, gx, hv, f1, f2, a0, a1, a2, a3, a4, kv, ev, decide_true, decide_false]
        exact hR _ _ ⟨by simp only [has, ↓amD, amU, Nat.reduceBEq, Nat.reduceAdd, Nat.reduceSub, Nat.reduceMul, Nat.reduceMod, Nat.reducePow, Nat.reduceLT, Nat.reduceDiv, Int.reduceToNat, BitVec.reduceToNat, zipEnv, Int.reduceLE, Int.reduceLT, Int.reduceNeg, BitVec.reduceEq, Int.reduceAdd, Int.reduceSub, Int.reduceMul, Nat.reduceLeDiff, Int.reduceEq, h58, h57, h14, h15, h13, h7, h8, hn], rfl⟩
    · have f1 : ((i : Int) < (n : Int)) = False := eq_false (by omega)
      have f2 : ((n : Int) ≤ (i : Int)) = True := eq_true (by omega)
      have s1 : wz ((i : Int) - (n : Int)) = ((i - n : Nat) : Int) := by rw [wz_id (by omega)]; omega
      have s2 : wz ((i : Int) - 1) = ((i - 1 : Nat) : Int) := by rw [wz_id (by omega)]; omega
      have s3 : (((i - n : Nat) : Int) < (w.length : Int)) = True := eq_true (by omega)
      have s4 : (((i - 1 : Nat) : Int) < (w.length : Int)) = True := eq_true (by omega)
      have s5 : (us w)[i - n]? = some (.raw (u32 (w.getD (i - n) 0#32))) := us_get (by omega)
      have s6 : (us w)[i - 1]? = some (.raw (u32 (w.getD (i - 1) 0#32))) := us_get (by omega)
      by_cases h0 : i % n = 0
      · have d3 : (((i % n : Nat) : Int) = 0) = True := eq_true (by omega)
        cases hal : al w x i
        all_goals
          rw [hal] at h16 hn
          simp only [↓amD, amU, Nat.reduceBEq, Nat.reduceAdd, Nat.reduceSub, Nat.reduceMul, Nat.reduceMod, Nat.reducePow, Nat.reduceLT, Nat.reduceDiv, Int.reduceToNat, BitVec.reduceToNat, zipEnv, Int.reduceLE, Int.reduceLT, Int.reduceNeg, BitVec.reduceEq, Int.reduceAdd, Int.reduceSub, Int.reduceMul, Nat.reduceLeDiff, Int.reduceEq, h59, h58, h57, h14, h15, h16, h13, h7, h8, r1, r2, r3, e0, e2, c15, b0, gw, gx, hv, f1, f2, d1, d2, d3, decide_true, decide_false]
          exact hR _ _ ⟨by simp only [has, ↓amD, amU, Nat.reduceBEq, Nat.reduceAdd, Nat.reduceSub, Nat.reduceMul, Nat.reduceMod, Nat.reducePow, Nat.reduceLT, Nat.reduceDiv, Int.reduceToNat, BitVec.reduceToNat, zipEnv, Int.reduceLE, Int.reduceLT, Int.reduceNeg, BitVec.reduceEq, Int.reduceAdd, Int.reduceSub, Int.reduceMul, Nat.reduceLeDiff, Int.reduceEq, h58, h57, h14, h15, h13, h7, h8, hn], rfl⟩
      · have d3 : (((i % n : Nat) : Int) = 0) = False := eq_false (by omega)
        by_cases h8n : n = 8
        · have d4 : ((n : Int) = 8) = True := eq_true (by omega)
          by_cases h84 : i % 8 = 4
          · have d5 : (((i % 8 : Nat) : Int) = 4) = True := eq_true (by omega)
            cases hal : al w x i
            all_goals
              rw [hal] at h16 hn
              simp only [↓amD, amU, Nat.reduceBEq, Nat.reduceAdd, Nat.reduceSub, Nat.reduceMul, Nat.reduceMod, Nat.reducePow, Nat.reduceLT, Nat.reduceDiv, Int.reduceToNat, BitVec.reduceToNat, zipEnv, Int.reduceLE, Int.reduceLT, Int.reduceNeg, BitVec.reduceEq, Int.reduceAdd, Int.reduceSub, Int.reduceMul, Nat.reduceLeDiff, Int.reduceEq, h59, h58, h57, h14, h15, h16, h13, h7, h8, r1, r2, r3, e0, e2, c15, b0, gw, gx, hv, f1, f2, d1, d2, d3, d4, d5, d8, decide_true, decide_false]
              exact hR _ _ ⟨by simp only [has, ↓amD, amU, Nat.reduceBEq, Nat.reduceAdd, Nat.reduceSub, Nat.reduceMul, Nat.reduceMod, Nat.reducePow, Nat.reduceLT, Nat.reduceDiv, Int.reduceToNat, BitVec.reduceToNat, zipEnv, Int.reduceLE, Int.reduceLT, Int.reduceNeg, BitVec.reduceEq, Int.reduceAdd, Int.reduceSub, Int.reduceMul, Nat.reduceLeDiff, Int.reduceEq, h58, h57, h14, h15, h13, h7, h8, hn], rfl⟩
          · have d5 : (((i % 8 : Nat) : Int) = 4) = False := eq_false (by omega)
            have hx := eq_true (A2 i (by omega) (by omega) h0 (fun h => h84 (by rw [← h8n]; exact h.2)))
            cases hal : al w x i
            all_goals
              rw [hal] at h16 hn
              simp only [↓amD, amU, Nat.reduceBEq, Nat.reduceAdd, Nat.reduceSub, Nat.reduceMul, Nat.reduceMod, Nat.reducePow, Nat.reduceLT, Nat.reduceDiv, Int.reduceToNat, BitVec.reduceToNat, zipEnv, Int.reduceLE, Int.reduceLT, Int.reduceNeg, BitVec.reduceEq, Int.reduceAdd, Int.reduceSub, Int.reduceMul, Nat.reduceLeDiff, Int.reduceEq, h59, h58, h57, h14, h15, h16, h13, h7, h8, r1, r2, r3, e0, e2, c15, b0, gw, gx, hv, f1, f2, d1, d2, d3, d4, d5, d8, s1, s2, s3, s4, s5, s6, hx, decide_true, decide_false]
              exact hR _ _ ⟨by simp only [has, ↓amD, amU, Nat.reduceBEq, Nat.reduceAdd, Nat.reduceSub, Nat.reduceMul, Nat.reduceMod, Nat.reducePow, Nat.reduceLT, Nat.reduceDiv, Int.reduceToNat, BitVec.reduceToNat, zipEnv, Int.reduceLE, Int.reduceLT, Int.reduceNeg, BitVec.reduceEq, Int.reduceAdd, Int.reduceSub, Int.reduceMul, Nat.reduceLeDiff, Int.reduceEq, h58, h57, h14, h15, h13, h7, h8, hn], rfl⟩
        · have d4 : ((n : Int) = 8) = False := eq_false (by omega)
          have hx := eq_true (A2 i (by omega) (by omega) h0 (fun h => h8n (by omega)))
          cases hal : al w x i
          all_goals
            rw [hal] at h16 hn
            simp only [↓amD, amU, Nat.reduceBEq, Nat.reduceAdd, Nat.reduceSub, Nat.reduceMul, Nat.reduceMod, Nat.reducePow, Nat.reduceLT, Nat.reduceDiv, Int.reduceToNat, BitVec.reduceToNat, zipEnv, Int.reduceLE, Int.reduceLT, Int.reduceNeg, BitVec.reduceEq, Int.reduceAdd, Int.reduceSub, Int.reduceMul, Nat.reduceLeDiff, Int.reduceEq, h59, h58, h57, h14, h15, h16, h13, h7, h8, r1, r2, r3, e0, e2, c15, b0, gw, gx, hv, f1, f2, d1, d2, d3, d4, d8, s1, s2, s3, s4, s5, s6, hx, decide_true, decide_false]
            exact hR _ _ ⟨by simp only [has, ↓amD, amU, Nat.reduceBEq, Nat.reduceAdd, Nat.reduceSub, Nat.reduceMul, Nat.reduceMod, Nat.reducePow, Nat.reduceLT, Nat.reduceDiv, Int.reduceToNat, BitVec.reduceToNat, zipEnv, Int.reduceLE, Int.reduceLT, Int.reduceNeg, BitVec.reduceEq, Int.reduceAdd, Int.reduceSub, Int.reduceMul, Nat.reduceLeDiff, Int.reduceEq, h58, h57, h14, h15, h13, h7, h8, hn], rfl⟩
  · rintro env rows ⟨hh, rfl⟩ R
    simp only [has] at hh
    obtain ⟨h59, h58, h57, h14, h15, h16, h13, h7, h8, -⟩ := hh
    have e0 : (((4 * n + 28 : Nat) : Int) < (w.length : Int)) = False := eq_false (by omega)
    have ks := fun k => kSame rows k _ _ a b (BsIn.own (ex := false) r3 _ rfl) (BsIn.own (ex := false) r4 _ rfl) (by omega) (by omega)
    have ef : al w x (4 * n + 28) = decide (a = b) := by
      unfold al
      rw [List.take_of_length_le (by omega), List.take_of_length_le (by omega), decide_eq_decide, A3]
    simp only [↓amD, amU, Nat.reduceBEq, Nat.reduceAdd, Nat.reduceSub, Nat.reduceMul, Nat.reduceMod, Nat.reducePow, Nat.reduceLT, Nat.reduceDiv, Int.reduceToNat, BitVec.reduceToNat, zipEnv, Int.reduceLE, Int.reduceLT, Int.reduceNeg, BitVec.reduceEq, Int.reduceAdd, Int.reduceSub, Int.reduceMul, Nat.reduceLeDiff, Int.reduceEq, h59, h58, h57, h14, h15, h16, h13, h7, h8, e0, hs, ks, ef, beq_self_eq_true]
  · simp only [has, ↓amD, amU, Nat.reduceBEq, Nat.reduceAdd, Nat.reduceSub, Nat.reduceMul, Nat.reduceMod, Nat.reducePow, Nat.reduceLT, Nat.reduceDiv, Int.reduceToNat, BitVec.reduceToNat, zipEnv, Int.reduceLE, Int.reduceLT, Int.reduceNeg, BitVec.reduceEq, Int.reduceAdd, Int.reduceSub, Int.reduceMul, Nat.reduceLeDiff, Int.reduceEq]
    simp [al]
end Job
end Go.Am
