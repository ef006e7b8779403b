/- AES: the law of the encryption -/
import Derived.Test.YtloclegkilgglaaAes16
namespace Go.Am
set_option linter.unusedSimpArgs false
set_option linter.unusedVariables false
attribute [local congr] bnd_congr kCond_congr kGd_congr kPick_congr kCall_congr kIdx_congr kSlice_congr kLoop_congr cond_congr' aBin_congr aBounds_congr aApp_congr aCopy_congr kFn_congr
namespace Job
open Go.Am.F
set_option maxRecDepth 10000
theorem kEncR {rows : Rows} {d : D} {kb : List (BitVec 8)} (h : BsIn rows d kb) (hk : kb.length = 16 ∨ kb.length = 32) (k : D → Rows → Prop) (b : List (BitVec 8)) (hb : b.length = 16) :
    kCall fEncR rows k [d, b16D b] = k (b16D (encS (keyR (sched kb)) boxL (kb.length / 4 + 6) b)) rows := by
  obtain ⟨⟨x, hx, hx'⟩, hn⟩ := h
  have hp : ((decide (kb.length = 16) || decide (kb.length = 32)) && decide (b.length = 16)) = true := by simp [hk, hb]
  have hA : fEncR [x, b16D b] [] = some (b16D (encS (keyR (sched kb)) boxL (kb.length / 4 + 6) b), []) := by
    rw [fEncR, fn2_eq hx'.rd (rdOf_eq b16D_inj b) hp]
  unfold kCall
  cases hh : hasRefL [d, b16D b] with
  | true => simp [bnd, mapO, hx, b16_view, hA, b16_shift, b16_noLst, shiftRows, noLstRows]
  | false =>
    simp only [hasRefL, Bool.or_eq_false_iff, and_true] at hh
    have hA2 : fEncR [d, b16D b] [] = some (b16D (encS (keyR (sched kb)) boxL (kb.length / 4 + 6) b), []) := by
      rw [fEncR, fn2_eq (hn hh.1).rd (rdOf_eq b16D_inj b) hp]
    simp [bnd, hA2, b16_shift, shiftRows]
set_option maxHeartbeats 4000000 in
theorem encrypts_law (C CW : Ctx) (h : AesC C) (ha : C.fn 8 = some fAwakeA) (hk : C.fn 10 = some fKey) (hw : C.fn 20 = some fWordsK) (hr : C.fn 19 = some fRounds) (hv : C.fn 22 = some fValue) (he : C.fn 18 = some fEncR)
    (nw : C.fn 21 = none) (rw_ : C.fnr 21 = some (afun CW 1 r_ref03_Words a_ref03_Words)) (hB2 : CW.fn 37 = some fBoxesR) (hM2 : CW.fn 14 = some fMulR)
    (p : List (BitVec 8)) (long : Bool) (b : List (BitVec 8)) (hp : p.length = 32) (hb : b.length = 16) :
    afun C 3 r_law03_AesEncrypts a_law03_AesEncrypts [d32D p, bD long, b16D b] [] (fun d _ => d = .raw (.bool true)) := by
  refine afun_mk rfl ?_
  unfold a_law03_AesEncrypts r_law03_AesEncrypts
  have hpf : ∀ p, (d32D p).fits (.ar 32 L8) = true := fun p => by simp [d32D, D.fits]
  have hkp := fun rows k => kKey rows k p long hp
  simp only [rep_z]
  obtain ⟨n, h48, hn⟩ : ∃ n, (n = 4 ∨ n = 8) ∧ (keyS p long).length = 4 * n := by
    cases long
    · exact ⟨4, .inl rfl, by simp [keyS]; omega⟩
    · exact ⟨8, .inr rfl, by simp [keyS]; omega⟩
  have hka := keyS_len p long hp
  simp only [↓amD, amU, Nat.reduceBEq, Nat.reduceAdd, Nat.reduceSub, Nat.reduceMul, Nat.reduceMod, Nat.reducePow, Nat.reduceLT, Nat.reduceDiv, Int.reduceToNat, BitVec.reduceToNat, zipEnv, Int.reduceLE, Int.reduceLT, Int.reduceNeg, BitVec.reduceEq, Int.reduceAdd, Int.reduceSub, Int.reduceMul, Nat.reduceLeDiff, Int.reduceEq, hpf, b16_fits, ha, kAwakeA, hk, hkp, h.n9, h.r9]
  generalize keyS p long = kb at *
  refine new_run (kb := kb) rfl hka fun d1 rs1 hK1 => ?_
  have l1 : live rs1 1 = some ⟨.ar 16 L8, [b16D b]⟩ := hK1.frame 1 _ rfl
  have l2 : live rs1 2 = some ⟨L8, bs kb⟩ := hK1.frame 2 _ rfl
  have hW : (sched kb).length = 4 * n + 28 := by rw [sched_len, hn]; omega
  have nW : sched kb ≠ [] := by intro h; rw [h] at hW; simp at hW
  have hO1 := hK1.own
  have hO2 : ∀ more, Own L32 d1 (rs1 ++ more) (us (sched kb)) := fun more => hO1.push
  have k1 := fun more k => kEnc (hO2 more) (by omega) (by omega) k b hb
  have k2 := fun more k => kRounds (hO2 more) nW (by omega) k
  have k3 := fun more k => kWordsA (rows := rs1 ++ more) (hO2 more) nW (by omega) k
  have k4 := fun more k => kEncR (rows := rs1 ++ more) (BsIn.own (ex := false) (live_push l2) _ rfl) hka k b hb
  have e0 : ((4 * n : Nat) : Int).tdiv 4 = (n : Int) := by rcases h48 with rfl | rfl <;> rfl
  have e1 : wz (n : Int) = (n : Int) := wz_id (by omega)
  have e2 : wz ((n : Int) + 6) = ((n + 6 : Nat) : Int) := by rw [wz_id (by omega)]; omega
  have e3 : (sched kb).length / 4 - 1 = n + 6 := by omega
  have e4 : kb.length / 4 + 6 = n + 6 := by omega
  have el := encS_len (sched kb) boxL b (n + 6) hb
  have e6 := eq16n (encS (keyR (sched kb)) boxL (n + 6) b) el
  rw [e3] at k1 k2
  rw [e4] at k4
  rw [hn] at k4 ⊢
  simp only [↓amD, amU, Nat.reduceBEq, Nat.reduceAdd, Nat.reduceSub, Nat.reduceMul, Nat.reduceMod, Nat.reducePow, Nat.reduceLT, Nat.reduceDiv, Int.reduceToNat, BitVec.reduceToNat, zipEnv, Int.reduceLE, Int.reduceLT, Int.reduceNeg, BitVec.reduceEq, Int.reduceAdd, Int.reduceSub, Int.reduceMul, Nat.reduceLeDiff, Int.reduceEq, lv_app0, lv_appk, set_app0, set_appk, List.append_assoc, List.append_nil, Nat.add_assoc, kA_fits, b16_fits, live_app l1, h.enc, he, k1, k4, hr, k2, hn, e0, e1, e2, e6, hw, k3, nw, rw_]
  have q2 : live (rs1 ++ [some ⟨S1, [kA d1]⟩, some ⟨L32, us (sched kb)⟩]) 2 = some ⟨L8, bs kb⟩ := live_push l2
  have q1 : live (rs1 ++ [some ⟨S1, [kA d1]⟩, some ⟨L32, us (sched kb)⟩]) (rs1.length + 1) = some ⟨L32, us (sched kb)⟩ := by rw [lv_appk]; rfl
  generalize (rs1 ++ [some ⟨S1, [kA d1]⟩, some ⟨L32, us (sched kb)⟩]) = R0 at *
  refine words_runS CW hB2 hM2 q2 hn h48 fun R1 dw hS => ?_
  obtain ⟨hkp, -, ⟨ds, hO, hdl, hWs⟩, -⟩ := hS
  have m1 := hkp _ _ q1
  obtain ⟨mw, ew, rfl, hmw⟩ : ∃ mw ew, dw = .sl .ref mw [] 0 (4 * n + 28) ew ∧ live R1 mw = some ⟨.ref, ds⟩ := by
    rcases hO with ⟨h1, -⟩ | ⟨m5, e5, rfl, hm⟩
    · rw [h1] at hdl; simp at hdl
    · exact ⟨m5, e5, by rw [hdl], hm⟩
  have f0 : (((sched kb).length : Int) = ((4 * n + 28 : Nat) : Int)) = True := eq_true (by omega)
  simp only [↓amD, amU, Nat.reduceBEq, Nat.reduceAdd, Nat.reduceSub, Nat.reduceMul, Nat.reduceMod, Nat.reducePow, Nat.reduceLT, Nat.reduceDiv, Int.reduceToNat, BitVec.reduceToNat, zipEnv, Int.reduceLE, Int.reduceLT, Int.reduceNeg, BitVec.reduceEq, Int.reduceAdd, Int.reduceSub, Int.reduceMul, Nat.reduceLeDiff, Int.reduceEq, lv_app0, lv_appk, set_app0, set_appk, List.append_assoc, List.append_nil, Nat.add_assoc, f0]
  refine kLoop_up (4 * n + 28) (fun i env rows => has env [(55, .raw (it (i : Int))), (54, .raw (it ((sched kb).length : Int))), (53, .sl L32 (rs1.length + 1) [] 0 (sched kb).length false), (11, .sl .ref mw [] 0 (4 * n + 28) ew)] ∧ rows = R1) ?_ ?_ ⟨?_, rfl⟩
  · rintro i hi env rows ⟨hh, rfl⟩ R hR
    simp only [has] at hh
    have c0 : ((i : Int) < ((sched kb).length : Int)) = True := eq_true (by omega)
    have c1 : ((i : Int) < ((4 * n + 28 : Nat) : Int)) = True := eq_true (by omega)
    have b0 : ((0 : Int) ≤ (i : Int)) = True := eq_true (by omega)
    have c2 := wz_succ i (by omega)
    have gw : (us (sched kb))[i]? = some (.raw (u32 ((sched kb).getD i 0#32))) := us_get (by omega)
    obtain ⟨rq, exq, hdq, -, hlq⟩ := hWs i (by omega)
    have kv := fun k => kValB rows k _ _ (BsIn.own (ex := exq) hlq 4 rfl) (by show 4 ≤ 1099511627776; omega)
    have ev : ((sched kb).getD i 0#32).setWidth 64 = valS (byW (WS kb i)) := by
      have := num_val (byW (WS kb i)) rfl
      rw [numS_byW] at this
      exact this
    simp only [↓amD, amU, Nat.reduceBEq, Nat.reduceAdd, Nat.reduceSub, Nat.reduceMul, Nat.reduceMod, Nat.reducePow, Nat.reduceLT, Nat.reduceDiv, Int.reduceToNat, BitVec.reduceToNat, zipEnv, Int.reduceLE, Int.reduceLT, Int.reduceNeg, BitVec.reduceEq, Int.reduceAdd, Int.reduceSub, Int.reduceMul, Nat.reduceLeDiff, Int.reduceEq, lv_app0, lv_appk, set_app0, set_appk, List.append_assoc, List.append_nil, Nat.add_assoc, hh, c0, c1, c2, b0, gw, m1, hmw, hdq, hv, kv, ev, decide_true]
    exact hR _ _ ⟨by simp only [has, ↓amD, amU, Nat.reduceBEq, Nat.reduceAdd, Nat.reduceSub, Nat.reduceMul, Nat.reduceMod, Nat.reducePow, Nat.reduceLT, Nat.reduceDiv, Int.reduceToNat, BitVec.reduceToNat, zipEnv, Int.reduceLE, Int.reduceLT, Int.reduceNeg, BitVec.reduceEq, Int.reduceAdd, Int.reduceSub, Int.reduceMul, Nat.reduceLeDiff, Int.reduceEq, hh], rfl⟩
  · rintro env rows ⟨hh, rfl⟩ R
    simp only [has] at hh
    have c0 : (((4 * n + 28 : Nat) : Int) < ((sched kb).length : Int)) = False := eq_false (by omega)
    simp only [↓amD, amU, Nat.reduceBEq, Nat.reduceAdd, Nat.reduceSub, Nat.reduceMul, Nat.reduceMod, Nat.reducePow, Nat.reduceLT, Nat.reduceDiv, Int.reduceToNat, BitVec.reduceToNat, zipEnv, Int.reduceLE, Int.reduceLT, Int.reduceNeg, BitVec.reduceEq, Int.reduceAdd, Int.reduceSub, Int.reduceMul, Nat.reduceLeDiff, Int.reduceEq, hh, c0]
  · simp only [has, ↓amD, amU, Nat.reduceBEq, Nat.reduceAdd, Nat.reduceSub, Nat.reduceMul, Nat.reduceMod, Nat.reducePow, Nat.reduceLT, Nat.reduceDiv, Int.reduceToNat, BitVec.reduceToNat, zipEnv, Int.reduceLE, Int.reduceLT, Int.reduceNeg, BitVec.reduceEq, Int.reduceAdd, Int.reduceSub, Int.reduceMul, Nat.reduceLeDiff, Int.reduceEq]
end Job
end Go.Am
