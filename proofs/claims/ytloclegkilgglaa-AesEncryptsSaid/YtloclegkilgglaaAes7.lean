/- AES: what was encrypted is decrypted again -/
import Derived.Test.YtloclegkilgglaaAes6
namespace Go.Am
set_option linter.unusedSimpArgs false
set_option linter.unusedVariables false
attribute [local congr] bnd_congr kCond_congr kGd_congr kPick_congr kCall_congr kIdx_congr kSlice_congr kLoop_congr cond_congr' aBin_congr aBounds_congr aApp_congr aCopy_congr kFn_congr
namespace Job
open Go.Am.F
set_option maxRecDepth 10000
theorem kCall_bs_raw {β : Type} {rd2 : D → Option β} {y : β} {pre : List (BitVec 8) → β → Bool} {out : List (BitVec 8) → β → D × Rows} {rows : Rows} {k : D → Rows → Prop} {d : D} {v : Value} {a : List (BitVec 8)} (h : BsIn rows d a) (h2 : rd2 (.raw v) = some y) (hp : pre a y = true)
    (hr : (noLst (out a y).1 && noLstRows (out a y).2) = true) : kCall (fn2 rdBs rd2 pre out) rows k [d, .raw v] = k (shift rows.length (out a y).1) (rows ++ shiftRows rows.length (out a y).2) := by
  obtain ⟨⟨d', hd', hb⟩, hn⟩ := h
  have hv : view rows 9 (.raw v) = some (.raw v) := rfl
  unfold kCall
  simp only [mapO, hd', hv, bnd, fn2_eq hb.rd h2 hp, hr, true_and]
  cases hh : hasRefL [d, .raw v] with
  | true => simp
  | false =>
    simp [hasRefL] at hh
    simp only [fn2_eq (hn hh.1).rd h2 hp]
    simp
theorem kCutI (rows : Rows) (k : D → Rows → Prop) (d : D) (p : List (BitVec 8)) (n : Int) (h : BsIn rows d p) (hp : p.length ≤ 9223372036854775807) (hp2 : (p.take n.toNat).length ≤ 1099511627776) : kCall fCut rows k [d, .raw (it n)] = k (.sl L8 (0 + rows.length) [] 0 (p.take n.toNat).length false) (rows ++ [some ⟨L8, bs (p.take n.toNat)⟩]) := by
  refine (kCall_bs_raw h (rdI_eq n) (by rw [Bool.and_eq_true, Nat.ble_eq, Nat.ble_eq]; exact ⟨hp, hp2⟩) rfl).trans ?_
  rfl
def bD (b : Bool) : D := .raw (.bool b)
theorem bD_inj (x y : Bool) (h : bD x = bD y) : x = y := by unfold bD at h; injection h with h; injection h
def keyS (p : List (BitVec 8)) (long : Bool) : List (BitVec 8) := bif long then p else p.take 16
theorem keyS_len (p : List (BitVec 8)) (long : Bool) (h : p.length = 32) : (keyS p long).length = 16 ∨ (keyS p long).length = 32 := by
  cases long
  · left; simp [keyS]; omega
  · right; simp [keyS, h]
noncomputable def fKey : Fn := fn2 (rdOf d32D) (rdOf bD) (fun p _ => decide (p.length = 32)) fun p l => outBs (keyS p l) false
theorem key_ok (C : Ctx) (hC : CtxOK C P) (hc : C.fn 24 = some fCut) : Meets C.glob P 10 (Fn.run fKey) := by
  refine fn_meets (m_law03_key C hC) fun ds rows r h => ?_
  obtain ⟨d, e, p, l, rfl, rfl, hd, he, hp, rfl⟩ := fn2_some h
  cases rdOf_some hd
  cases rdOf_some he
  simp only [decide_eq_true_eq] at hp
  refine ⟨rfl, afun_mk rfl ?_⟩
  clear h hd he
  unfold a_law03_key r_law03_key
  have ht : p.take 32 = p := List.take_of_length_le (by omega)
  cases l
  · simp only [d32D, bD, ↓amD, amU, Nat.reduceBEq, Nat.reduceAdd, Nat.reduceSub, Nat.reduceMul, Nat.reduceMod, Nat.reducePow, Nat.reduceLT, Nat.reduceDiv, Int.reduceToNat, BitVec.reduceToNat, zipEnv, Int.reduceLE, Int.reduceLT, Int.reduceNeg, BitVec.reduceEq, Int.reduceAdd, Int.reduceSub, Int.reduceMul, Nat.reduceLeDiff, Int.reduceEq, hc]
    rw [kCutI _ _ _ ((p.drop 0).take 32) 16 (BsIn.arr rfl (by omega)) (by rw [List.length_take]; omega) (by simp; omega)]
    simp only [↓amD, amU, Nat.reduceBEq, Nat.reduceAdd, Nat.reduceSub, Nat.reduceMul, Nat.reduceMod, Nat.reducePow, Nat.reduceLT, Nat.reduceDiv, Int.reduceToNat, BitVec.reduceToNat, zipEnv, Int.reduceLE, Int.reduceLT, Int.reduceNeg, BitVec.reduceEq, Int.reduceAdd, Int.reduceSub, Int.reduceMul, Nat.reduceLeDiff, Int.reduceEq, ht]
    exact Own.expo (l := keyS p false) (.inr ⟨1, false, by simp [bs_len, keyS], rfl⟩)
  · simp only [d32D, bD, ↓amD, amU, Nat.reduceBEq, Nat.reduceAdd, Nat.reduceSub, Nat.reduceMul, Nat.reduceMod, Nat.reducePow, Nat.reduceLT, Nat.reduceDiv, Int.reduceToNat, BitVec.reduceToNat, zipEnv, Int.reduceLE, Int.reduceLT, Int.reduceNeg, BitVec.reduceEq, Int.reduceAdd, Int.reduceSub, Int.reduceMul, Nat.reduceLeDiff, Int.reduceEq, hc]
    rw [kCutI _ _ _ ((p.drop 0).take 32) 32 (BsIn.arr rfl (by omega)) (by rw [List.length_take]; omega) (by simp; omega)]
    simp only [↓amD, amU, Nat.reduceBEq, Nat.reduceAdd, Nat.reduceSub, Nat.reduceMul, Nat.reduceMod, Nat.reducePow, Nat.reduceLT, Nat.reduceDiv, Int.reduceToNat, BitVec.reduceToNat, zipEnv, Int.reduceLE, Int.reduceLT, Int.reduceNeg, BitVec.reduceEq, Int.reduceAdd, Int.reduceSub, Int.reduceMul, Nat.reduceLeDiff, Int.reduceEq, ht]
    exact Own.expo (l := keyS p true) (.inr ⟨1, false, by simp [bs_len, keyS, hp], rfl⟩)
theorem kKey (rows : Rows) (k : D → Rows → Prop) (p : List (BitVec 8)) (l : Bool) (h : p.length = 32) : kCall fKey rows k [d32D p, bD l] = k (.sl L8 (0 + rows.length) [] 0 (keyS p l).length false) (rows ++ [some ⟨L8, bs (keyS p l)⟩]) := by
  refine (kCall_val (by simp [hasRefL, d32D, bD, hasRef, Sh.pure]) (r := outBs (keyS p l) false) ?_).trans ?_
  · rw [fKey, fn2_eq (rdOf_eq d32D_inj p) (rdOf_eq bD_inj l) (by simp [h])]
  · simp [outBs, shift, shiftRows, Sh.pure]
theorem back_law (C : Ctx) (h : AesC C) (ha : C.fn 8 = some fAwakeA) (hk : C.fn 10 = some fKey) (p : List (BitVec 8)) (long : Bool) (b c : List (BitVec 8)) (hp : p.length = 32) (hb : b.length = 16) (hc : c.length = 16) :
    afun C 4 r_law03_AesBack a_law03_AesBack [d32D p, bD long, b16D b, b16D c] [] (fun d _ => d = .raw (.bool true)) := by
  refine afun_mk rfl ?_
  unfold a_law03_AesBack r_law03_AesBack
  have hpf : (d32D p).fits (.ar 32 L8) = true := by simp [d32D, D.fits]
  have hky := fun rows k => kKey rows k p long hp
  simp only [rep_z]
  simp only [↓amD, amU, Nat.reduceBEq, Nat.reduceAdd, Nat.reduceSub, Nat.reduceMul, Nat.reduceMod, Nat.reducePow, Nat.reduceLT, Nat.reduceDiv, Int.reduceToNat, BitVec.reduceToNat, zipEnv, Int.reduceLE, Int.reduceLT, Int.reduceNeg, BitVec.reduceEq, Int.reduceAdd, Int.reduceSub, Int.reduceMul, Nat.reduceLeDiff, Int.reduceEq, hpf, b16_fits, ha, kAwakeA, hk, hky, h.n9, h.r9]
  refine new_run (kb := keyS p long) rfl (keyS_len p long hp) fun d rows' hK => ?_
  have l1 : live rows' 1 = some ⟨.ar 16 L8, [b16D b]⟩ := hK.frame 1 _ rfl
  have l2 : live rows' 2 = some ⟨.ar 16 L8, [b16D c]⟩ := hK.frame 2 _ rfl
  have hw : 8 ≤ (sched (keyS p long)).length ∧ (sched (keyS p long)).length ≤ 64 := by
    rw [sched_len]; rcases keyS_len p long hp with h | h <;> omega
  generalize sched (keyS p long) = w at *
  have hn := hw.1
  have ke := fun more k x hx => kEnc (rows := rows' ++ more) hK.own.push hw.1 hw.2 k x hx
  have kd := fun more k x hx => kDec (rows := rows' ++ more) hK.own.push hw.1 hw.2 k x hx
  have kb := fun more k => ke more k b hb
  have kc := fun more k => ke more k c hc
  have kdb := fun more k => kd more k b hb
  have e1 := encS_len w boxL b (w.length / 4 - 1) hb
  have e2 := encS_len w boxL c (w.length / 4 - 1) hc
  have e3 := decS_len w backL b (w.length / 4 - 1) hb
  have k1 := fun more k => kd more k _ e1
  have k2 := fun more k => ke more k _ e3
  have q1 := eq16 _ _ e1 e2
  have q2 := eq16 b c hb hc
  have q3 : decide (encS (keyR w) boxL (w.length / 4 - 1) b = encS (keyR w) boxL (w.length / 4 - 1) c) = decide (b = c) := by
    rw [decide_eq_decide]
    refine ⟨fun hh => ?_, fun hh => by rw [hh]⟩
    rw [← dec_enc_K w (w.length / 4 - 1) b hb, hh, dec_enc_K w _ c hc]
  have q4 := eq16 b b hb hb
  simp only [↓amD, amU, Nat.reduceBEq, Nat.reduceAdd, Nat.reduceSub, Nat.reduceMul, Nat.reduceMod, Nat.reducePow, Nat.reduceLT, Nat.reduceDiv, Int.reduceToNat, BitVec.reduceToNat, zipEnv, Int.reduceLE, Int.reduceLT, Int.reduceNeg, BitVec.reduceEq, Int.reduceAdd, Int.reduceSub, Int.reduceMul, Nat.reduceLeDiff, Int.reduceEq, lv_app0, lv_appk, set_app0, set_appk, List.append_assoc, List.append_nil, Nat.add_assoc, live_app l1, live_app l2, kA_fits, b16_fits, h.enc, h.dec, kb, kc, kdb, k1, k2, dec_enc_K _ _ _ hb, enc_dec_K _ _ _ hb, q1, q2, q3, q4, beq_self_eq_true, decide_true]
end Job
end Go.Am
