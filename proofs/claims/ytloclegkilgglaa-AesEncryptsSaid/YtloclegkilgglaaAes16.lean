/- AES: the reference's blocks -/
import Derived.Test.YtloclegkilgglaaAes15
namespace Go.Am
set_option linter.unusedSimpArgs false
set_option linter.unusedVariables false
attribute [local congr] bnd_congr kCond_congr kGd_congr kPick_congr kCall_congr kIdx_congr kSlice_congr kLoop_congr cond_congr' aBin_congr aBounds_congr aApp_congr aCopy_congr kFn_congr
namespace Job
open Go.Am.F
set_option maxRecDepth 10000
/-- a block, changed up to a place -/
def py (b : List (BitVec 8)) (f : Nat → BitVec 8) (k : Nat) : List (BitVec 8) := (List.range 16).map fun j => if j < k then f j else b.getD j 0#8
theorem py_len (b : List (BitVec 8)) (f : Nat → BitVec 8) (k : Nat) : (py b f k).length = 16 := by simp [py]
theorem py_set (b : List (BitVec 8)) (f : Nat → BitVec 8) {k : Nat} (h : k < 16) : (py b f k).set k (f k) = py b f (k + 1) := by
  refine List.ext_getElem (by simp [py]) fun j h1 h2 => ?_
  rw [List.getElem_set]
  simp only [py, List.getElem_map, List.getElem_range]
  by_cases e : k = j
  · subst e; simp
  · by_cases l : j < k
    · simp [e, eq_true l, eq_true (by omega : j < k + 1)]
    · simp [e, eq_false l, eq_false (by omega : ¬ j < k + 1)]
theorem py_get (b : List (BitVec 8)) (f : Nat → BitVec 8) {k j : Nat} (h : j < 16) (hk : k ≤ j) : (bs (py b f k))[j]? = some (.raw (u8 (b.getD j 0#8))) := by
  have : (py b f k).getD j 0#8 = b.getD j 0#8 := by
    simp only [py, List.getD, List.getElem?_map, List.getElem?_range h, Option.map_some, Option.getD_some, eq_false (by omega : ¬ j < k), if_false]
  rw [← this]
  exact bs_get (by rw [py_len]; exact h)
theorem py_0 {b : List (BitVec 8)} (f : Nat → BitVec 8) (h : b.length = 16) : py b f 0 = b := by
  refine List.ext_getElem (by simp [py, h]) fun j h1 h2 => ?_
  simp [py, List.getD, h2]
theorem py_all (b : List (BitVec 8)) (f : Nat → BitVec 8) : py b f 16 = (List.range 16).map f := by
  refine List.ext_getElem (by simp [py]) fun j h1 h2 => ?_
  have : j < 16 := by simpa [py] using h1
  simp [py, this]
theorem add_at {k b : List (BitVec 8)} (hk : k.length = 16) (hb : b.length = 16) : (List.range 16).map (fun j => b.getD j 0#8 ^^^ k.getD j 0#8) = addS k b := by
  refine List.ext_getElem (by simp [addS, hk, hb]) fun j h1 h2 => ?_
  have : j < 16 := by simpa using h1
  simp [addS, List.getD, hk, hb, this]
theorem keyR_at (w : List (BitVec 32)) (r j : Nat) (h : j < 16) : (keyR w r).getD j 0#8 = (byW (w.getD (4 * r + j / 4) 0#32)).getD (j % 4) 0#8 := by
  have : j = 0 ∨ j = 1 ∨ j = 2 ∨ j = 3 ∨ j = 4 ∨ j = 5 ∨ j = 6 ∨ j = 7 ∨ j = 8 ∨ j = 9 ∨ j = 10 ∨ j = 11 ∨ j = 12 ∨ j = 13 ∨ j = 14 ∨ j = 15 := by omega
  rcases this with rfl | rfl | rfl | rfl | rfl | rfl | rfl | rfl | rfl | rfl | rfl | rfl | rfl | rfl | rfl | rfl <;> rfl
def stR (K : Nat → List (BitVec 8)) (N : Nat) (b : List (BitVec 8)) : Nat → List (BitVec 8)
  | 0 => b
  | r + 1 => if r < N then encR K boxL b r else encS K boxL N b
theorem stR_len {K : Nat → List (BitVec 8)} {N : Nat} {b : List (BitVec 8)} (hK : ∀ r, (K r).length = 16) (hb : b.length = 16) : ∀ r, (stR K N b r).length = 16
  | 0 => hb
  | r + 1 => by
    show (if r < N then encR K boxL b r else encS K boxL N b).length = 16
    split
    · exact encR_len K boxL b hK hb r
    · exact add_len _ _ (hK _) (mov_len _ _ _)
def rw4 (a : List (BitVec 8)) (i : Nat) : BitVec 8 := gm (a.getD i 0#8) 2#8 ^^^ gm (a.getD ((i + 1) % 4) 0#8) 3#8 ^^^ a.getD ((i + 2) % 4) 0#8 ^^^ a.getD ((i + 3) % 4) 0#8
theorem mix_at (t : List (BitVec 8)) (c i : Nat) (hc : c < 4) (hi : i < 4) : mixI t fE (4 * c + i) = rw4 [t.getD (4 * c) 0#8, t.getD (4 * c + 1) 0#8, t.getD (4 * c + 2) 0#8, t.getD (4 * c + 3) 0#8] i := by
  have e1 : 4 * c + i - (4 * c + i) % 4 = 4 * c := by omega
  have e2 : (4 * c + i) % 4 = i := by omega
  have e3 : ∀ k, (4 * c + i + k) % 4 = (i + k) % 4 := fun k => by omega
  unfold mixI rw4 mrow
  rw [e1, e2, e3 1, e3 2, e3 3]
  have : i = 0 ∨ i = 1 ∨ i = 2 ∨ i = 3 := by omega
  rcases this with rfl | rfl | rfl | rfl <;> simp [fE, gm_one]
theorem mov_at (s : List (BitVec 8)) (c i : Nat) (hc : c < 4) (hi : i < 4) : movI s boxL 4 (4 * c + i) = bx boxL (s.getD (4 * ((c + i) % 4) + i) 0#8) := by
  unfold movI
  congr 2
  omega
noncomputable def fEncR : Fn := fn2 rdBs (rdOf b16D) (fun k b => (decide (k.length = 16) || decide (k.length = 32)) && decide (b.length = 16)) fun k b => (b16D (encS (keyR (sched k)) boxL (k.length / 4 + 6) b), [])
set_option maxHeartbeats 4000000 in
theorem encR_ok (C CW : Ctx) (hC : CtxOK C P) (hB : C.fn 37 = some fBoxesR) (hM : C.fn 14 = some fMulR) (nw : C.fn 21 = none) (rw_ : C.fnr 21 = some (afun CW 1 r_ref03_Words a_ref03_Words))
    (hB2 : CW.fn 37 = some fBoxesR) (hM2 : CW.fn 14 = some fMulR) : Meets C.glob P 18 (Fn.run fEncR) := by
  refine fn_meetsN (m_ref03_Encrypt C hC) fun ds rows r h => ?_
  obtain ⟨d0, d1, kb, b, rfl, rfl, g0, g1, hp, rfl⟩ := fn2_some h
  obtain ⟨x, hx⟩ := rdBs_nrm g0
  cases rdOf_some g1
  simp only [Bool.and_eq_true, Bool.or_eq_true, decide_eq_true_eq] at hp
  obtain ⟨hk, hb⟩ := hp
  refine ⟨rfl, _, .cons hx (.cons (.refl _) .nil), afun_mk rfl ?_⟩
  clear h g0 g1 hx
  obtain ⟨n, hn, h48⟩ : ∃ n, kb.length = 4 * n ∧ (n = 4 ∨ n = 8) := by
    rcases hk with hk | hk
    · exact ⟨4, by omega, .inl rfl⟩
    · exact ⟨8, by omega, .inr rfl⟩
  have hN : kb.length / 4 + 6 = n + 6 := by omega
  rw [hN]
  unfold a_ref03_Encrypt r_ref03_Encrypt
  simp only [rep_z16]
  simp only [b16D, ↓amD, amU, Nat.reduceBEq, Nat.reduceAdd, Nat.reduceSub, Nat.reduceMul, Nat.reduceMod, Nat.reducePow, Nat.reduceLT, Nat.reduceDiv, Int.reduceToNat, BitVec.reduceToNat, zipEnv, Int.reduceLE, Int.reduceLT, Int.reduceNeg, BitVec.reduceEq, Int.reduceAdd, Int.reduceSub, Int.reduceMul, Nat.reduceLeDiff, Int.reduceEq, lv_app0, lv_appk, set_app0, set_appk, List.append_assoc, List.append_nil, Nat.add_assoc, hB, kBoxesR, nw, rw_]
  refine words_runL (q := 0) CW hB2 hM2 hn h48 fun R1 dw hS => ?_
  obtain ⟨hkp, hbx, ⟨ds, hO, hdl, hW⟩, hfr⟩ := hS
  have l0 := hkp 0 _ rfl
  have l1 := hkp 1 _ rfl
  have l2 := hkp 2 _ rfl
  have z1 : ((4 * n + 28 : Nat) : Int).tdiv 4 = ((n + 7 : Nat) : Int) := by rcases h48 with rfl | rfl <;> rfl
  have z2 : wz ((n + 7 : Nat) : Int) = ((n + 7 : Nat) : Int) := wz_id (by omega)
  have z3 : wz (((n + 7 : Nat) : Int) - 1) = ((n + 6 : Nat) : Int) := by rw [wz_id (by omega)]; omega
  obtain ⟨mw, ew, rfl, hmw⟩ : ∃ mw ew, dw = .sl .ref mw [] 0 (4 * n + 28) ew ∧ live R1 mw = some ⟨.ref, ds⟩ := by
    rcases hO with ⟨h1, -⟩ | ⟨m5, e5, rfl, hm⟩
    · rw [h1] at hdl; simp at hdl
    · exact ⟨m5, e5, by rw [hdl], hm⟩
  clear hO hfr
  simp only [↓amD, amU, Nat.reduceBEq, Nat.reduceAdd, Nat.reduceSub, Nat.reduceMul, Nat.reduceMod, Nat.reducePow, Nat.reduceLT, Nat.reduceDiv, Int.reduceToNat, BitVec.reduceToNat, zipEnv, Int.reduceLE, Int.reduceLT, Int.reduceNeg, BitVec.reduceEq, Int.reduceAdd, Int.reduceSub, Int.reduceMul, Nat.reduceLeDiff, Int.reduceEq, lv_app0, lv_appk, set_app0, set_appk, List.append_assoc, List.append_nil, Nat.add_assoc, z1, z2, z3, l0]
  have KL : ∀ r, (keyR (sched kb) r).length = 16 := fun r => keyR_len _ _
  have b0 : ∀ n : Nat, ((0 : Int) ≤ (n : Int)) = True := fun n => eq_true (by omega)
  have bg : ∀ x : BitVec 8, ((x.toNat : Int) < 256) = True := fun x => eq_true (by have := x.isLt; omega)
  have lm2 := live_lt l2
  have lmw := live_lt hmw
  refine kLoop_up (n + 7) (fun r env rs => has env [(9, .raw (it (r : Int))), (7, .raw (it ((n + 6 : Nat) : Int))), (6, .sl .ref mw [] 0 (4 * n + 28) ew), (5, .sl L8 2 [] 0 256 true), (8, .ptr (.ar 16 L8) R1.length [0]), (4, .ptr (.ar 16 L8) 1 [0])] ∧
    Kept R1 rs ∧ live rs R1.length = some ⟨.ar 16 L8, [.agg (.ar 16 L8) (bs (stR (keyR (sched kb)) (n + 6) b r))]⟩) ?_ ?_ ⟨?_, Kept.app _ _, by rw [lv_app0]; rfl⟩
  · rintro r hr env rs ⟨hh, hK1, hs⟩ R hR
    simp only [has] at hh
    have hSl : (stR (keyR (sched kb)) (n + 6) b r).length = 16 := stR_len KL hb r
    have e0 : ((r : Int) ≤ ((n + 6 : Nat) : Int)) = True := eq_true (by omega)
    have er := wz_succ r (by omega)
    by_cases h0 : r = 0
    · have e1 : ((0 : Int) < (r : Int)) = False := eq_false (by omega)
      have hst : stR (keyR (sched kb)) (n + 6) b (r + 1) = addS (keyR (sched kb) r) (stR (keyR (sched kb)) (n + 6) b r) := by
        subst h0
        show (if 0 < n + 6 then encR (keyR (sched kb)) boxL b 0 else encS (keyR (sched kb)) boxL (n + 6) b) = _
        rw [if_pos (by omega)]; rfl
      rw [hst] at hR
      generalize stR (keyR (sched kb)) (n + 6) b r = XX at hs hSl hR
      simp only [↓amD, amU, Nat.reduceBEq, Nat.reduceAdd, Nat.reduceSub, Nat.reduceMul, Nat.reduceMod, Nat.reducePow, Nat.reduceLT, Nat.reduceDiv, Int.reduceToNat, BitVec.reduceToNat, zipEnv, Int.reduceLE, Int.reduceLT, Int.reduceNeg, BitVec.reduceEq, Int.reduceAdd, Int.reduceSub, Int.reduceMul, Nat.reduceLeDiff, Int.reduceEq, lv_app0, lv_appk, set_app0, set_appk, List.append_assoc, List.append_nil, Nat.add_assoc, hh, e0, e1]
      refine kLoop_up 16 (fun j env rt => has env [(120, .raw (it (j : Int))), (9, .raw (it (r : Int))), (7, .raw (it ((n + 6 : Nat) : Int))), (6, .sl .ref mw [] 0 (4 * n + 28) ew), (5, .sl L8 2 [] 0 256 true), (8, .ptr (.ar 16 L8) R1.length [0]), (4, .ptr (.ar 16 L8) 1 [0])] ∧ Kept R1 rt ∧ live rt R1.length = some ⟨.ar 16 L8, [.agg (.ar 16 L8) (bs (py XX (fun j => XX.getD j 0#8 ^^^ (keyR (sched kb) r).getD j 0#8) j))]⟩) ?_ ?_ ⟨?_, hK1, by rw [py_0 _ hSl]; exact hs⟩
      · rintro j hj env rt ⟨hv, hKt, ht⟩ R' hR'
        simp only [has] at hv
        have g0 : ((j : Int) < 16) = True := eq_true (by omega)
        have gj := wz_succ j (by omega)
        have a0 : wz (4 * (r : Int)) = ((4 * r : Nat) : Int) := by rw [wz_id (by omega)]; omega
        have a1 : (j : Int).tdiv 4 = ((j / 4 : Nat) : Int) := rfl
        have a2 : wz ((j / 4 : Nat) : Int) = ((j / 4 : Nat) : Int) := wz_id (by omega)
        have a3 : wz (((4 * r : Nat) : Int) + ((j / 4 : Nat) : Int)) = ((4 * r + j / 4 : Nat) : Int) := by rw [wz_id (by omega)]; omega
        have a4 : (j : Int).tmod 4 = ((j % 4 : Nat) : Int) := rfl
        have c1 : (((4 * r + j / 4 : Nat) : Int) < ((4 * n + 28 : Nat) : Int)) = True := eq_true (by omega)
        have c2 : (((j % 4 : Nat) : Int) < 4) = True := eq_true (by omega)
        obtain ⟨rq, exq, hdq, -, hlq⟩ := hW (4 * r + j / 4) (by omega)
        have m1 := hKt _ _ hmw
        have m2 := hKt _ _ hlq
        have gw : (bs (byW (WS kb (4 * r + j / 4))))[j % 4]? = some (.raw (u8 ((byW (WS kb (4 * r + j / 4))).getD (j % 4) 0#8))) := bs_get (by show j % 4 < 4; omega)
        have gk := keyR_at (sched kb) r j hj
        have gp := py_get XX (fun j => XX.getD j 0#8 ^^^ (keyR (sched kb) r).getD j 0#8) (k := j) (j := j) hj (Nat.le_refl _)
        have gset : (bs (py XX (fun j => XX.getD j 0#8 ^^^ (keyR (sched kb) r).getD j 0#8) j)).set j (.raw (u8 (XX.getD j 0#8 ^^^ (byW (WS kb (4 * r + j / 4))).getD (j % 4) 0#8))) = bs (py XX (fun j => XX.getD j 0#8 ^^^ (keyR (sched kb) r).getD j 0#8) (j + 1)) := by
          rw [bs_set, ← py_set XX _ hj]
          simp only [gk]
          rfl
        simp only [↓amD, amU, Nat.reduceBEq, Nat.reduceAdd, Nat.reduceSub, Nat.reduceMul, Nat.reduceMod, Nat.reducePow, Nat.reduceLT, Nat.reduceDiv, Int.reduceToNat, BitVec.reduceToNat, zipEnv, Int.reduceLE, Int.reduceLT, Int.reduceNeg, BitVec.reduceEq, Int.reduceAdd, Int.reduceSub, Int.reduceMul, Nat.reduceLeDiff, Int.reduceEq, lv_app0, lv_appk, set_app0, set_appk, List.append_assoc, List.append_nil, Nat.add_assoc, hv, g0, gj, a0, a1, a2, a3, a4, b0, c1, c2, m1, m2, hdq, gw, ht, gp, gset]
        exact hR' _ _ ⟨by simp only [has, ↓amD, amU, Nat.reduceBEq, Nat.reduceAdd, Nat.reduceSub, Nat.reduceMul, Nat.reduceMod, Nat.reducePow, Nat.reduceLT, Nat.reduceDiv, Int.reduceToNat, BitVec.reduceToNat, zipEnv, Int.reduceLE, Int.reduceLT, Int.reduceNeg, BitVec.reduceEq, Int.reduceAdd, Int.reduceSub, Int.reduceMul, Nat.reduceLeDiff, Int.reduceEq, hv], fun p row hp => by rw [live_set_ne (by have := live_lt hp; omega)]; exact hKt _ _ hp, live_set_same ht⟩
      · rintro env rt ⟨hv, hKt, ht⟩ R'
        simp only [has] at hv
        rw [py_all, add_at (keyR_len _ _) hSl] at ht
        simp only [↓amD, amU, Nat.reduceBEq, Nat.reduceAdd, Nat.reduceSub, Nat.reduceMul, Nat.reduceMod, Nat.reducePow, Nat.reduceLT, Nat.reduceDiv, Int.reduceToNat, BitVec.reduceToNat, zipEnv, Int.reduceLE, Int.reduceLT, Int.reduceNeg, BitVec.reduceEq, Int.reduceAdd, Int.reduceSub, Int.reduceMul, Nat.reduceLeDiff, Int.reduceEq, lv_app0, lv_appk, set_app0, set_appk, List.append_assoc, List.append_nil, Nat.add_assoc, hv, er]
        exact hR _ _ ⟨by simp only [has, ↓amD, amU, Nat.reduceBEq, Nat.reduceAdd, Nat.reduceSub, Nat.reduceMul, Nat.reduceMod, Nat.reducePow, Nat.reduceLT, Nat.reduceDiv, Int.reduceToNat, BitVec.reduceToNat, zipEnv, Int.reduceLE, Int.reduceLT, Int.reduceNeg, BitVec.reduceEq, Int.reduceAdd, Int.reduceSub, Int.reduceMul, Nat.reduceLeDiff, Int.reduceEq, hv], hKt, ht⟩
      · simp only [has, ↓amD, amU, Nat.reduceBEq, Nat.reduceAdd, Nat.reduceSub, Nat.reduceMul, Nat.reduceMod, Nat.reducePow, Nat.reduceLT, Nat.reduceDiv, Int.reduceToNat, BitVec.reduceToNat, zipEnv, Int.reduceLE, Int.reduceLT, Int.reduceNeg, BitVec.reduceEq, Int.reduceAdd, Int.reduceSub, Int.reduceMul, Nat.reduceLeDiff, Int.reduceEq, hh]
    · have e1 : ((0 : Int) < (r : Int)) = True := eq_true (by omega)
      obtain ⟨q, rfl⟩ : ∃ q, r = q + 1 := ⟨r - 1, by omega⟩
      have hsq : stR (keyR (sched kb)) (n + 6) b (q + 1) = encR (keyR (sched kb)) boxL b q := by
        show (if q < n + 6 then encR (keyR (sched kb)) boxL b q else encS (keyR (sched kb)) boxL (n + 6) b) = _
        rw [if_pos (by omega)]
      have hst : stR (keyR (sched kb)) (n + 6) b (q + 1 + 1) = addS (keyR (sched kb) (q + 1)) (if q + 1 < n + 6 then mixS (movS (encR (keyR (sched kb)) boxL b q) boxL 4) fE else movS (encR (keyR (sched kb)) boxL b q) boxL 4) := by
        show (if q + 1 < n + 6 then encR (keyR (sched kb)) boxL b (q + 1) else encS (keyR (sched kb)) boxL (n + 6) b) = _
        split
        · rfl
        · have : n + 6 = q + 1 := by omega
          rw [this]; rfl
      rw [hst] at hR
      rw [hsq] at hs hSl
      generalize q + 1 = r at *
      generalize encR (keyR (sched kb)) boxL b q = S at *
      simp only [↓amD, amU, Nat.reduceBEq, Nat.reduceAdd, Nat.reduceSub, Nat.reduceMul, Nat.reduceMod, Nat.reducePow, Nat.reduceLT, Nat.reduceDiv, Int.reduceToNat, BitVec.reduceToNat, zipEnv, Int.reduceLE, Int.reduceLT, Int.reduceNeg, BitVec.reduceEq, Int.reduceAdd, Int.reduceSub, Int.reduceMul, Nat.reduceLeDiff, Int.reduceEq, lv_app0, lv_appk, set_app0, set_appk, List.append_assoc, List.append_nil, Nat.add_assoc, hh, e0, e1, hs]
      refine kLoop_up 4 (fun c env rt => has env [(11, .raw (it (c : Int))), (10, .ptr (.ar 16 L8) rs.length [0]), (9, .raw (it (r : Int))), (7, .raw (it ((n + 6 : Nat) : Int))), (6, .sl .ref mw [] 0 (4 * n + 28) ew), (5, .sl L8 2 [] 0 256 true), (8, .ptr (.ar 16 L8) R1.length [0]), (4, .ptr (.ar 16 L8) 1 [0])] ∧ Kept rs rt ∧ live rt rs.length = some ⟨.ar 16 L8, [.agg (.ar 16 L8) (bs (py S (movI S boxL 4) (4 * c)))]⟩) ?_ ?_ ⟨?_, Kept.app _ _, by rw [lv_app0, Nat.mul_zero, py_0 _ hSl]; rfl⟩
      · rintro c hc env rt ⟨hv, hKt, ht⟩ R' hR'
        simp only [has] at hv
        have g0 : ((c : Int) < 4) = True := eq_true (by omega)
        have gc := wz_succ c (by omega)
        simp only [↓amD, amU, Nat.reduceBEq, Nat.reduceAdd, Nat.reduceSub, Nat.reduceMul, Nat.reduceMod, Nat.reducePow, Nat.reduceLT, Nat.reduceDiv, Int.reduceToNat, BitVec.reduceToNat, zipEnv, Int.reduceLE, Int.reduceLT, Int.reduceNeg, BitVec.reduceEq, Int.reduceAdd, Int.reduceSub, Int.reduceMul, Nat.reduceLeDiff, Int.reduceEq, lv_app0, lv_appk, set_app0, set_appk, List.append_assoc, List.append_nil, Nat.add_assoc, hv, g0]
        refine kLoop_up 4 (fun i env ru => has env [(12, .raw (it (i : Int))), (11, .raw (it (c : Int))), (10, .ptr (.ar 16 L8) rs.length [0]), (9, .raw (it (r : Int))), (7, .raw (it ((n + 6 : Nat) : Int))), (6, .sl .ref mw [] 0 (4 * n + 28) ew), (5, .sl L8 2 [] 0 256 true), (8, .ptr (.ar 16 L8) R1.length [0]), (4, .ptr (.ar 16 L8) 1 [0])] ∧ Kept rs ru ∧ live ru rs.length = some ⟨.ar 16 L8, [.agg (.ar 16 L8) (bs (py S (movI S boxL 4) (4 * c + i)))]⟩) ?_ ?_ ⟨?_, hKt, ht⟩
        · rintro i hi env ru ⟨hw, hKu, hu⟩ R2 hR2
          simp only [has] at hw
          have k0 : ((i : Int) < 4) = True := eq_true (by omega)
          have ki := wz_succ i (by omega)
          have a0 : wz (4 * (c : Int)) = ((4 * c : Nat) : Int) := by rw [wz_id (by omega)]; omega
          have a1 : wz (((4 * c : Nat) : Int) + (i : Int)) = ((4 * c + i : Nat) : Int) := by rw [wz_id (by omega)]; omega
          have a2 : wz ((c : Int) + (i : Int)) = ((c + i : Nat) : Int) := by rw [wz_id (by omega)]; omega
          have a3 : ((c + i : Nat) : Int).tmod 4 = (((c + i) % 4 : Nat) : Int) := rfl
          have a4 : wz (4 * (((c + i) % 4 : Nat) : Int)) = ((4 * ((c + i) % 4) : Nat) : Int) := by rw [wz_id (by omega)]; omega
          have a5 : wz (((4 * ((c + i) % 4) : Nat) : Int) + (i : Int)) = ((4 * ((c + i) % 4) + i : Nat) : Int) := by rw [wz_id (by omega)]; omega
          have c1 : (((4 * c + i : Nat) : Int) < 16) = True := eq_true (by omega)
          have c2 : (((4 * ((c + i) % 4) + i : Nat) : Int) < 16) = True := eq_true (by omega)
          have m1 := hKu _ _ hs
          have m2 := hKu _ _ (hK1 _ _ l2)
          have gs : (bs S)[4 * ((c + i) % 4) + i]? = some (.raw (u8 (S.getD (4 * ((c + i) % 4) + i) 0#8))) := bs_get (by omega)
          have gp := py_get S (movI S boxL 4) (k := 4 * c + i) (j := 4 * c + i) (by omega) (Nat.le_refl _)
          have gset : (bs (py S (movI S boxL 4) (4 * c + i))).set (4 * c + i) (.raw (u8 (bx boxL (S.getD (4 * ((c + i) % 4) + i) 0#8)))) = bs (py S (movI S boxL 4) (4 * c + (i + 1))) := by
            rw [← mov_at S c i hc hi, bs_set, py_set _ _ (by omega), Nat.add_assoc]
          simp only [↓amD, amU, Nat.reduceBEq, Nat.reduceAdd, Nat.reduceSub, Nat.reduceMul, Nat.reduceMod, Nat.reducePow, Nat.reduceLT, Nat.reduceDiv, Int.reduceToNat, BitVec.reduceToNat, zipEnv, Int.reduceLE, Int.reduceLT, Int.reduceNeg, BitVec.reduceEq, Int.reduceAdd, Int.reduceSub, Int.reduceMul, Nat.reduceLeDiff, Int.reduceEq, lv_app0, lv_appk, set_app0, set_appk, List.append_assoc, List.append_nil, Nat.add_assoc, hw, k0, ki, a0, a1, a2, a3, a4, a5, b0, c1, c2, m1, m2, gs, box_get, bg, hu, gp, gset]
          refine hR2 _ _ ⟨by simp only [has, ↓amD, amU, Nat.reduceBEq, Nat.reduceAdd, Nat.reduceSub, Nat.reduceMul, Nat.reduceMod, Nat.reducePow, Nat.reduceLT, Nat.reduceDiv, Int.reduceToNat, BitVec.reduceToNat, zipEnv, Int.reduceLE, Int.reduceLT, Int.reduceNeg, BitVec.reduceEq, Int.reduceAdd, Int.reduceSub, Int.reduceMul, Nat.reduceLeDiff, Int.reduceEq, hw], fun p row hp => by rw [live_set_ne (by have := live_lt hp; omega)]; exact hKu _ _ hp, live_set_same hu⟩
        · rintro env ru ⟨hw, hKu, hu⟩ R2
          simp only [has] at hw
          simp only [↓amD, amU, Nat.reduceBEq, Nat.reduceAdd, Nat.reduceSub, Nat.reduceMul, Nat.reduceMod, Nat.reducePow, Nat.reduceLT, Nat.reduceDiv, Int.reduceToNat, BitVec.reduceToNat, zipEnv, Int.reduceLE, Int.reduceLT, Int.reduceNeg, BitVec.reduceEq, Int.reduceAdd, Int.reduceSub, Int.reduceMul, Nat.reduceLeDiff, Int.reduceEq, lv_app0, lv_appk, set_app0, set_appk, List.append_assoc, List.append_nil, Nat.add_assoc, hw, gc]
          exact hR' _ _ ⟨by simp only [has, ↓amD, amU, Nat.reduceBEq, Nat.reduceAdd, Nat.reduceSub, Nat.reduceMul, Nat.reduceMod, Nat.reducePow, Nat.reduceLT, Nat.reduceDiv, Int.reduceToNat, BitVec.reduceToNat, zipEnv, Int.reduceLE, Int.reduceLT, Int.reduceNeg, BitVec.reduceEq, Int.reduceAdd, Int.reduceSub, Int.reduceMul, Nat.reduceLeDiff, Int.reduceEq, hw], hKu, hu⟩
        · simp only [has, ↓amD, amU, Nat.reduceBEq, Nat.reduceAdd, Nat.reduceSub, Nat.reduceMul, Nat.reduceMod, Nat.reducePow, Nat.reduceLT, Nat.reduceDiv, Int.reduceToNat, BitVec.reduceToNat, zipEnv, Int.reduceLE, Int.reduceLT, Int.reduceNeg, BitVec.reduceEq, Int.reduceAdd, Int.reduceSub, Int.reduceMul, Nat.reduceLeDiff, Int.reduceEq, hv]
      · rintro env rt ⟨hv, hKt, ht⟩ R'
        simp only [has] at hv
        have hT : py S (movI S boxL 4) (4 * 4) = movS S boxL 4 := py_all _ _
        rw [hT] at ht
        have hTl : (movS S boxL 4).length = 16 := mov_len _ _ _
        generalize movS S boxL 4 = T at *
        have m1 := hKt _ _ hs
        have hKR : Kept R1 (rt.set R1.length (some ⟨.ar 16 L8, [.agg (.ar 16 L8) (bs T)]⟩)) := fun p row hp => by
          rw [live_set_ne (by have := live_lt hp; omega)]; exact hKt _ _ (hK1 _ _ hp)
        have hsT := live_set_same (row' := ⟨.ar 16 L8, [.agg (.ar 16 L8) (bs T)]⟩) m1
        have ltR : R1.length < rs.length := live_lt hs
        have htT : live (rt.set R1.length (some ⟨.ar 16 L8, [.agg (.ar 16 L8) (bs T)]⟩)) rs.length = some ⟨.ar 16 L8, [.agg (.ar 16 L8) (bs T)]⟩ := by
          rw [live_set_ne (by omega)]; exact ht
        have hx0 : ∀ z, (D.agg (.ar 16 L8) (bs z)).set [] (.agg (.ar 16 L8) (bs T)) = some (.agg (.ar 16 L8) (bs T)) := fun z => rfl
        simp only [↓amD, amU, Nat.reduceBEq, Nat.reduceAdd, Nat.reduceSub, Nat.reduceMul, Nat.reduceMod, Nat.reducePow, Nat.reduceLT, Nat.reduceDiv, Int.reduceToNat, BitVec.reduceToNat, zipEnv, Int.reduceLE, Int.reduceLT, Int.reduceNeg, BitVec.reduceEq, Int.reduceAdd, Int.reduceSub, Int.reduceMul, Nat.reduceLeDiff, Int.reduceEq, lv_app0, lv_appk, set_app0, set_appk, List.append_assoc, List.append_nil, Nat.add_assoc, hv, ht, m1, hx0]
        generalize rt.set R1.length (some ⟨.ar 16 L8, [.agg (.ar 16 L8) (bs T)]⟩) = rv at hKR hsT htT ⊢
        by_cases hN : r < n + 6
        · rw [if_pos hN] at hR
          refine kLoop_up 4 (fun c env rt => has env [(13, .raw (it (c : Int))), (10, .ptr (.ar 16 L8) rs.length [0]), (9, .raw (it (r : Int))), (7, .raw (it ((n + 6 : Nat) : Int))), (6, .sl .ref mw [] 0 (4 * n + 28) ew), (5, .sl L8 2 [] 0 256 true), (8, .ptr (.ar 16 L8) R1.length [0]), (4, .ptr (.ar 16 L8) 1 [0])] ∧ Kept R1 rt ∧ live rt rs.length = some ⟨.ar 16 L8, [.agg (.ar 16 L8) (bs T)]⟩ ∧ live rt R1.length = some ⟨.ar 16 L8, [.agg (.ar 16 L8) (bs (py T (mixI T fE) (4 * c)))]⟩) ?_ ?_ ⟨?_, hKR, htT, by rw [Nat.mul_zero, py_0 _ hTl]; exact hsT⟩
          · rintro c hc env rt ⟨hv, hKt, ht, hsx⟩ R' hR'
            simp only [has] at hv
            have g0 : ((c : Int) < 4) = True := eq_true (by omega)
            have gN : ((r : Int) < ((n + 6 : Nat) : Int)) = True := eq_true (by omega)
            have gc := wz_succ c (by omega)
            have a0 : wz (4 * (c : Int)) = ((4 * c : Nat) : Int) := by rw [wz_id (by omega)]; omega
            have a1 : wz (((4 * c : Nat) : Int) + 1) = ((4 * c + 1 : Nat) : Int) := by rw [wz_id (by omega)]; omega
            have a2 : wz (((4 * c : Nat) : Int) + 2) = ((4 * c + 2 : Nat) : Int) := by rw [wz_id (by omega)]; omega
            have a3 : wz (((4 * c : Nat) : Int) + 3) = ((4 * c + 3 : Nat) : Int) := by rw [wz_id (by omega)]; omega
            have c0 : (((4 * c : Nat) : Int) < 16) = True := eq_true (by omega)
            have c1 : (((4 * c + 1 : Nat) : Int) < 16) = True := eq_true (by omega)
            have c2 : (((4 * c + 2 : Nat) : Int) < 16) = True := eq_true (by omega)
            have c3 : (((4 * c + 3 : Nat) : Int) < 16) = True := eq_true (by omega)
            have t0 : (bs T)[4 * c]? = some (.raw (u8 (T.getD (4 * c) 0#8))) := bs_get (by omega)
            have t1 : (bs T)[4 * c + 1]? = some (.raw (u8 (T.getD (4 * c + 1) 0#8))) := bs_get (by omega)
            have t2 : (bs T)[4 * c + 2]? = some (.raw (u8 (T.getD (4 * c + 2) 0#8))) := bs_get (by omega)
            have t3 : (bs T)[4 * c + 3]? = some (.raw (u8 (T.getD (4 * c + 3) 0#8))) := bs_get (by omega)
            simp only [↓amD, amU, Nat.reduceBEq, Nat.reduceAdd, Nat.reduceSub, Nat.reduceMul, Nat.reduceMod, Nat.reducePow, Nat.reduceLT, Nat.reduceDiv, Int.reduceToNat, BitVec.reduceToNat, zipEnv, Int.reduceLE, Int.reduceLT, Int.reduceNeg, BitVec.reduceEq, Int.reduceAdd, Int.reduceSub, Int.reduceMul, Nat.reduceLeDiff, Int.reduceEq, lv_app0, lv_appk, set_app0, set_appk, List.append_assoc, List.append_nil, Nat.add_assoc, hv, g0, gN, a0, a1, a2, a3, b0, c0, c1, c2, c3, ht, t0, t1, t2, t3]
            have hmix := fun i hi => mix_at T c i hc hi
            have ltt := live_lt ht
            generalize hA : ([T.getD (4 * c) 0#8, T.getD (4 * c + 1) 0#8, T.getD (4 * c + 2) 0#8, T.getD (4 * c + 3) 0#8] : List (BitVec 8)) = A at hmix
            have hAl : A.length = 4 := by rw [← hA]; rfl
            refine kLoop_up 4 (fun i env ru => has env [(15, .raw (it (i : Int))), (13, .raw (it (c : Int))), (14, .ptr (.ar 4 L8) rt.length [0]), (10, .ptr (.ar 16 L8) rs.length [0]), (9, .raw (it (r : Int))), (7, .raw (it ((n + 6 : Nat) : Int))), (6, .sl .ref mw [] 0 (4 * n + 28) ew), (5, .sl L8 2 [] 0 256 true), (8, .ptr (.ar 16 L8) R1.length [0]), (4, .ptr (.ar 16 L8) 1 [0])] ∧ Kept R1 ru ∧ live ru rs.length = some ⟨.ar 16 L8, [.agg (.ar 16 L8) (bs T)]⟩ ∧ live ru rt.length = some ⟨.ar 4 L8, [.agg (.ar 4 L8) (bs A)]⟩ ∧ live ru R1.length = some ⟨.ar 16 L8, [.agg (.ar 16 L8) (bs (py T (mixI T fE) (4 * c + i)))]⟩) ?_ ?_ ⟨?_, hKt.trans (Kept.app _ _), Kept.app _ _ _ _ ht, ?_, Kept.app _ _ _ _ hsx⟩
            · rintro i hi env ru ⟨hw, hKu, hu, hua, hus⟩ R2 hR2
              simp only [has] at hw
              have k0 : ((i : Int) < 4) = True := eq_true (by omega)
              have ki := wz_succ i (by omega)
              have d0 : wz (((4 * c : Nat) : Int) + (i : Int)) = ((4 * c + i : Nat) : Int) := by rw [wz_id (by omega)]; omega
              have d2 : wz ((i : Int) + 2) = ((i + 2 : Nat) : Int) := by rw [wz_id (by omega)]; omega
              have d3 : wz ((i : Int) + 3) = ((i + 3 : Nat) : Int) := by rw [wz_id (by omega)]; omega
              have m1 : ((i + 1 : Nat) : Int).tmod 4 = (((i + 1) % 4 : Nat) : Int) := rfl
              have m2 : ((i + 2 : Nat) : Int).tmod 4 = (((i + 2) % 4 : Nat) : Int) := rfl
              have m3 : ((i + 3 : Nat) : Int).tmod 4 = (((i + 3) % 4 : Nat) : Int) := rfl
              have f1 : ((((i + 1) % 4 : Nat) : Int) < 4) = True := eq_true (by omega)
              have f2 : ((((i + 2) % 4 : Nat) : Int) < 4) = True := eq_true (by omega)
              have f3 : ((((i + 3) % 4 : Nat) : Int) < 4) = True := eq_true (by omega)
              have f4 : (((4 * c + i : Nat) : Int) < 16) = True := eq_true (by omega)
              have v0 : (bs A)[i]? = some (.raw (u8 (A.getD i 0#8))) := bs_get (by omega)
              have v1 : (bs A)[(i + 1) % 4]? = some (.raw (u8 (A.getD ((i + 1) % 4) 0#8))) := bs_get (by omega)
              have v2 : (bs A)[(i + 2) % 4]? = some (.raw (u8 (A.getD ((i + 2) % 4) 0#8))) := bs_get (by omega)
              have v3 : (bs A)[(i + 3) % 4]? = some (.raw (u8 (A.getD ((i + 3) % 4) 0#8))) := bs_get (by omega)
              have gp := py_get T (mixI T fE) (k := 4 * c + i) (j := 4 * c + i) (by omega) (Nat.le_refl _)
              have gset : (bs (py T (mixI T fE) (4 * c + i))).set (4 * c + i) (.raw (u8 (gm (A.getD i 0#8) 2#8 ^^^ gm (A.getD ((i + 1) % 4) 0#8) 3#8 ^^^ A.getD ((i + 2) % 4) 0#8 ^^^ A.getD ((i + 3) % 4) 0#8))) = bs (py T (mixI T fE) (4 * c + (i + 1))) := by
                rw [show gm (A.getD i 0#8) 2#8 ^^^ gm (A.getD ((i + 1) % 4) 0#8) 3#8 ^^^ A.getD ((i + 2) % 4) 0#8 ^^^ A.getD ((i + 3) % 4) 0#8 = mixI T fE (4 * c + i) from (hmix i hi).symm, bs_set, py_set _ _ (by omega), Nat.add_assoc]
              simp only [↓amD, amU, Nat.reduceBEq, Nat.reduceAdd, Nat.reduceSub, Nat.reduceMul, Nat.reduceMod, Nat.reducePow, Nat.reduceLT, Nat.reduceDiv, Int.reduceToNat, BitVec.reduceToNat, zipEnv, Int.reduceLE, Int.reduceLT, Int.reduceNeg, BitVec.reduceEq, Int.reduceAdd, Int.reduceSub, Int.reduceMul, Nat.reduceLeDiff, Int.reduceEq, lv_app0, lv_appk, set_app0, set_appk, List.append_assoc, List.append_nil, Nat.add_assoc, hw, k0, ki, a0, d0, d2, d3, m1, m2, m3, b0, f1, f2, f3, f4, hua, v0, v1, v2, v3, hM, kMulR, hus, gp, gset]
              exact hR2 _ _ ⟨by simp only [has, ↓amD, amU, Nat.reduceBEq, Nat.reduceAdd, Nat.reduceSub, Nat.reduceMul, Nat.reduceMod, Nat.reducePow, Nat.reduceLT, Nat.reduceDiv, Int.reduceToNat, BitVec.reduceToNat, zipEnv, Int.reduceLE, Int.reduceLT, Int.reduceNeg, BitVec.reduceEq, Int.reduceAdd, Int.reduceSub, Int.reduceMul, Nat.reduceLeDiff, Int.reduceEq, hw], fun p row hp => by rw [live_set_ne (by have := live_lt hp; omega)]; exact hKu _ _ hp, by rw [live_set_ne (by omega)]; exact hu, by rw [live_set_ne (by omega)]; exact hua, live_set_same hus⟩
            · rintro env ru ⟨hw, hKu, hu, hua, hus⟩ R2
              simp only [has] at hw
              simp only [↓amD, amU, Nat.reduceBEq, Nat.reduceAdd, Nat.reduceSub, Nat.reduceMul, Nat.reduceMod, Nat.reducePow, Nat.reduceLT, Nat.reduceDiv, Int.reduceToNat, BitVec.reduceToNat, zipEnv, Int.reduceLE, Int.reduceLT, Int.reduceNeg, BitVec.reduceEq, Int.reduceAdd, Int.reduceSub, Int.reduceMul, Nat.reduceLeDiff, Int.reduceEq, lv_app0, lv_appk, set_app0, set_appk, List.append_assoc, List.append_nil, Nat.add_assoc, hw, gc]
              exact hR' _ _ ⟨by simp only [has, ↓amD, amU, Nat.reduceBEq, Nat.reduceAdd, Nat.reduceSub, Nat.reduceMul, Nat.reduceMod, Nat.reducePow, Nat.reduceLT, Nat.reduceDiv, Int.reduceToNat, BitVec.reduceToNat, zipEnv, Int.reduceLE, Int.reduceLT, Int.reduceNeg, BitVec.reduceEq, Int.reduceAdd, Int.reduceSub, Int.reduceMul, Nat.reduceLeDiff, Int.reduceEq, hw], hKu, hu, hus⟩
            · simp only [has, ↓amD, amU, Nat.reduceBEq, Nat.reduceAdd, Nat.reduceSub, Nat.reduceMul, Nat.reduceMod, Nat.reducePow, Nat.reduceLT, Nat.reduceDiv, Int.reduceToNat, BitVec.reduceToNat, zipEnv, Int.reduceLE, Int.reduceLT, Int.reduceNeg, BitVec.reduceEq, Int.reduceAdd, Int.reduceSub, Int.reduceMul, Nat.reduceLeDiff, Int.reduceEq, hv]
            · rw [lv_app0, ← hA]; rfl
          · rintro env rt ⟨hv, hKt, ht, hsx⟩ R'
            simp only [has] at hv
            have hX : py T (mixI T fE) (4 * 4) = mixS T fE := py_all _ _
            rw [hX] at hsx
            have hSl : (mixS T fE).length = 16 := mix_len16 _ _
            generalize mixS T fE = XX at *
            simp only [↓amD, amU, Nat.reduceBEq, Nat.reduceAdd, Nat.reduceSub, Nat.reduceMul, Nat.reduceMod, Nat.reducePow, Nat.reduceLT, Nat.reduceDiv, Int.reduceToNat, BitVec.reduceToNat, zipEnv, Int.reduceLE, Int.reduceLT, Int.reduceNeg, BitVec.reduceEq, Int.reduceAdd, Int.reduceSub, Int.reduceMul, Nat.reduceLeDiff, Int.reduceEq, lv_app0, lv_appk, set_app0, set_appk, List.append_assoc, List.append_nil, Nat.add_assoc, hv]
            refine kLoop_up 16 (fun j env rt => has env [(120, .raw (it (j : Int))), (9, .raw (it (r : Int))), (7, .raw (it ((n + 6 : Nat) : Int))), (6, .sl .ref mw [] 0 (4 * n + 28) ew), (5, .sl L8 2 [] 0 256 true), (8, .ptr (.ar 16 L8) R1.length [0]), (4, .ptr (.ar 16 L8) 1 [0])] ∧ Kept R1 rt ∧ live rt R1.length = some ⟨.ar 16 L8, [.agg (.ar 16 L8) (bs (py XX (fun j => XX.getD j 0#8 ^^^ (keyR (sched kb) r).getD j 0#8) j))]⟩) ?_ ?_ ⟨?_, hKt, by rw [py_0 _ hSl]; exact hsx⟩
            · rintro j hj env rt ⟨hv, hKt, ht⟩ R' hR'
              simp only [has] at hv
              have g0 : ((j : Int) < 16) = True := eq_true (by omega)
              have gj := wz_succ j (by omega)
              have a0 : wz (4 * (r : Int)) = ((4 * r : Nat) : Int) := by rw [wz_id (by omega)]; omega
              have a1 : (j : Int).tdiv 4 = ((j / 4 : Nat) : Int) := rfl
              have a2 : wz ((j / 4 : Nat) : Int) = ((j / 4 : Nat) : Int) := wz_id (by omega)
              have a3 : wz (((4 * r : Nat) : Int) + ((j / 4 : Nat) : Int)) = ((4 * r + j / 4 : Nat) : Int) := by rw [wz_id (by omega)]; omega
              have a4 : (j : Int).tmod 4 = ((j % 4 : Nat) : Int) := rfl
              have c1 : (((4 * r + j / 4 : Nat) : Int) < ((4 * n + 28 : Nat) : Int)) = True := eq_true (by omega)
              have c2 : (((j % 4 : Nat) : Int) < 4) = True := eq_true (by omega)
              obtain ⟨rq, exq, hdq, -, hlq⟩ := hW (4 * r + j / 4) (by omega)
              have m1 := hKt _ _ hmw
              have m2 := hKt _ _ hlq
              have gw : (bs (byW (WS kb (4 * r + j / 4))))[j % 4]? = some (.raw (u8 ((byW (WS kb (4 * r + j / 4))).getD (j % 4) 0#8))) := bs_get (by show j % 4 < 4; omega)
              have gk := keyR_at (sched kb) r j hj
              have gp := py_get XX (fun j => XX.getD j 0#8 ^^^ (keyR (sched kb) r).getD j 0#8) (k := j) (j := j) hj (Nat.le_refl _)
              have gset : (bs (py XX (fun j => XX.getD j 0#8 ^^^ (keyR (sched kb) r).getD j 0#8) j)).set j (.raw (u8 (XX.getD j 0#8 ^^^ (byW (WS kb (4 * r + j / 4))).getD (j % 4) 0#8))) = bs (py XX (fun j => XX.getD j 0#8 ^^^ (keyR (sched kb) r).getD j 0#8) (j + 1)) := by
                rw [bs_set, ← py_set XX _ hj]
                simp only [gk]
                rfl
              simp only [↓amD, amU, Nat.reduceBEq, Nat.reduceAdd, Nat.reduceSub, Nat.reduceMul, Nat.reduceMod, Nat.reducePow, Nat.reduceLT, Nat.reduceDiv, Int.reduceToNat, BitVec.reduceToNat, zipEnv, Int.reduceLE, Int.reduceLT, Int.reduceNeg, BitVec.reduceEq, Int.reduceAdd, Int.reduceSub, Int.reduceMul, Nat.reduceLeDiff, Int.reduceEq, lv_app0, lv_appk, set_app0, set_appk, List.append_assoc, List.append_nil, Nat.add_assoc, hv, g0, gj, a0, a1, a2, a3, a4, b0, c1, c2, m1, m2, hdq, gw, ht, gp, gset]
              exact hR' _ _ ⟨by simp only [has, ↓amD, amU, Nat.reduceBEq, Nat.reduceAdd, Nat.reduceSub, Nat.reduceMul, Nat.reduceMod, Nat.reducePow, Nat.reduceLT, Nat.reduceDiv, Int.reduceToNat, BitVec.reduceToNat, zipEnv, Int.reduceLE, Int.reduceLT, Int.reduceNeg, BitVec.reduceEq, Int.reduceAdd, Int.reduceSub, Int.reduceMul, Nat.reduceLeDiff, Int.reduceEq, hv], fun p row hp => by rw [live_set_ne (by have := live_lt hp; omega)]; exact hKt _ _ hp, live_set_same ht⟩
            · rintro env rt ⟨hv, hKt, ht⟩ R'
              simp only [has] at hv
              rw [py_all, add_at (keyR_len _ _) hSl] at ht
              simp only [↓amD, amU, Nat.reduceBEq, Nat.reduceAdd, Nat.reduceSub, Nat.reduceMul, Nat.reduceMod, Nat.reducePow, Nat.reduceLT, Nat.reduceDiv, Int.reduceToNat, BitVec.reduceToNat, zipEnv, Int.reduceLE, Int.reduceLT, Int.reduceNeg, BitVec.reduceEq, Int.reduceAdd, Int.reduceSub, Int.reduceMul, Nat.reduceLeDiff, Int.reduceEq, lv_app0, lv_appk, set_app0, set_appk, List.append_assoc, List.append_nil, Nat.add_assoc, hv, er]
              exact hR _ _ ⟨by simp only [has, ↓amD, amU, Nat.reduceBEq, Nat.reduceAdd, Nat.reduceSub, Nat.reduceMul, Nat.reduceMod, Nat.reducePow, Nat.reduceLT, Nat.reduceDiv, Int.reduceToNat, BitVec.reduceToNat, zipEnv, Int.reduceLE, Int.reduceLT, Int.reduceNeg, BitVec.reduceEq, Int.reduceAdd, Int.reduceSub, Int.reduceMul, Nat.reduceLeDiff, Int.reduceEq, hv], hKt, ht⟩
            · simp only [has, ↓amD, amU, Nat.reduceBEq, Nat.reduceAdd, Nat.reduceSub, Nat.reduceMul, Nat.reduceMod, Nat.reducePow, Nat.reduceLT, Nat.reduceDiv, Int.reduceToNat, BitVec.reduceToNat, zipEnv, Int.reduceLE, Int.reduceLT, Int.reduceNeg, BitVec.reduceEq, Int.reduceAdd, Int.reduceSub, Int.reduceMul, Nat.reduceLeDiff, Int.reduceEq, hv]
          · simp only [has, ↓amD, amU, Nat.reduceBEq, Nat.reduceAdd, Nat.reduceSub, Nat.reduceMul, Nat.reduceMod, Nat.reducePow, Nat.reduceLT, Nat.reduceDiv, Int.reduceToNat, BitVec.reduceToNat, zipEnv, Int.reduceLE, Int.reduceLT, Int.reduceNeg, BitVec.reduceEq, Int.reduceAdd, Int.reduceSub, Int.reduceMul, Nat.reduceLeDiff, Int.reduceEq, hv]
        · rw [if_neg hN] at hR
          have hSl := hTl
          generalize T = XX at *
          refine kLoop_up 0 (fun _ env rt => has env [(13, .raw (it 0)), (9, .raw (it (r : Int))), (7, .raw (it ((n + 6 : Nat) : Int))), (6, .sl .ref mw [] 0 (4 * n + 28) ew), (5, .sl L8 2 [] 0 256 true), (8, .ptr (.ar 16 L8) R1.length [0]), (4, .ptr (.ar 16 L8) 1 [0])] ∧ Kept R1 rt ∧ live rt R1.length = some ⟨.ar 16 L8, [.agg (.ar 16 L8) (bs XX)]⟩) ?_ ?_ ⟨?_, hKR, hsT⟩
          · rintro c hc
            omega
          · rintro env rt ⟨hv, hKt, hsx⟩ R'
            simp only [has] at hv
            have gN : ((r : Int) < ((n + 6 : Nat) : Int)) = False := eq_false (by omega)
            simp only [↓amD, amU, Nat.reduceBEq, Nat.reduceAdd, Nat.reduceSub, Nat.reduceMul, Nat.reduceMod, Nat.reducePow, Nat.reduceLT, Nat.reduceDiv, Int.reduceToNat, BitVec.reduceToNat, zipEnv, Int.reduceLE, Int.reduceLT, Int.reduceNeg, BitVec.reduceEq, Int.reduceAdd, Int.reduceSub, Int.reduceMul, Nat.reduceLeDiff, Int.reduceEq, lv_app0, lv_appk, set_app0, set_appk, List.append_assoc, List.append_nil, Nat.add_assoc, hv, gN]
            refine kLoop_up 16 (fun j env rt => has env [(120, .raw (it (j : Int))), (9, .raw (it (r : Int))), (7, .raw (it ((n + 6 : Nat) : Int))), (6, .sl .ref mw [] 0 (4 * n + 28) ew), (5, .sl L8 2 [] 0 256 true), (8, .ptr (.ar 16 L8) R1.length [0]), (4, .ptr (.ar 16 L8) 1 [0])] ∧ Kept R1 rt ∧ live rt R1.length = some ⟨.ar 16 L8, [.agg (.ar 16 L8) (bs (py XX (fun j => XX.getD j 0#8 ^^^ (keyR (sched kb) r).getD j 0#8) j))]⟩) ?_ ?_ ⟨?_, hKt, by rw [py_0 _ hSl]; exact hsx⟩
            · rintro j hj env rt ⟨hv, hKt, ht⟩ R' hR'
              simp only [has] at hv
              have g0 : ((j : Int) < 16) = True := eq_true (by omega)
              have gj := wz_succ j (by omega)
              have a0 : wz (4 * (r : Int)) = ((4 * r : Nat) : Int) := by rw [wz_id (by omega)]; omega
              have a1 : (j : Int).tdiv 4 = ((j / 4 : Nat) : Int) := rfl
              have a2 : wz ((j / 4 : Nat) : Int) = ((j / 4 : Nat) : Int) := wz_id (by omega)
              have a3 : wz (((4 * r : Nat) : Int) + ((j / 4 : Nat) : Int)) = ((4 * r + j / 4 : Nat) : Int) := by rw [wz_id (by omega)]; omega
              have a4 : (j : Int).tmod 4 = ((j % 4 : Nat) : Int) := rfl
              have c1 : (((4 * r + j / 4 : Nat) : Int) < ((4 * n + 28 : Nat) : Int)) = True := eq_true (by omega)
              have c2 : (((j % 4 : Nat) : Int) < 4) = True := eq_true (by omega)
              obtain ⟨rq, exq, hdq, -, hlq⟩ := hW (4 * r + j / 4) (by omega)
              have m1 := hKt _ _ hmw
              have m2 := hKt _ _ hlq
              have gw : (bs (byW (WS kb (4 * r + j / 4))))[j % 4]? = some (.raw (u8 ((byW (WS kb (4 * r + j / 4))).getD (j % 4) 0#8))) := bs_get (by show j % 4 < 4; omega)
              have gk := keyR_at (sched kb) r j hj
              have gp := py_get XX (fun j => XX.getD j 0#8 ^^^ (keyR (sched kb) r).getD j 0#8) (k := j) (j := j) hj (Nat.le_refl _)
              have gset : (bs (py XX (fun j => XX.getD j 0#8 ^^^ (keyR (sched kb) r).getD j 0#8) j)).set j (.raw (u8 (XX.getD j 0#8 ^^^ (byW (WS kb (4 * r + j / 4))).getD (j % 4) 0#8))) = bs (py XX (fun j => XX.getD j 0#8 ^^^ (keyR (sched kb) r).getD j 0#8) (j + 1)) := by
                rw [bs_set, ← py_set XX _ hj]
                simp only [gk]
                rfl
              simp only [↓amD, amU, Nat.reduceBEq, Nat.reduceAdd, Nat.reduceSub, Nat.reduceMul, Nat.reduceMod, Nat.reducePow, Nat.reduceLT, Nat.reduceDiv, Int.reduceToNat, BitVec.reduceToNat, zipEnv, Int.reduceLE, Int.reduceLT, Int.reduceNeg, BitVec.reduceEq, Int.reduceAdd, Int.reduceSub, Int.reduceMul, Nat.reduceLeDiff, Int.reduceEq, lv_app0, lv_appk, set_app0, set_appk, List.append_assoc, List.append_nil, Nat.add_assoc, hv, g0, gj, a0, a1, a2, a3, a4, b0, c1, c2, m1, m2, hdq, gw, ht, gp, gset]
              exact hR' _ _ ⟨by simp only [has, ↓amD, amU, Nat.reduceBEq, Nat.reduceAdd, Nat.reduceSub, Nat.reduceMul, Nat.reduceMod, Nat.reducePow, Nat.reduceLT, Nat.reduceDiv, Int.reduceToNat, BitVec.reduceToNat, zipEnv, Int.reduceLE, Int.reduceLT, Int.reduceNeg, BitVec.reduceEq, Int.reduceAdd, Int.reduceSub, Int.reduceMul, Nat.reduceLeDiff, Int.reduceEq, hv], fun p row hp => by rw [live_set_ne (by have := live_lt hp; omega)]; exact hKt _ _ hp, live_set_same ht⟩
            · rintro env rt ⟨hv, hKt, ht⟩ R'
              simp only [has] at hv
              rw [py_all, add_at (keyR_len _ _) hSl] at ht
              simp only [↓amD, amU, Nat.reduceBEq, Nat.reduceAdd, Nat.reduceSub, Nat.reduceMul, Nat.reduceMod, Nat.reducePow, Nat.reduceLT, Nat.reduceDiv, Int.reduceToNat, BitVec.reduceToNat, zipEnv, Int.reduceLE, Int.reduceLT, Int.reduceNeg, BitVec.reduceEq, Int.reduceAdd, Int.reduceSub, Int.reduceMul, Nat.reduceLeDiff, Int.reduceEq, lv_app0, lv_appk, set_app0, set_appk, List.append_assoc, List.append_nil, Nat.add_assoc, hv, er]
              exact hR _ _ ⟨by simp only [has, ↓amD, amU, Nat.reduceBEq, Nat.reduceAdd, Nat.reduceSub, Nat.reduceMul, Nat.reduceMod, Nat.reducePow, Nat.reduceLT, Nat.reduceDiv, Int.reduceToNat, BitVec.reduceToNat, zipEnv, Int.reduceLE, Int.reduceLT, Int.reduceNeg, BitVec.reduceEq, Int.reduceAdd, Int.reduceSub, Int.reduceMul, Nat.reduceLeDiff, Int.reduceEq, hv], hKt, ht⟩
            · simp only [has, ↓amD, amU, Nat.reduceBEq, Nat.reduceAdd, Nat.reduceSub, Nat.reduceMul, Nat.reduceMod, Nat.reducePow, Nat.reduceLT, Nat.reduceDiv, Int.reduceToNat, BitVec.reduceToNat, zipEnv, Int.reduceLE, Int.reduceLT, Int.reduceNeg, BitVec.reduceEq, Int.reduceAdd, Int.reduceSub, Int.reduceMul, Nat.reduceLeDiff, Int.reduceEq, hv]
          · simp only [has, ↓amD, amU, Nat.reduceBEq, Nat.reduceAdd, Nat.reduceSub, Nat.reduceMul, Nat.reduceMod, Nat.reducePow, Nat.reduceLT, Nat.reduceDiv, Int.reduceToNat, BitVec.reduceToNat, zipEnv, Int.reduceLE, Int.reduceLT, Int.reduceNeg, BitVec.reduceEq, Int.reduceAdd, Int.reduceSub, Int.reduceMul, Nat.reduceLeDiff, Int.reduceEq, hv]
      · simp only [has, ↓amD, amU, Nat.reduceBEq, Nat.reduceAdd, Nat.reduceSub, Nat.reduceMul, Nat.reduceMod, Nat.reducePow, Nat.reduceLT, Nat.reduceDiv, Int.reduceToNat, BitVec.reduceToNat, zipEnv, Int.reduceLE, Int.reduceLT, Int.reduceNeg, BitVec.reduceEq, Int.reduceAdd, Int.reduceSub, Int.reduceMul, Nat.reduceLeDiff, Int.reduceEq, hh]
  · rintro env rs ⟨hh, hK1, hs⟩ R
    simp only [has] at hh
    have e0 : (((n + 7 : Nat) : Int) ≤ ((n + 6 : Nat) : Int)) = False := eq_false (by omega)
    have hst : stR (keyR (sched kb)) (n + 6) b (n + 7) = encS (keyR (sched kb)) boxL (n + 6) b := by
      show (if n + 6 < n + 6 then encR (keyR (sched kb)) boxL b (n + 6) else encS (keyR (sched kb)) boxL (n + 6) b) = _
      rw [if_neg (by omega)]
    rw [hst] at hs
    have m1 := hK1 _ _ l1
    have w1 := live_set_same (row' := ⟨.ar 16 L8, [.agg (.ar 16 L8) (bs (encS (keyR (sched kb)) boxL (n + 6) b))]⟩) m1
    simp only [↓amD, amU, Nat.reduceBEq, Nat.reduceAdd, Nat.reduceSub, Nat.reduceMul, Nat.reduceMod, Nat.reducePow, Nat.reduceLT, Nat.reduceDiv, Int.reduceToNat, BitVec.reduceToNat, zipEnv, Int.reduceLE, Int.reduceLT, Int.reduceNeg, BitVec.reduceEq, Int.reduceAdd, Int.reduceSub, Int.reduceMul, Nat.reduceLeDiff, Int.reduceEq, lv_app0, lv_appk, set_app0, set_appk, List.append_assoc, List.append_nil, Nat.add_assoc, hh, e0, hs, m1, w1]
    exact .val _ rfl
  · simp only [has, ↓amD, amU, Nat.reduceBEq, Nat.reduceAdd, Nat.reduceSub, Nat.reduceMul, Nat.reduceMod, Nat.reducePow, Nat.reduceLT, Nat.reduceDiv, Int.reduceToNat, BitVec.reduceToNat, zipEnv, Int.reduceLE, Int.reduceLT, Int.reduceNeg, BitVec.reduceEq, Int.reduceAdd, Int.reduceSub, Int.reduceMul, Nat.reduceLeDiff, Int.reduceEq]
end Job
end Go.Am
