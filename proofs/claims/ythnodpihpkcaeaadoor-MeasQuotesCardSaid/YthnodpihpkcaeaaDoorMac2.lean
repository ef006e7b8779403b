/- HMAC: of parts; the reference; the document's example -/
import Derived.Test.YthnodpihpkcaeaaDoorMac1
namespace Go.Am
set_option linter.unusedSimpArgs false
set_option linter.unusedVariables false
attribute [local congr] bnd_congr kCond_congr kGd_congr kPick_congr kCall_congr kIdx_congr kSlice_congr kLoop_congr cond_congr' aBin_congr aBounds_congr aApp_congr aCopy_congr kFn_congr
namespace Job
open Go.Am.F
set_option maxRecDepth 10000
theorem kCall_bp {pre : List (BitVec 8) → List (List (BitVec 8)) → Bool} {out : List (BitVec 8) → List (List (BitVec 8)) → D × Rows} {rows : Rows} {k : D → Rows → Prop} {d : D} {p : List (BitVec 8)} {r n : Nat} {ex : Bool} {l : List D} {ls : List (List (BitVec 8))} (h : BsIn rows d p) (hl : live rows r = some ⟨.ref, l⟩) (hn : l.length = n)
    (hv : All2 (fun x y => BsIn rows x y) l ls) (hp : pre p ls = true) (hr : (noLst (out p ls).1 && noLstRows (out p ls).2) = true) : kCall (fn2 rdBs rdBss pre out) rows k [d, .sl .ref r [] 0 n ex] = k (shift rows.length (out p ls).1) (rows ++ shiftRows rows.length (out p ls).2) := by
  obtain ⟨⟨d', hd', hb⟩, hn'⟩ := h
  obtain ⟨l', h1, h2⟩ := view_parts hv
  have he : elems rows (.sl .ref r [] 0 n ex) = some l := by simp [elems, hl, ← hn]
  have hvw : view rows 9 (.sl .ref r [] 0 n ex) = some (.lst .ref l' ex) := by
    simp only [view, he, hn, beq_self_eq_true, Bool.not_true, cond_false, Sh.pure, h1]
  unfold kCall
  have hh : hasRefL [d, .sl .ref r [] 0 n ex] = true := by simp [hasRefL, hasRef]
  have e1 : (fn2 rdBs rdBss pre out) [d', .lst .ref l' ex] [] = some (out p ls) := fn2_eq hb.rd (by simpa [rdBss] using h2) hp
  rw [hh]
  simp only [forall_const, mapO, hd', hvw, bnd, e1, hr, true_and]
  simp
def fMacSum : Fn := fn2 rdBs rdBss (fun k ls => Nat.ble k.length most && (Nat.ble ls.length most && Nat.ble ls.flatten.length most)) fun k ls => (d32D (hmac k ls.flatten), [])
theorem macsum_ok (C : Ctx) (hC : CtxOK C P) (h1 : C.fn 36 = some fMNew) (h2 : C.fn 37 = some fMFeed) (h3 : C.fn 38 = some fMSum) : Meets C.glob P 27 (Fn.run fMacSum) := by
  refine fn_meetsN (m_mac_Sum C hC) fun ds rows r h => ?_
  obtain ⟨d, e0, key, ls, rfl, rfl, hd, he, hp, rfl⟩ := fn2_some h
  obtain ⟨x, hx⟩ := rdBs_nrm hd
  obtain ⟨l, e, rfl, hl⟩ := rdBss_some he
  simp only [Bool.and_eq_true, Nat.ble_eq] at hp
  obtain ⟨hp0, hp1, hp2⟩ := hp
  unfold most at hp0 hp1 hp2
  obtain ⟨hlen, hget⟩ := mapO_get hl
  refine ⟨rfl, _, .cons hx (.cons (.refl _) .nil), afun_mk rfl ?_⟩
  clear h hd he hx
  have hbs : ∀ i (hi : i < ls.length), ∃ x, l[i]? = some x ∧ IsBs x ls[i] := fun i hi => by
    have hi2 : i < l.length := by omega
    have hli : l[i]? = some l[i] := List.getElem?_eq_getElem hi2
    exact ⟨_, hli, rdBs_some (hget i _ _ hli (List.getElem?_eq_getElem hi))⟩
  have hfit : ∀ x y, IsBs x y → D.fits x .ref = true := fun x y hb => by rcases hb with ⟨h, _⟩ | ⟨e, h⟩ <;> rw [h] <;> rfl
  unfold a_mac_Sum r_mac_Sum
  simp only [↓amD, amU, Nat.reduceBEq, Nat.reduceAdd, Nat.reduceSub, Nat.reduceMul, Nat.reduceMod, Nat.reducePow, Nat.reduceLT, Nat.reduceDiv, Int.reduceToNat, BitVec.reduceToNat, zipEnv, Int.reduceLE, Int.reduceLT, Int.reduceNeg, BitVec.reduceEq, Int.reduceAdd, Int.reduceSub, Int.reduceMul, Nat.reduceLeDiff, Int.reduceEq, h1]
  refine Eq.mpr (kMNew _ _ _ key (IsBs.to (.inr ⟨_, rfl⟩)) hp0) ?_
  simp only [↓amD, amU, Nat.reduceBEq, Nat.reduceAdd, Nat.reduceSub, Nat.reduceMul, Nat.reduceMod, Nat.reducePow, Nat.reduceLT, Nat.reduceDiv, Int.reduceToNat, BitVec.reduceToNat, zipEnv, Int.reduceLE, Int.reduceLT, Int.reduceNeg, BitVec.reduceEq, Int.reduceAdd, Int.reduceSub, Int.reduceMul, Nat.reduceLeDiff, Int.reduceEq, mac_fits]
  refine kLoop_up l.length (fun i env rows => has env [(10, .lst .ref l e), (11, .raw (it l.length)), (12, .raw (it (i : Int))), (4, .ptr (.ar 32 L8) 0 [0]), (5, .ptr S6 1 [0])] ∧
    ∃ z, rows = [some ⟨.ar 32 L8, [z]⟩, some ⟨S6, [macD (feedM (newM key) (ls.take i).flatten)]⟩]) ?_ ?_ ⟨?_, _, rfl⟩
  · rintro i hi env rows ⟨hh, z, rfl⟩ R hR
    simp only [has] at hh
    obtain ⟨q10, q11, q12, q4, q5, -⟩ := hh
    obtain ⟨x, hx, hb⟩ := hbs i (by omega)
    have e0 : ((i : Int) < (l.length : Int)) = True := eq_true (by omega)
    have e1 : ((0 : Int) ≤ (i : Int)) = True := eq_true (by omega)
    have e2 := wz_succ i (by omega)
    have hm := feedM_ok (newM_ok key) (ls.take i).flatten
    have hs : feedM (feedM (newM key) (ls.take i).flatten) ls[i] = feedM (newM key) (ls.take (i + 1)).flatten := by rw [feedM_app, take_flat_succ ls i (by omega)]
    simp only [↓amD, amU, Nat.reduceBEq, Nat.reduceAdd, Nat.reduceSub, Nat.reduceMul, Nat.reduceMod, Nat.reducePow, Nat.reduceLT, Nat.reduceDiv, Int.reduceToNat, BitVec.reduceToNat, zipEnv, Int.reduceLE, Int.reduceLT, Int.reduceNeg, BitVec.reduceEq, Int.reduceAdd, Int.reduceSub, Int.reduceMul, Nat.reduceLeDiff, Int.reduceEq, q10, q11, q12, q4, q5, e0, e1, hx, hfit _ _ hb, h2, decide_true]
    refine Eq.mpr (kMFeed _ _ _ _ ls[i] hb.to hm) ?_
    rw [hs]
    simp only [↓amD, amU, Nat.reduceBEq, Nat.reduceAdd, Nat.reduceSub, Nat.reduceMul, Nat.reduceMod, Nat.reducePow, Nat.reduceLT, Nat.reduceDiv, Int.reduceToNat, BitVec.reduceToNat, zipEnv, Int.reduceLE, Int.reduceLT, Int.reduceNeg, BitVec.reduceEq, Int.reduceAdd, Int.reduceSub, Int.reduceMul, Nat.reduceLeDiff, Int.reduceEq, q10, q11, q12, q4, q5, e2, mac_fits]
    exact hR _ _ ⟨by simp only [has, ↓amD, amU, Nat.reduceBEq, Nat.reduceAdd, Nat.reduceSub, Nat.reduceMul, Nat.reduceMod, Nat.reducePow, Nat.reduceLT, Nat.reduceDiv, Int.reduceToNat, BitVec.reduceToNat, zipEnv, Int.reduceLE, Int.reduceLT, Int.reduceNeg, BitVec.reduceEq, Int.reduceAdd, Int.reduceSub, Int.reduceMul, Nat.reduceLeDiff, Int.reduceEq, q10, q11, q4, q5], z, rfl⟩
  · rintro env rows ⟨hh, z, rfl⟩ R
    simp only [has] at hh
    obtain ⟨q10, q11, q12, q4, q5, -⟩ := hh
    have e0 : ((l.length : Int) < (l.length : Int)) = False := eq_false (by omega)
    have hm := feedM_ok (newM_ok key) (ls.take l.length).flatten
    simp only [↓amD, amU, Nat.reduceBEq, Nat.reduceAdd, Nat.reduceSub, Nat.reduceMul, Nat.reduceMod, Nat.reducePow, Nat.reduceLT, Nat.reduceDiv, Int.reduceToNat, BitVec.reduceToNat, zipEnv, Int.reduceLE, Int.reduceLT, Int.reduceNeg, BitVec.reduceEq, Int.reduceAdd, Int.reduceSub, Int.reduceMul, Nat.reduceLeDiff, Int.reduceEq, q10, q11, q12, q4, q5, e0, h3, decide_false]
    rw [kMSum _ _ _ hm, ← hlen, List.take_length]
    simp only [↓amD, amU, Nat.reduceBEq, Nat.reduceAdd, Nat.reduceSub, Nat.reduceMul, Nat.reduceMod, Nat.reducePow, Nat.reduceLT, Nat.reduceDiv, Int.reduceToNat, BitVec.reduceToNat, zipEnv, Int.reduceLE, Int.reduceLT, Int.reduceNeg, BitVec.reduceEq, Int.reduceAdd, Int.reduceSub, Int.reduceMul, Nat.reduceLeDiff, Int.reduceEq, q10, q11, q12, q4, q5]
    exact .val _ rfl
  · simp only [has, ↓amD, amU, Nat.reduceBEq, Nat.reduceAdd, Nat.reduceSub, Nat.reduceMul, Nat.reduceMod, Nat.reducePow, Nat.reduceLT, Nat.reduceDiv, Int.reduceToNat, BitVec.reduceToNat, zipEnv, Int.reduceLE, Int.reduceLT, Int.reduceNeg, BitVec.reduceEq, Int.reduceAdd, Int.reduceSub, Int.reduceMul, Nat.reduceLeDiff, Int.reduceEq]
theorem kMacSum (rows : Rows) (k : D → Rows → Prop) (d : D) (key : List (BitVec 8)) (r n : Nat) (ex : Bool) (l : List D) (ls : List (List (BitVec 8))) (h : BsIn rows d key) (hk : key.length ≤ 1099511627776) (hl : live rows r = some ⟨.ref, l⟩) (hn : l.length = n)
    (hv : All2 (fun x y => BsIn rows x y) l ls) (hp : ls.length ≤ 1099511627776) (hp2 : ls.flatten.length ≤ 1099511627776) : kCall fMacSum rows k [d, .sl .ref r [] 0 n ex] = k (.agg (.ar 32 L8) (bs (hmac key ls.flatten))) rows := by
  refine (kCall_bp h hl hn hv (by simp only [Bool.and_eq_true, Nat.ble_eq]; exact ⟨hk, hp, hp2⟩) (by simp [d32D, noLst, noLstRows, Sh.pure])).trans ?_
  simp [d32D, shift, shiftRows, Sh.pure]
def fRMac : Fn := fn2 rdBs rdBs (fun k p => Nat.ble k.length 1099511627000 && Nat.ble p.length 1099511626000) fun k p => (d32D (hmac k p), [])
theorem keyS_get (k : List (BitVec 8)) (i : Nat) (hi : i < 64) (K : List (BitVec 8)) (hK : keyS k = fill8 K 64) : (keyS k).getD i 0#8 = if i < K.length then K.getD i 0#8 else 0#8 := by
  rw [hK, fill8]
  split
  · rename_i h; simp [List.getD, List.getElem?_append_left h]
  · rename_i h
    simp only [List.getD, List.getElem?_append_right (Nat.le_of_not_lt h), List.getElem?_replicate]
    split <;> rfl
theorem in_set (k : List (BitVec 8)) (i : Nat) (hi : i < 64) (x : BitVec 8) : (xorL ((keyS k).take i) x ++ List.replicate (64 - i) 0#8).set i ((keyS k).getD i 0#8 ^^^ x) = xorL ((keyS k).take (i + 1)) x ++ List.replicate (64 - (i + 1)) 0#8 := by
  have hl : (xorL ((keyS k).take i) x).length = i := by rw [xorL_len, List.length_take, keyS_len]; omega
  obtain ⟨m, hm⟩ : ∃ m, 64 - i = m + 1 := ⟨64 - i - 1, by omega⟩
  have h2 : 64 - (i + 1) = m := by omega
  rw [hm, h2, List.replicate_succ, List.set_append_right _ _ (Nat.le_of_eq hl), hl, Nat.sub_self, take_succ_getD (z := 0#8) (by rw [keyS_len]; exact hi)]
  simp [xorL]
theorem in_get (k : List (BitVec 8)) (i : Nat) (hi : i < 64) (x : BitVec 8) : (bs (xorL ((keyS k).take i) x ++ List.replicate (64 - i) 0#8))[i]? = some (.raw (u8 ((xorL ((keyS k).take i) x ++ List.replicate (64 - i) 0#8).getD i 0#8))) :=
  bs_get (by rw [List.length_append, xorL_len, List.length_take, keyS_len, List.length_replicate]; omega)
theorem rmac_ok (C : Ctx) (hC : CtxOK C P) (h1 : C.fn 25 = some fRSum) (h2 : C.fn 13 = some fJoin) : Meets C.glob P 12 (Fn.run fRMac) := by
  refine fn_meetsN (m_ref02_Sum C hC) fun ds rows r h => ?_
  obtain ⟨d, e, key, p, rfl, rfl, hd, he, hp, rfl⟩ := fn2_some h
  obtain ⟨x, hx⟩ := rdBs_nrm hd
  obtain ⟨y, hy⟩ := rdBs_nrm he
  simp only [Bool.and_eq_true, Nat.ble_eq] at hp
  obtain ⟨hp0, hp1⟩ := hp
  refine ⟨rfl, _, .cons hx (.cons hy .nil), afun_mk rfl ?_⟩
  clear h hd he hx hy
  have hkl := keyS_len key
  have e54 : xorL ((keyS key).take 64) 54#8 ++ List.replicate (64 - 64) 0#8 = xorL (keyS key) 54#8 := by rw [List.take_of_length_le (by omega)]; simp
  have e92 : xorL ((keyS key).take 64) 92#8 ++ List.replicate (64 - 64) 0#8 = xorL (keyS key) 92#8 := by rw [List.take_of_length_le (by omega)]; simp
  have hl54 : (xorL (keyS key) 54#8).length = 64 := by rw [xorL_len, hkl]
  have hl92 : (xorL (keyS key) 92#8).length = 64 := by rw [xorL_len, hkl]
  unfold a_ref02_Sum r_ref02_Sum
  by_cases hl : 64 < key.length
  · have hlI : ((64 : Int) < (key.length : Int)) = True := eq_true (by omega)
    simp only [↓amD, amU, Nat.reduceBEq, Nat.reduceAdd, Nat.reduceSub, Nat.reduceMul, Nat.reduceMod, Nat.reducePow, Nat.reduceLT, Nat.reduceDiv, Int.reduceToNat, BitVec.reduceToNat, zipEnv, Int.reduceLE, Int.reduceLT, Int.reduceNeg, BitVec.reduceEq, Int.reduceAdd, Int.reduceSub, Int.reduceMul, Nat.reduceLeDiff, Int.reduceEq, bs_len, hlI, h1, decide_true]
    refine Eq.mpr (kRSum _ _ _ key (IsBs.to (.inr ⟨_, rfl⟩)) hp0) ?_
    simp only [↓amD, amU, Nat.reduceBEq, Nat.reduceAdd, Nat.reduceSub, Nat.reduceMul, Nat.reduceMod, Nat.reducePow, Nat.reduceLT, Nat.reduceDiv, Int.reduceToNat, BitVec.reduceToNat, zipEnv, Int.reduceLE, Int.reduceLT, Int.reduceNeg, BitVec.reduceEq, Int.reduceAdd, Int.reduceSub, Int.reduceMul, Nat.reduceLeDiff, Int.reduceEq]
    have hK : keyS key = fill8 (sumS key) 64 := by rw [keyS, if_pos hl]
    have hKl : (sumS key).length ≤ 64 := by rw [sumS_len]; decide
    refine kLoop_up 64 (fun i env rows => has env [(0, .sl L8 1 [0] 0 32 true), (1, .lst L8 (bs p) y), (4, .ptr (.ar 32 L8) 0 [0]), (6, .sl L8 2 [] 0 64 true), (7, .sl L8 3 [] 0 64 true), (20, .raw (it 64)), (21, .raw (it (i : Int)))] ∧
      ∃ z0, rows = [some ⟨.ar 32 L8, [z0]⟩, some ⟨.ar 32 L8, [.agg (.ar 32 L8) (bs (sumS key))]⟩, some ⟨L8, bs (xorL ((keyS key).take i) 54#8 ++ List.replicate (64 - i) 0#8)⟩, some ⟨L8, bs (xorL ((keyS key).take i) 92#8 ++ List.replicate (64 - i) 0#8)⟩]) ?_ ?_ ⟨?_, .agg (.ar 32 L8) (List.replicate 32 (.raw (u8 0#8))), by rfl⟩
    · rintro i hi env rows ⟨hh, z0, rfl⟩ R hR
      simp only [has] at hh
      obtain ⟨q0, q1, q4, q6, q7, q20, q21, -⟩ := hh
      have e0 : ((i : Int) < 64) = True := eq_true (by omega)
      have e1 : ((0 : Int) ≤ (i : Int)) = True := eq_true (by omega)
      have e2 := wz_succ i (by omega)
      have g1 := in_get key i hi 54#8
      have g2 := in_get key i hi 92#8
      have s1 := in_set key i hi 54#8
      have s2 := in_set key i hi 92#8
      have hg := keyS_get key i hi _ hK
      by_cases hik : i < (sumS key).length
      · rw [if_pos hik] at hg
        have gk : (bs (sumS key))[i]? = some (.raw (u8 ((keyS key).getD i 0#8))) := by rw [bs_get hik, hg]
        have e3 : ((i : Int) < 32) = True := eq_true (by rw [sumS_len] at hik; omega)
        simp only [↓amD, amU, Nat.reduceBEq, Nat.reduceAdd, Nat.reduceSub, Nat.reduceMul, Nat.reduceMod, Nat.reducePow, Nat.reduceLT, Nat.reduceDiv, Int.reduceToNat, BitVec.reduceToNat, zipEnv, Int.reduceLE, Int.reduceLT, Int.reduceNeg, BitVec.reduceEq, Int.reduceAdd, Int.reduceSub, Int.reduceMul, Nat.reduceLeDiff, Int.reduceEq, q0, q1, q4, q6, q7, q20, q21, e0, e1, e2, e3, bs_len, gk, g1, g2, bs_set, s1, s2, decide_true]
        exact hR _ _ ⟨by simp only [has, ↓amD, amU, Nat.reduceBEq, Nat.reduceAdd, Nat.reduceSub, Nat.reduceMul, Nat.reduceMod, Nat.reducePow, Nat.reduceLT, Nat.reduceDiv, Int.reduceToNat, BitVec.reduceToNat, zipEnv, Int.reduceLE, Int.reduceLT, Int.reduceNeg, BitVec.reduceEq, Int.reduceAdd, Int.reduceSub, Int.reduceMul, Nat.reduceLeDiff, Int.reduceEq, q0, q1, q4, q6, q7, q20], z0, rfl⟩
      · rw [if_neg hik] at hg
        rw [hg] at s1 s2
        have e3 : ((i : Int) < 32) = False := eq_false (by rw [sumS_len] at hik; omega)
        simp only [↓amD, amU, Nat.reduceBEq, Nat.reduceAdd, Nat.reduceSub, Nat.reduceMul, Nat.reduceMod, Nat.reducePow, Nat.reduceLT, Nat.reduceDiv, Int.reduceToNat, BitVec.reduceToNat, zipEnv, Int.reduceLE, Int.reduceLT, Int.reduceNeg, BitVec.reduceEq, Int.reduceAdd, Int.reduceSub, Int.reduceMul, Nat.reduceLeDiff, Int.reduceEq, q0, q1, q4, q6, q7, q20, q21, e0, e1, e2, e3, bs_len, g1, g2, bs_set, s1, s2, decide_true, decide_false]
        exact hR _ _ ⟨by simp only [has, ↓amD, amU, Nat.reduceBEq, Nat.reduceAdd, Nat.reduceSub, Nat.reduceMul, Nat.reduceMod, Nat.reducePow, Nat.reduceLT, Nat.reduceDiv, Int.reduceToNat, BitVec.reduceToNat, zipEnv, Int.reduceLE, Int.reduceLT, Int.reduceNeg, BitVec.reduceEq, Int.reduceAdd, Int.reduceSub, Int.reduceMul, Nat.reduceLeDiff, Int.reduceEq, q0, q1, q4, q6, q7, q20], z0, rfl⟩
    · rintro env rows ⟨hh, z0, rfl⟩ R
      simp only [has] at hh
      obtain ⟨q0, q1, q4, q6, q7, q20, q21, -⟩ := hh
      rw [e54, e92]
      simp only [↓amD, amU, Nat.reduceBEq, Nat.reduceAdd, Nat.reduceSub, Nat.reduceMul, Nat.reduceMod, Nat.reducePow, Nat.reduceLT, Nat.reduceDiv, Int.reduceToNat, BitVec.reduceToNat, zipEnv, Int.reduceLE, Int.reduceLT, Int.reduceNeg, BitVec.reduceEq, Int.reduceAdd, Int.reduceSub, Int.reduceMul, Nat.reduceLeDiff, Int.reduceEq, q0, q1, q4, q6, q7, q20, q21, h1, h2]
      refine Eq.mpr (kJoin _ _ _ 2 _ _ [xorL (keyS key) 54#8, p] rfl rfl (.cons (BsIn.own rfl _ hl54.symm) (.cons (IsBs.to (.inr ⟨_, rfl⟩)) .nil)) (by simp) (by simp only [List.flatten_cons, List.flatten_nil, List.append_nil, List.length_append]; omega)) ?_
      have hj : [xorL (keyS key) 54#8, p].flatten = xorL (keyS key) 54#8 ++ p := by simp
      rw [hj]
      have hjl : (xorL (keyS key) 54#8 ++ p).length = 64 + p.length := by rw [List.length_append, hl54]
      rw [hjl]
      simp only [↓amD, amU, Nat.reduceBEq, Nat.reduceAdd, Nat.reduceSub, Nat.reduceMul, Nat.reduceMod, Nat.reducePow, Nat.reduceLT, Nat.reduceDiv, Int.reduceToNat, BitVec.reduceToNat, zipEnv, Int.reduceLE, Int.reduceLT, Int.reduceNeg, BitVec.reduceEq, Int.reduceAdd, Int.reduceSub, Int.reduceMul, Nat.reduceLeDiff, Int.reduceEq, h1, q4, q7]
      refine Eq.mpr (kRSum _ _ _ (xorL (keyS key) 54#8 ++ p) (BsIn.own rfl _ hjl.symm) (by omega)) ?_
      have hsl := sumS_len (xorL (keyS key) 54#8 ++ p)
      simp only [↓amD, amU, Nat.reduceBEq, Nat.reduceAdd, Nat.reduceSub, Nat.reduceMul, Nat.reduceMod, Nat.reducePow, Nat.reduceLT, Nat.reduceDiv, Int.reduceToNat, BitVec.reduceToNat, zipEnv, Int.reduceLE, Int.reduceLT, Int.reduceNeg, BitVec.reduceEq, Int.reduceAdd, Int.reduceSub, Int.reduceMul, Nat.reduceLeDiff, Int.reduceEq, h1, h2, q4, q7]
      refine Eq.mpr (kJoin _ _ _ 2 _ _ [xorL (keyS key) 92#8, ((sumS (xorL (keyS key) 54#8 ++ p)).drop 0).take 32] rfl rfl (.cons (BsIn.own rfl _ hl92.symm) (.cons (BsIn.arr rfl (by omega)) .nil)) (by simp) (by simp only [List.flatten_cons, List.flatten_nil, List.append_nil, List.length_append, List.length_take]; omega)) ?_
      have hj2 : [xorL (keyS key) 92#8, ((sumS (xorL (keyS key) 54#8 ++ p)).drop 0).take 32].flatten = xorL (keyS key) 92#8 ++ sumS (xorL (keyS key) 54#8 ++ p) := by
        simp only [List.flatten_cons, List.flatten_nil, List.append_nil, List.drop_zero]
        rw [List.take_of_length_le (by omega)]
      rw [hj2]
      have hjl2 : (xorL (keyS key) 92#8 ++ sumS (xorL (keyS key) 54#8 ++ p)).length = 96 := by rw [List.length_append, hl92, hsl]
      rw [hjl2]
      simp only [↓amD, amU, Nat.reduceBEq, Nat.reduceAdd, Nat.reduceSub, Nat.reduceMul, Nat.reduceMod, Nat.reducePow, Nat.reduceLT, Nat.reduceDiv, Int.reduceToNat, BitVec.reduceToNat, zipEnv, Int.reduceLE, Int.reduceLT, Int.reduceNeg, BitVec.reduceEq, Int.reduceAdd, Int.reduceSub, Int.reduceMul, Nat.reduceLeDiff, Int.reduceEq, h1, q4]
      refine Eq.mpr (kRSum _ _ _ (xorL (keyS key) 92#8 ++ sumS (xorL (keyS key) 54#8 ++ p)) (BsIn.own rfl _ hjl2.symm) (by omega)) ?_
      rw [← hmac_eq]
      simp only [↓amD, amU, Nat.reduceBEq, Nat.reduceAdd, Nat.reduceSub, Nat.reduceMul, Nat.reduceMod, Nat.reducePow, Nat.reduceLT, Nat.reduceDiv, Int.reduceToNat, BitVec.reduceToNat, zipEnv, Int.reduceLE, Int.reduceLT, Int.reduceNeg, BitVec.reduceEq, Int.reduceAdd, Int.reduceSub, Int.reduceMul, Nat.reduceLeDiff, Int.reduceEq, q4]
      exact .val _ rfl
    · simp only [has, ↓amD, amU, Nat.reduceBEq, Nat.reduceAdd, Nat.reduceSub, Nat.reduceMul, Nat.reduceMod, Nat.reducePow, Nat.reduceLT, Nat.reduceDiv, Int.reduceToNat, BitVec.reduceToNat, zipEnv, Int.reduceLE, Int.reduceLT, Int.reduceNeg, BitVec.reduceEq, Int.reduceAdd, Int.reduceSub, Int.reduceMul, Nat.reduceLeDiff, Int.reduceEq]
  · have hlI : ((64 : Int) < (key.length : Int)) = False := eq_false (by omega)
    simp only [↓amD, amU, Nat.reduceBEq, Nat.reduceAdd, Nat.reduceSub, Nat.reduceMul, Nat.reduceMod, Nat.reducePow, Nat.reduceLT, Nat.reduceDiv, Int.reduceToNat, BitVec.reduceToNat, zipEnv, Int.reduceLE, Int.reduceLT, Int.reduceNeg, BitVec.reduceEq, Int.reduceAdd, Int.reduceSub, Int.reduceMul, Nat.reduceLeDiff, Int.reduceEq, bs_len, hlI, h1, decide_false]
    have hK : keyS key = fill8 key 64 := by rw [keyS, if_neg hl]
    have hKl : key.length ≤ 64 := by omega
    refine kLoop_up 64 (fun i env rows => has env [(0, .lst L8 (bs key) x), (1, .lst L8 (bs p) y), (4, .ptr (.ar 32 L8) 0 [0]), (6, .sl L8 1 [] 0 64 true), (7, .sl L8 2 [] 0 64 true), (20, .raw (it 64)), (21, .raw (it (i : Int)))] ∧
      ∃ z0, rows = [some ⟨.ar 32 L8, [z0]⟩, some ⟨L8, bs (xorL ((keyS key).take i) 54#8 ++ List.replicate (64 - i) 0#8)⟩, some ⟨L8, bs (xorL ((keyS key).take i) 92#8 ++ List.replicate (64 - i) 0#8)⟩]) ?_ ?_ ⟨?_, .agg (.ar 32 L8) (List.replicate 32 (.raw (u8 0#8))), by rfl⟩
    · rintro i hi env rows ⟨hh, z0, rfl⟩ R hR
      simp only [has] at hh
      obtain ⟨q0, q1, q4, q6, q7, q20, q21, -⟩ := hh
      have e0 : ((i : Int) < 64) = True := eq_true (by omega)
      have e1 : ((0 : Int) ≤ (i : Int)) = True := eq_true (by omega)
      have e2 := wz_succ i (by omega)
      have g1 := in_get key i hi 54#8
      have g2 := in_get key i hi 92#8
      have s1 := in_set key i hi 54#8
      have s2 := in_set key i hi 92#8
      have hg := keyS_get key i hi _ hK
      by_cases hik : i < key.length
      · rw [if_pos hik] at hg
        have gk : (bs key)[i]? = some (.raw (u8 ((keyS key).getD i 0#8))) := by rw [bs_get hik, hg]
        have e3 : ((i : Int) < (key.length : Int)) = True := eq_true (by omega)
        simp only [↓amD, amU, Nat.reduceBEq, Nat.reduceAdd, Nat.reduceSub, Nat.reduceMul, Nat.reduceMod, Nat.reducePow, Nat.reduceLT, Nat.reduceDiv, Int.reduceToNat, BitVec.reduceToNat, zipEnv, Int.reduceLE, Int.reduceLT, Int.reduceNeg, BitVec.reduceEq, Int.reduceAdd, Int.reduceSub, Int.reduceMul, Nat.reduceLeDiff, Int.reduceEq, q0, q1, q4, q6, q7, q20, q21, e0, e1, e2, e3, bs_len, gk, g1, g2, bs_set, s1, s2, decide_true]
        exact hR _ _ ⟨by simp only [has, ↓amD, amU, Nat.reduceBEq, Nat.reduceAdd, Nat.reduceSub, Nat.reduceMul, Nat.reduceMod, Nat.reducePow, Nat.reduceLT, Nat.reduceDiv, Int.reduceToNat, BitVec.reduceToNat, zipEnv, Int.reduceLE, Int.reduceLT, Int.reduceNeg, BitVec.reduceEq, Int.reduceAdd, Int.reduceSub, Int.reduceMul, Nat.reduceLeDiff, Int.reduceEq, q0, q1, q4, q6, q7, q20], z0, rfl⟩
      · rw [if_neg hik] at hg
        rw [hg] at s1 s2
        have e3 : ((i : Int) < (key.length : Int)) = False := eq_false (by omega)
        simp only [↓amD, amU, Nat.reduceBEq, Nat.reduceAdd, Nat.reduceSub, Nat.reduceMul, Nat.reduceMod, Nat.reducePow, Nat.reduceLT, Nat.reduceDiv, Int.reduceToNat, BitVec.reduceToNat, zipEnv, Int.reduceLE, Int.reduceLT, Int.reduceNeg, BitVec.reduceEq, Int.reduceAdd, Int.reduceSub, Int.reduceMul, Nat.reduceLeDiff, Int.reduceEq, q0, q1, q4, q6, q7, q20, q21, e0, e1, e2, e3, bs_len, g1, g2, bs_set, s1, s2, decide_true, decide_false]
        exact hR _ _ ⟨by simp only [has, ↓amD, amU, Nat.reduceBEq, Nat.reduceAdd, Nat.reduceSub, Nat.reduceMul, Nat.reduceMod, Nat.reducePow, Nat.reduceLT, Nat.reduceDiv, Int.reduceToNat, BitVec.reduceToNat, zipEnv, Int.reduceLE, Int.reduceLT, Int.reduceNeg, BitVec.reduceEq, Int.reduceAdd, Int.reduceSub, Int.reduceMul, Nat.reduceLeDiff, Int.reduceEq, q0, q1, q4, q6, q7, q20], z0, rfl⟩
    · rintro env rows ⟨hh, z0, rfl⟩ R
      simp only [has] at hh
      obtain ⟨q0, q1, q4, q6, q7, q20, q21, -⟩ := hh
      rw [e54, e92]
      simp only [↓amD, amU, Nat.reduceBEq, Nat.reduceAdd, Nat.reduceSub, Nat.reduceMul, Nat.reduceMod, Nat.reducePow, Nat.reduceLT, Nat.reduceDiv, Int.reduceToNat, BitVec.reduceToNat, zipEnv, Int.reduceLE, Int.reduceLT, Int.reduceNeg, BitVec.reduceEq, Int.reduceAdd, Int.reduceSub, Int.reduceMul, Nat.reduceLeDiff, Int.reduceEq, q0, q1, q4, q6, q7, q20, q21, h1, h2]
      refine Eq.mpr (kJoin _ _ _ 2 _ _ [xorL (keyS key) 54#8, p] rfl rfl (.cons (BsIn.own rfl _ hl54.symm) (.cons (IsBs.to (.inr ⟨_, rfl⟩)) .nil)) (by simp) (by simp only [List.flatten_cons, List.flatten_nil, List.append_nil, List.length_append]; omega)) ?_
      have hj : [xorL (keyS key) 54#8, p].flatten = xorL (keyS key) 54#8 ++ p := by simp
      rw [hj]
      have hjl : (xorL (keyS key) 54#8 ++ p).length = 64 + p.length := by rw [List.length_append, hl54]
      rw [hjl]
      simp only [↓amD, amU, Nat.reduceBEq, Nat.reduceAdd, Nat.reduceSub, Nat.reduceMul, Nat.reduceMod, Nat.reducePow, Nat.reduceLT, Nat.reduceDiv, Int.reduceToNat, BitVec.reduceToNat, zipEnv, Int.reduceLE, Int.reduceLT, Int.reduceNeg, BitVec.reduceEq, Int.reduceAdd, Int.reduceSub, Int.reduceMul, Nat.reduceLeDiff, Int.reduceEq, h1, q4, q7]
      refine Eq.mpr (kRSum _ _ _ (xorL (keyS key) 54#8 ++ p) (BsIn.own rfl _ hjl.symm) (by omega)) ?_
      have hsl := sumS_len (xorL (keyS key) 54#8 ++ p)
      simp only [↓amD, amU, Nat.reduceBEq, Nat.reduceAdd, Nat.reduceSub, Nat.reduceMul, Nat.reduceMod, Nat.reducePow, Nat.reduceLT, Nat.reduceDiv, Int.reduceToNat, BitVec.reduceToNat, zipEnv, Int.reduceLE, Int.reduceLT, Int.reduceNeg, BitVec.reduceEq, Int.reduceAdd, Int.reduceSub, Int.reduceMul, Nat.reduceLeDiff, Int.reduceEq, h1, h2, q4, q7]
      refine Eq.mpr (kJoin _ _ _ 2 _ _ [xorL (keyS key) 92#8, ((sumS (xorL (keyS key) 54#8 ++ p)).drop 0).take 32] rfl rfl (.cons (BsIn.own rfl _ hl92.symm) (.cons (BsIn.arr rfl (by omega)) .nil)) (by simp) (by simp only [List.flatten_cons, List.flatten_nil, List.append_nil, List.length_append, List.length_take]; omega)) ?_
      have hj2 : [xorL (keyS key) 92#8, ((sumS (xorL (keyS key) 54#8 ++ p)).drop 0).take 32].flatten = xorL (keyS key) 92#8 ++ sumS (xorL (keyS key) 54#8 ++ p) := by
        simp only [List.flatten_cons, List.flatten_nil, List.append_nil, List.drop_zero]
        rw [List.take_of_length_le (by omega)]
      rw [hj2]
      have hjl2 : (xorL (keyS key) 92#8 ++ sumS (xorL (keyS key) 54#8 ++ p)).length = 96 := by rw [List.length_append, hl92, hsl]
      rw [hjl2]
      simp only [↓amD, amU, Nat.reduceBEq, Nat.reduceAdd, Nat.reduceSub, Nat.reduceMul, Nat.reduceMod, Nat.reducePow, Nat.reduceLT, Nat.reduceDiv, Int.reduceToNat, BitVec.reduceToNat, zipEnv, Int.reduceLE, Int.reduceLT, Int.reduceNeg, BitVec.reduceEq, Int.reduceAdd, Int.reduceSub, Int.reduceMul, Nat.reduceLeDiff, Int.reduceEq, h1, q4]
      refine Eq.mpr (kRSum _ _ _ (xorL (keyS key) 92#8 ++ sumS (xorL (keyS key) 54#8 ++ p)) (BsIn.own rfl _ hjl2.symm) (by omega)) ?_
      rw [← hmac_eq]
      simp only [↓amD, amU, Nat.reduceBEq, Nat.reduceAdd, Nat.reduceSub, Nat.reduceMul, Nat.reduceMod, Nat.reducePow, Nat.reduceLT, Nat.reduceDiv, Int.reduceToNat, BitVec.reduceToNat, zipEnv, Int.reduceLE, Int.reduceLT, Int.reduceNeg, BitVec.reduceEq, Int.reduceAdd, Int.reduceSub, Int.reduceMul, Nat.reduceLeDiff, Int.reduceEq, q4]
      exact .val _ rfl
    · simp only [has, ↓amD, amU, Nat.reduceBEq, Nat.reduceAdd, Nat.reduceSub, Nat.reduceMul, Nat.reduceMod, Nat.reducePow, Nat.reduceLT, Nat.reduceDiv, Int.reduceToNat, BitVec.reduceToNat, zipEnv, Int.reduceLE, Int.reduceLT, Int.reduceNeg, BitVec.reduceEq, Int.reduceAdd, Int.reduceSub, Int.reduceMul, Nat.reduceLeDiff, Int.reduceEq]
theorem kRMac (rows : Rows) (k : D → Rows → Prop) (d e : D) (key p : List (BitVec 8)) (h : BsIn rows d key) (h' : BsIn rows e p) (hk : key.length ≤ 1099511627000) (hp : p.length ≤ 1099511626000) : kCall fRMac rows k [d, e] = k (.agg (.ar 32 L8) (bs (hmac key p))) rows := by
  refine (kCall_bs2 h h' (by simp only [Bool.and_eq_true, Nat.ble_eq]; exact ⟨hk, hp⟩) (by simp [d32D, noLst, noLstRows, Sh.pure])).trans ?_
  simp [d32D, shift, shiftRows, Sh.pure]
set_option maxRecDepth 1000000 in
theorem fox : hmac [107#8, 101#8, 121#8] [84#8, 104#8, 101#8, 32#8, 113#8, 117#8, 105#8, 99#8, 107#8, 32#8, 98#8, 114#8, 111#8, 119#8, 110#8, 32#8, 102#8, 111#8, 120#8, 32#8, 106#8, 117#8, 109#8, 112#8, 115#8, 32#8, 111#8, 118#8, 101#8, 114#8, 32#8, 116#8, 104#8, 101#8, 32#8, 108#8, 97#8, 122#8, 121#8, 32#8, 100#8, 111#8, 103#8] = [247#8, 188#8, 131#8, 244#8, 48#8, 83#8, 132#8, 36#8, 177#8, 50#8, 152#8, 230#8, 170#8, 111#8, 177#8, 67#8, 239#8, 77#8, 89#8, 161#8, 73#8, 70#8, 23#8, 89#8, 151#8, 71#8, 157#8, 188#8, 45#8, 26#8, 60#8, 216#8] := by
  kernel_rfl
end Job
end Go.Am
