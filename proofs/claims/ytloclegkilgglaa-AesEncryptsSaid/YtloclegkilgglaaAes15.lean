/- AES: the reference's boxes and its words -/
import Derived.Test.YtloclegkilgglaaAes14
import Derived.Test.YtloclegkilgglaaAes9
namespace Go.Am
set_option linter.unusedSimpArgs false
set_option linter.unusedVariables false
attribute [local congr] bnd_congr kCond_congr kGd_congr kPick_congr kCall_congr kIdx_congr kSlice_congr kLoop_congr cond_congr' aBin_congr aBounds_congr aApp_congr aCopy_congr kFn_congr
namespace Job
open Go.Am.F
set_option maxRecDepth 10000
def bfR (i : Nat) : BitVec 8 := box8 (BitVec.ofNat 8 i)
theorem boxes_eq : pf 256 bfR 256 = boxL := by
  rw [pf_all]
  refine List.ext_getElem (by rw [List.length_map, List.length_range, box_len]) fun i h1 h2 => ?_
  rw [List.length_map, List.length_range] at h1
  have e : (BitVec.ofNat 8 i).toNat = i := by rw [BitVec.toNat_ofNat]; omega
  have h3 := box_tab (BitVec.ofNat 8 i)
  rw [bx, e, List.getD_eq_getElem?_getD, List.getElem?_eq_getElem h2, Option.getD_some] at h3
  rw [List.getElem_map, List.getElem_range, h3, bfR]
noncomputable def fBoxesR : Fn
  | [], [] => some (outBs boxL true)
  | _, _ => none
theorem boxesR_ok (C : Ctx) (hC : CtxOK C P) (hb : C.fn 16 = some fBoxR) : Meets C.glob P 37 (Fn.run fBoxesR) := by
  refine fn_meets (m_ref03_Boxes C hC) fun ds rows r h => ?_
  unfold fBoxesR at h
  split at h
  · cases h
    refine ⟨rfl, afun_mk rfl ?_⟩
    unfold a_ref03_Boxes r_ref03_Boxes
    simp only [↓amD, amU, Nat.reduceBEq, Nat.reduceAdd, Nat.reduceSub, Nat.reduceMul, Nat.reduceMod, Nat.reducePow, Nat.reduceLT, Nat.reduceDiv, Int.reduceToNat, BitVec.reduceToNat, zipEnv, Int.reduceLE, Int.reduceLT, Int.reduceNeg, BitVec.reduceEq, Int.reduceAdd, Int.reduceSub, Int.reduceMul, Nat.reduceLeDiff, Int.reduceEq, -List.reduceReplicate, rep_z]
    refine kLoop_up 256 (fun i env rows => has env [(6, .raw (it (i : Int))), (5, .raw (it 256)), (1, .sl L8 0 [] 0 256 true)] ∧ rows = [some ⟨L8, bs (pf 256 bfR i)⟩]) ?_ ?_ ⟨?_, by rw [pf_0]; rfl⟩
    · rintro i hi env rows ⟨hh, rfl⟩ R hR
      simp only [has] at hh
      have e0 : ((i : Int) < 256) = True := eq_true (by omega)
      have b0 : ((0 : Int) ≤ (i : Int)) = True := eq_true (by omega)
      have e1 := wz_succ i (by omega)
      have e2 : BitVec.ofInt 8 (i : Int) = BitVec.ofNat 8 i := rfl
      have es : (bs (pf 256 bfR i)).set i (.raw (u8 (box8 (BitVec.ofNat 8 i)))) = bs (pf 256 bfR (i + 1)) := by
        rw [← pf_set hi, ← bs_set]; rfl
      have eg : (bs (pf 256 bfR i))[i]? = some (.raw (u8 ((pf 256 bfR i).getD i 0#8))) := bs_get (by rw [pf_len]; exact hi)
      simp only [↓amD, amU, Nat.reduceBEq, Nat.reduceAdd, Nat.reduceSub, Nat.reduceMul, Nat.reduceMod, Nat.reducePow, Nat.reduceLT, Nat.reduceDiv, Int.reduceToNat, BitVec.reduceToNat, zipEnv, Int.reduceLE, Int.reduceLT, Int.reduceNeg, BitVec.reduceEq, Int.reduceAdd, Int.reduceSub, Int.reduceMul, Nat.reduceLeDiff, Int.reduceEq, hh, e0, e1, e2, b0, hb, kBoxR, es, eg]
      exact hR _ _ ⟨by simp only [has, ↓amD, amU, Nat.reduceBEq, Nat.reduceAdd, Nat.reduceSub, Nat.reduceMul, Nat.reduceMod, Nat.reducePow, Nat.reduceLT, Nat.reduceDiv, Int.reduceToNat, BitVec.reduceToNat, zipEnv, Int.reduceLE, Int.reduceLT, Int.reduceNeg, BitVec.reduceEq, Int.reduceAdd, Int.reduceSub, Int.reduceMul, Nat.reduceLeDiff, Int.reduceEq, hh], rfl⟩
    · rintro env rows ⟨hh, rfl⟩ R
      simp only [has] at hh
      rw [boxes_eq]
      simp only [↓amD, amU, Nat.reduceBEq, Nat.reduceAdd, Nat.reduceSub, Nat.reduceMul, Nat.reduceMod, Nat.reducePow, Nat.reduceLT, Nat.reduceDiv, Int.reduceToNat, BitVec.reduceToNat, zipEnv, Int.reduceLE, Int.reduceLT, Int.reduceNeg, BitVec.reduceEq, Int.reduceAdd, Int.reduceSub, Int.reduceMul, Nat.reduceLeDiff, Int.reduceEq, hh]
      exact .own L8 0 0 256 true true _ rfl rfl id
    · simp only [has, ↓amD, amU, Nat.reduceBEq, Nat.reduceAdd, Nat.reduceSub, Nat.reduceMul, Nat.reduceMod, Nat.reducePow, Nat.reduceLT, Nat.reduceDiv, Int.reduceToNat, BitVec.reduceToNat, zipEnv, Int.reduceLE, Int.reduceLT, Int.reduceNeg, BitVec.reduceEq, Int.reduceAdd, Int.reduceSub, Int.reduceMul, Nat.reduceLeDiff, Int.reduceEq]
  · cases h
theorem kBoxesR (rows : Rows) (k : D → Rows → Prop) : kCall fBoxesR rows k [] = k (.sl L8 (0 + rows.length) [] 0 256 true) (rows ++ [some ⟨L8, bs boxL⟩]) := by
  refine (kCall_val rfl (r := outBs boxL true) rfl).trans ?_
  simp [outBs, shift, shiftRows, Sh.pure, box_len]
def Kept (rows rows' : Rows) : Prop := ∀ q row, live rows q = some row → live rows' q = some row
theorem Kept.app (rows L : Rows) : Kept rows (rows ++ L) := fun _ _ h => live_push h
theorem Kept.trans {a b c : Rows} (h : Kept a b) (h' : Kept b c) : Kept a c := fun q row hq => h' q row (h q row hq)
/-- words as slices of bytes -/
def WsAt (rows : Rows) (ds : List D) (W : Nat → BitVec 32) (lo : Nat) : Prop := ∀ j, j < ds.length → ∃ r ex, ds[j]? = some (.sl L8 r [] 0 4 ex) ∧ lo ≤ r ∧ live rows r = some ⟨L8, bs (byW (W j))⟩
theorem WsAt.frame {rows rows' : Rows} {ds : List D} {W : Nat → BitVec 32} {lo : Nat} (h : WsAt rows ds W lo) (f : ∀ r l, live rows r = some ⟨L8, l⟩ → live rows' r = some ⟨L8, l⟩) : WsAt rows' ds W lo := fun j hj => by
  obtain ⟨r, ex, h1, h2, h3⟩ := h j hj
  exact ⟨r, ex, h1, h2, f _ _ h3⟩
theorem WsAt.snoc {rows : Rows} {ds : List D} {W : Nat → BitVec 32} {lo r : Nat} {ex : Bool} (h : WsAt rows ds W lo) (hr : lo ≤ r) (hl : live rows r = some ⟨L8, bs (byW (W ds.length))⟩) : WsAt rows (ds ++ [.sl L8 r [] 0 4 ex]) W lo := fun j hj => by
  rw [List.length_append, List.length_singleton] at hj
  by_cases h0 : j < ds.length
  · obtain ⟨r, ex, h1, h2, h3⟩ := h j h0
    exact ⟨r, ex, by rw [List.getElem?_append_left h0]; exact h1, h2, h3⟩
  · have : j = ds.length := by omega
    subst this
    exact ⟨r, ex, by simp, hr, hl⟩
def cN (n : Nat) (kb : List (BitVec 8)) (i : Nat) : BitVec 8 := (scN n (words n kb) (i - n)).c
def WS (kb : List (BitVec 8)) (j : Nat) : BitVec 32 := (sched kb).getD j 0#32
/-- the loop's state -/
structure WSt (rows rs : Rows) (kb : List (BitVec 8)) (i : Nat) (d5 : D) : Prop where
  kept : Kept rows rs
  box : live rs rows.length = some ⟨L8, bs boxL⟩
  ow : ∃ ds, Own .ref d5 rs ds ∧ ds.length = i ∧ WsAt rs ds (WS kb) rows.length
  fr : ∀ r ex m, d5 = .sl .ref r [] 0 m ex → rows.length ≤ r
theorem Own.keep {s : Sh} {d : D} {rows rows' : Rows} {els : List D} (h : Own s d rows els) (hk : Kept rows rows') : Own s d rows' els := by
  rcases h with h | ⟨r, ex, rfl, hl⟩
  · exact .inl h
  · exact .inr ⟨r, ex, rfl, hk _ _ hl⟩
theorem WSt.step {rows rs R1 rs' : Rows} {kb : List (BitVec 8)} {i r : Nat} {d5 : D} {ds : List D} {ex : Bool} (hkp : Kept rows rs) (hbx : live rs rows.length = some ⟨L8, bs boxL⟩) (hO : Own .ref d5 rs ds) (hdl : ds.length = i) (hW : WsAt rs ds (WS kb) rows.length)
    (hfr : ∀ r ex m, d5 = .sl .ref r [] 0 m ex → rows.length ≤ r) (hk : Kept rs R1) (hr : rows.length ≤ r) (hl : live R1 r = some ⟨L8, bs (byW (WS kb i))⟩)
    (f1 : live rs' R1.length = some ⟨.ref, ds ++ [.sl L8 r [] 0 4 ex]⟩) (f2 : ∀ q x, live R1 q = some x → (∀ ex n, d5 ≠ .sl .ref q [] 0 n ex) → live rs' q = some x) : WSt rows rs' kb (i + 1) (.sl .ref R1.length [] 0 (i + 1) false) := by
  have hO1 := Own.keep hO hk
  have ne8 : ∀ q l, live R1 q = some ⟨L8, l⟩ → live rs' q = some ⟨L8, l⟩ := fun q l h => f2 _ _ h (own_neA hO1 h (by decide))
  refine ⟨fun q row hq => f2 _ _ (hk _ _ (hkp _ _ hq)) fun ex n e => ?_, ne8 _ _ (hk _ _ hbx), ⟨ds ++ [.sl L8 r [] 0 4 ex], .inr ⟨R1.length, false, ?_, f1⟩, by simp [hdl], ?_⟩, fun q ex m e => ?_⟩
  · have := hfr _ _ _ e
    have := live_lt hq
    omega
  · rw [List.length_append, hdl]; rfl
  · refine WsAt.snoc (hW.frame fun q l h => ne8 _ _ (hk _ _ h)) hr ?_
    rw [hdl]; exact ne8 _ _ hl
  · injection e with _ e
    have := live_lt (hk _ _ hbx)
    omega
theorem chunk_W {kb : List (BitVec 8)} {n i : Nat} (hn : kb.length = 4 * n) (hi : i < n) : (kb.drop (4 * i)).take 4 = byW (WS kb i) := by
  have h := sched_lo kb n i hn hi
  have hl : ((kb.drop (4 * i)).take 4).length = 4 := by rw [List.length_take, List.length_drop]; omega
  obtain ⟨a, b, c, d, he⟩ := four4 hl
  rw [WS, h, he, byW_num]
def xzL (x q : List (BitVec 8)) (j : Nat) : List (BitVec 8) := (List.range 4).map fun k => if k < j then x.getD k 0#8 ^^^ q.getD k 0#8 else x.getD k 0#8
theorem xzL_set (x q : List (BitVec 8)) {j : Nat} (hj : j < 4) : (xzL x q j).set j (x.getD j 0#8 ^^^ q.getD j 0#8) = xzL x q (j + 1) := by
  have : j = 0 ∨ j = 1 ∨ j = 2 ∨ j = 3 := by omega
  rcases this with rfl | rfl | rfl | rfl <;> rfl
theorem xzL_get (x q : List (BitVec 8)) {j : Nat} (hj : j < 4) : (bs (xzL x q j))[j]? = some (.raw (u8 (x.getD j 0#8))) := by
  have : j = 0 ∨ j = 1 ∨ j = 2 ∨ j = 3 := by omega
  rcases this with rfl | rfl | rfl | rfl <;> rfl
theorem gm_two (c : BitVec 8) : gm c 2#8 = xt c := by
  have h : ∀ c : BitVec 8, gm c 2#8 = xt c := by decide +kernel
  exact h c
theorem cN_succ {n : Nat} {kb : List (BitVec 8)} {i : Nat} (hi : n ≤ i) : cN n kb (i + 1) = if i % n = 0 then xt (cN n kb i) else cN n kb i := by
  unfold cN
  rw [show i + 1 - n = (i - n) + 1 by omega, scN, nxS, scN_len, words_len, show n + (i - n) = i by omega]
theorem W_step {kb : List (BitVec 8)} {n i : Nat} (hn : kb.length = 4 * n) (h48 : n = 4 ∨ n = 8) (h : n ≤ i) (hi : i < 4 * n + 28) {p0 p1 p2 p3 q0 q1 q2 q3 : BitVec 8} (hP : byW (WS kb (i - 1)) = [p0, p1, p2, p3]) (hQ : byW (WS kb (i - n)) = [q0, q1, q2, q3]) :
    byW (WS kb i) = if i % n = 0 then [bx boxL p1 ^^^ cN n kb i ^^^ q0, bx boxL p2 ^^^ q1, bx boxL p3 ^^^ q2, bx boxL p0 ^^^ q3] else if 6 < n ∧ i % n = 4 then [bx boxL p0 ^^^ q0, bx boxL p1 ^^^ q1, bx boxL p2 ^^^ q2, bx boxL p3 ^^^ q3] else [p0 ^^^ q0, p1 ^^^ q1, p2 ^^^ q2, p3 ^^^ q3] := by
  have e : kb.length / 4 = n := by omega
  have eP : WS kb (i - 1) = numS [p0, p1, p2, p3] := by rw [← hP, numS_byW]
  have eQ : WS kb (i - n) = numS [q0, q1, q2, q3] := by rw [← hQ, numS_byW]
  obtain ⟨k, rfl⟩ := Nat.exists_eq_add_of_le h
  have hk : 3 * n + 28 = k + 1 + (3 * n + 27 - k) := by omega
  have h1 := scN_at n (words n kb) k (3 * n + 27 - k)
  have h2 := scN_lo n (words n kb) k (1 + (3 * n + 27 - k)) (n + k - n) (by rw [words_len]; omega)
  have h3 := scN_lo n (words n kb) k (1 + (3 * n + 27 - k)) (n + k - 1) (by rw [words_len]; omega)
  rw [← Nat.add_assoc, ← hk] at h2 h3
  rw [words_len, ← hk] at h1
  have hl : (scN n (words n kb) k).w.length = n + k := by rw [scN_len, words_len]
  have hS : sched kb = (scN n (words n kb) (3 * n + 28)).w := by rw [sched, e]
  have hc : cN n kb (n + k) = (scN n (words n kb) k).c := by rw [cN, Nat.add_sub_cancel_left]
  have w1 : (scN n (words n kb) k).w.getD (n + k - 1) 0#32 = numS [p0, p1, p2, p3] := by rw [← h3, ← hS]; exact eP
  have w2 : (scN n (words n kb) k).w.getD (n + k - n) 0#32 = numS [q0, q1, q2, q3] := by rw [← h2, ← hS]; exact eQ
  have w0 : WS kb (n + k) = tmpS n (scN n (words n kb) k) ^^^ numS [q0, q1, q2, q3] := by
    rw [WS, hS, h1, w2]
  rw [w0, tmpS, hl, w1, hc]
  split
  · rw [rol_num, sub_num, con_num, xor_num, xor_num, byW_num]
    simp
  · split
    · rw [sub_num, xor_num, byW_num]
    · rw [xor_num, byW_num]
set_option maxHeartbeats 2000000 in
theorem words_runL (C : Ctx) (hB : C.fn 37 = some fBoxesR) (hM : C.fn 14 = some fMulR) {rows : Rows} {q n : Nat} {ex : Bool} {kb : List (BitVec 8)} (hn : kb.length = 4 * n) (h48 : n = 4 ∨ n = 8) {K : D → Rows → Prop}
    (hk : ∀ rs d, WSt rows rs kb (4 * n + 28) d → K d rs) : afun C 1 r_ref03_Words a_ref03_Words [.lst L8 (bs kb) ex] rows K := by
  refine afun_mk rfl ?_
  unfold a_ref03_Words r_ref03_Words
  have e3 : ((4 * n : Nat) : Int).tdiv 4 = (n : Int) := by rcases h48 with rfl | rfl <;> rfl
  have e4 : wz (n : Int) = (n : Int) := wz_id (by omega)
  have hbl : (bs kb).length = 4 * n := by rw [bs_len, hn]
  simp only [↓amD, amU, Nat.reduceBEq, Nat.reduceAdd, Nat.reduceSub, Nat.reduceMul, Nat.reduceMod, Nat.reducePow, Nat.reduceLT, Nat.reduceDiv, Int.reduceToNat, BitVec.reduceToNat, zipEnv, Int.reduceLE, Int.reduceLT, Int.reduceNeg, BitVec.reduceEq, Int.reduceAdd, Int.reduceSub, Int.reduceMul, Nat.reduceLeDiff, Int.reduceEq, lv_app0, lv_appk, set_app0, set_appk, List.append_assoc, List.append_nil, Nat.add_assoc, hbl, e3, e4, hB, kBoxesR]
  refine kLoop_up (4 * n + 28) (fun i env rs => has env [(7, .raw (it (i : Int))), (3, .raw (it (n : Int))), (0, .lst L8 (bs kb) ex), (4, .sl L8 rows.length [] 0 256 true), (6, .raw (u8 (cN n kb i)))] ∧
    ∃ d5, look env 5 = some d5 ∧ WSt rows rs kb i d5) ?_ ?_ ⟨?_, .raw (.slice none 0 0), ?_, ?_⟩
  · rintro i hi env rs ⟨hh, d5, h5, hS⟩ R hR
    simp only [has] at hh
    obtain ⟨hkp, hbx, ⟨ds, hO, hdl, hW⟩, hfr⟩ := hS
    have e8 : wz ((n : Int) + 7) = (n : Int) + 7 := wz_id (by omega)
    have e9 : wz (4 * ((n : Int) + 7)) = 4 * ((n : Int) + 7) := wz_id (by omega)
    have e0 : ((i : Int) < 4 * ((n : Int) + 7)) = True := eq_true (by omega)
    have ei := wz_succ i (by omega)
    have b0 : ∀ n : Nat, ((0 : Int) ≤ (n : Int)) = True := fun n => eq_true (by omega)
    by_cases hin : i < n
    · have e1 : ((i : Int) < (n : Int)) = True := eq_true (by omega)
      have a0 : wz (4 * (i : Int)) = ((4 * i : Nat) : Int) := by rw [wz_id (by omega)]; omega
      have a1 : wz (((4 * i : Nat) : Int) + 4) = ((4 * i + 4 : Nat) : Int) := by rw [wz_id (by omega)]; omega
      have f2 : (((4 * i : Nat) : Int) ≤ ((4 * i + 4 : Nat) : Int)) = True := eq_true (by omega)
      have f3 : (((4 * i + 4 : Nat) : Int) ≤ ((4 * n : Nat) : Int)) = True := eq_true (by omega)
      have ch : List.take (4 * i + 4 - 4 * i) (List.drop (4 * i) (bs kb)) = bs (byW (WS kb i)) := by
        rw [← chunk_W hn hin, Nat.add_sub_cancel_left, bs_drop, bs_take]
      have cl : (bs (byW (WS kb i))).length = 4 := rfl
      have c4 : 4 * i + 4 - 4 * i = 4 := by omega
      have x1 : ((4 : Nat) ≤ 1099511627776) = True := eq_true (by decide)
      simp only [↓amD, amU, Nat.reduceBEq, Nat.reduceAdd, Nat.reduceSub, Nat.reduceMul, Nat.reduceMod, Nat.reducePow, Nat.reduceLT, Nat.reduceDiv, Int.reduceToNat, BitVec.reduceToNat, zipEnv, Int.reduceLE, Int.reduceLT, Int.reduceNeg, BitVec.reduceEq, Int.reduceAdd, Int.reduceSub, Int.reduceMul, Nat.reduceLeDiff, Int.reduceEq, lv_app0, lv_appk, set_app0, set_appk, List.append_assoc, List.append_nil, Nat.add_assoc, hh, h5, e8, e9, e0, e1, a0, a1, f2, f3, b0, hbl, ch, cl, x1]
      try simp only [c4, true_and]
      refine app_ownA hO.push (by rw [hdl]; simp [most]; omega) (by rw [hdl]; simp [most]; omega) fun rs' f1 f2 f3 => ?_
      have lr : rows.length < rs.length := live_lt hbx
      have nS := WSt.step hkp hbx hO hdl hW hfr (Kept.app _ _) (by omega) (by rw [lv_appk]; rfl) f1 f2
      rw [hdl]
      simp only [↓amD, amU, Nat.reduceBEq, Nat.reduceAdd, Nat.reduceSub, Nat.reduceMul, Nat.reduceMod, Nat.reducePow, Nat.reduceLT, Nat.reduceDiv, Int.reduceToNat, BitVec.reduceToNat, zipEnv, Int.reduceLE, Int.reduceLT, Int.reduceNeg, BitVec.reduceEq, Int.reduceAdd, Int.reduceSub, Int.reduceMul, Nat.reduceLeDiff, Int.reduceEq, lv_app0, lv_appk, set_app0, set_appk, List.append_assoc, List.append_nil, Nat.add_assoc, hh, ei]
      refine hR _ _ ⟨?_, _, by simp only [↓amD, amU, Nat.reduceBEq, Nat.reduceAdd, Nat.reduceSub, Nat.reduceMul, Nat.reduceMod, Nat.reducePow, Nat.reduceLT, Nat.reduceDiv, Int.reduceToNat, BitVec.reduceToNat, zipEnv, Int.reduceLE, Int.reduceLT, Int.reduceNeg, BitVec.reduceEq, Int.reduceAdd, Int.reduceSub, Int.reduceMul, Nat.reduceLeDiff, Int.reduceEq], nS⟩
      have ec : cN n kb (i + 1) = cN n kb i := by
        unfold cN
        rw [show i + 1 - n = 0 by omega, show i - n = 0 by omega]
      rw [ec]
      simp only [has, ↓amD, amU, Nat.reduceBEq, Nat.reduceAdd, Nat.reduceSub, Nat.reduceMul, Nat.reduceMod, Nat.reducePow, Nat.reduceLT, Nat.reduceDiv, Int.reduceToNat, BitVec.reduceToNat, zipEnv, Int.reduceLE, Int.reduceLT, Int.reduceNeg, BitVec.reduceEq, Int.reduceAdd, Int.reduceSub, Int.reduceMul, Nat.reduceLeDiff, Int.reduceEq, hh]
    · have e1 : ((i : Int) < (n : Int)) = False := eq_false (by omega)
      obtain ⟨r1, ex1, hd1, -, hl1⟩ := hW (i - 1) (by omega)
      obtain ⟨r2, ex2, hd2, -, hl2⟩ := hW (i - n) (by omega)
      obtain ⟨p0, p1, p2, p3, hP⟩ : ∃ p0 p1 p2 p3, byW (WS kb (i - 1)) = [p0, p1, p2, p3] := ⟨_, _, _, _, rfl⟩
      obtain ⟨q0, q1, q2, q3, hQ⟩ : ∃ q0 q1 q2 q3, byW (WS kb (i - n)) = [q0, q1, q2, q3] := ⟨_, _, _, _, rfl⟩
      have hWi := W_step hn h48 (by omega) hi hP hQ
      have hcs := cN_succ (n := n) (kb := kb) (i := i) (by omega)
      rw [hP] at hl1
      rw [hQ] at hl2
      have hl1 : live rs r1 = some ⟨L8, [.raw (u8 p0), .raw (u8 p1), .raw (u8 p2), .raw (u8 p3)]⟩ := hl1
      have tk : List.take 4 [D.raw (u8 p0), .raw (u8 p1), .raw (u8 p2), .raw (u8 p3)] = [.raw (u8 p0), .raw (u8 p1), .raw (u8 p2), .raw (u8 p3)] := rfl
      have ei1 : (((i - 1 : Nat) : Int) < (i : Int)) = True := eq_true (by omega)
      obtain ⟨m5, e5, rfl, hm5⟩ : ∃ m5 e5, d5 = .sl .ref m5 [] 0 i e5 ∧ live rs m5 = some ⟨.ref, ds⟩ := by
        rcases hO with ⟨h1, -⟩ | ⟨m5, e5, rfl, hm⟩
        · rw [h1] at hdl; simp at hdl; omega
        · exact ⟨m5, e5, by rw [hdl], hm⟩
      have a1 : wz ((i : Int) - 1) = ((i - 1 : Nat) : Int) := by rw [wz_id (by omega)]; omega
      have an : wz ((i : Int) - (n : Int)) = ((i - n : Nat) : Int) := by rw [wz_id (by omega)]; omega
      have x1 : ∀ rows k2, kIdx .ref ((i - 1 : Nat) : Int) rows k2 (.sl .ref m5 [] 0 i e5) = k2 (.ptr .ref m5 [i - 1]) rows := by
        intro rows k2; simp only [↓amD, amU, Nat.reduceBEq, Nat.reduceAdd, Nat.reduceSub, Nat.reduceMul, Nat.reduceMod, Nat.reducePow, Nat.reduceLT, Nat.reduceDiv, Int.reduceToNat, BitVec.reduceToNat, zipEnv, Int.reduceLE, Int.reduceLT, Int.reduceNeg, BitVec.reduceEq, Int.reduceAdd, Int.reduceSub, Int.reduceMul, Nat.reduceLeDiff, Int.reduceEq, b0, eq_true (by omega : ((i - 1 : Nat) : Int) < (i : Int))]
      have hm5' := fun L => live_push (more := L) hm5
      have hl1' := fun L => live_push (more := L) hl1
      have hbx' := fun L => live_push (more := L) hbx
      have d1 : ((n : Int) = 0) = False := eq_false (by omega)
      have d2 : (i : Int).tmod (n : Int) = ((i % n : Nat) : Int) := rfl
      have d8 : (i : Int).tmod 8 = ((i % 8 : Nat) : Int) := rfl
      have g4 : (4 ≤ 1099511627776) = True := eq_true (by decide)
      have lt2 := live_lt hl2
      have lt5 := live_lt hm5
      have bg : ∀ x : BitVec 8, ((x.toNat : Int) < 256) = True := fun x => eq_true (by have := x.isLt; omega)
      have bn : ∀ x : BitVec 8, ((x.toNat : Int)).toNat = x.toNat := fun x => rfl
      by_cases h0 : i % n = 0
      · have d3 : (((i % n : Nat) : Int) = 0) = True := eq_true (by omega)
        rw [if_pos h0] at hWi hcs
        simp only [↓amD, amU, Nat.reduceBEq, Nat.reduceAdd, Nat.reduceSub, Nat.reduceMul, Nat.reduceMod, Nat.reducePow, Nat.reduceLT, Nat.reduceDiv, Int.reduceToNat, BitVec.reduceToNat, zipEnv, Int.reduceLE, Int.reduceLT, Int.reduceNeg, BitVec.reduceEq, Int.reduceAdd, Int.reduceSub, Int.reduceMul, Nat.reduceLeDiff, Int.reduceEq, lv_app0, lv_appk, set_app0, set_appk, List.append_assoc, List.append_nil, Nat.add_assoc, hh, h5, e8, e9, e0, e1, ei1, tk, a1, b0, x1, hm5', hd1, hl1', g4, d1, d2, d3, hbx', box_get, bg, hM, kMulR, gm_two]
        refine kLoop_up 4 (fun j env rt => has env [(110, .raw (it (j : Int))), (109, .raw (it 4)), (8, .sl L8 (rs.length + 2) [] 0 4 true), (5, .sl .ref m5 [] 0 i e5), (7, .raw (it (i : Int))), (3, .raw (it (n : Int))), (0, .lst L8 (bs kb) ex), (4, .sl L8 rows.length [] 0 256 true), (6, .raw (u8 (xt (cN n kb i))))] ∧
          Kept rs rt ∧ live rt (rs.length + 2) = some ⟨L8, bs (xzL [bx boxL p1 ^^^ cN n kb i, bx boxL p2, bx boxL p3, bx boxL p0] [q0, q1, q2, q3] j)⟩) ?_ ?_ ⟨?_, Kept.app _ _, ?_⟩
        · rintro j hj env rt ⟨hv, hkt, lt⟩ R' hR'
          simp only [has] at hv
          have g0 : ((j : Int) < 4) = True := eq_true (by omega)
          have gj := wz_succ j (by omega)
          have lm := hkt _ _ hm5
          have ein : (((i - n : Nat) : Int) < (i : Int)) = True := eq_true (by omega)
          have l2 := hkt _ _ hl2
          have gx := xzL_get [bx boxL p1 ^^^ cN n kb i, bx boxL p2, bx boxL p3, bx boxL p0] [q0, q1, q2, q3] hj
          have gs := xzL_set [bx boxL p1 ^^^ cN n kb i, bx boxL p2, bx boxL p3, bx boxL p0] [q0, q1, q2, q3] hj
          have gq : (bs [q0, q1, q2, q3])[j]? = some (.raw (u8 (([q0, q1, q2, q3] : List (BitVec 8)).getD j 0#8))) := bs_get hj
          have gn : ∀ rows k2, kIdx .ref ((i - n : Nat) : Int) rows k2 (.sl .ref m5 [] 0 i e5) = k2 (.ptr .ref m5 [i - n]) rows := by
            intro rows k2; simp only [↓amD, amU, Nat.reduceBEq, Nat.reduceAdd, Nat.reduceSub, Nat.reduceMul, Nat.reduceMod, Nat.reducePow, Nat.reduceLT, Nat.reduceDiv, Int.reduceToNat, BitVec.reduceToNat, zipEnv, Int.reduceLE, Int.reduceLT, Int.reduceNeg, BitVec.reduceEq, Int.reduceAdd, Int.reduceSub, Int.reduceMul, Nat.reduceLeDiff, Int.reduceEq, b0, eq_true (by omega : ((i - n : Nat) : Int) < (i : Int))]
          simp only [↓amD, amU, Nat.reduceBEq, Nat.reduceAdd, Nat.reduceSub, Nat.reduceMul, Nat.reduceMod, Nat.reducePow, Nat.reduceLT, Nat.reduceDiv, Int.reduceToNat, BitVec.reduceToNat, zipEnv, Int.reduceLE, Int.reduceLT, Int.reduceNeg, BitVec.reduceEq, Int.reduceAdd, Int.reduceSub, Int.reduceMul, Nat.reduceLeDiff, Int.reduceEq, hv, g0, gj, b0, lt, lm, l2, gx, gs, gq, an, gn, hd2, bs_set, ein]
          exact hR' _ _ ⟨by simp only [has, ↓amD, amU, Nat.reduceBEq, Nat.reduceAdd, Nat.reduceSub, Nat.reduceMul, Nat.reduceMod, Nat.reducePow, Nat.reduceLT, Nat.reduceDiv, Int.reduceToNat, BitVec.reduceToNat, zipEnv, Int.reduceLE, Int.reduceLT, Int.reduceNeg, BitVec.reduceEq, Int.reduceAdd, Int.reduceSub, Int.reduceMul, Nat.reduceLeDiff, Int.reduceEq, hv], fun q row hq => by rw [live_set_ne (by have := live_lt hq; omega)]; exact hkt _ _ hq, live_set_same lt⟩
        · rintro env rt ⟨hv, hkt, lt⟩ R'
          simp only [has] at hv
          have xe : xzL [bx boxL p1 ^^^ cN n kb i, bx boxL p2, bx boxL p3, bx boxL p0] [q0, q1, q2, q3] 4 = byW (WS kb i) := hWi.symm
          rw [xe] at lt
          clear x1
          generalize D.sl .ref m5 [] 0 i e5 = d5 at hO hv hfr ⊢
          have hO' := Own.keep hO hkt
          have lr : rows.length < rs.length := live_lt hbx
          simp only [↓amD, amU, Nat.reduceBEq, Nat.reduceAdd, Nat.reduceSub, Nat.reduceMul, Nat.reduceMod, Nat.reducePow, Nat.reduceLT, Nat.reduceDiv, Int.reduceToNat, BitVec.reduceToNat, zipEnv, Int.reduceLE, Int.reduceLT, Int.reduceNeg, BitVec.reduceEq, Int.reduceAdd, Int.reduceSub, Int.reduceMul, Nat.reduceLeDiff, Int.reduceEq, lv_app0, lv_appk, set_app0, set_appk, List.append_assoc, List.append_nil, Nat.add_assoc, hv]
          refine app_ownA hO'.push (by rw [hdl]; simp [most]; omega) (by rw [hdl]; simp [most]; omega) fun rs' f1 f2 f3 => ?_
          have nS := WSt.step hkp hbx hO hdl hW hfr (hkt.trans (Kept.app _ _)) (by omega) (live_push lt) f1 f2
          rw [hdl]
          simp only [↓amD, amU, Nat.reduceBEq, Nat.reduceAdd, Nat.reduceSub, Nat.reduceMul, Nat.reduceMod, Nat.reducePow, Nat.reduceLT, Nat.reduceDiv, Int.reduceToNat, BitVec.reduceToNat, zipEnv, Int.reduceLE, Int.reduceLT, Int.reduceNeg, BitVec.reduceEq, Int.reduceAdd, Int.reduceSub, Int.reduceMul, Nat.reduceLeDiff, Int.reduceEq, lv_app0, lv_appk, set_app0, set_appk, List.append_assoc, List.append_nil, Nat.add_assoc, hv, ei]
          refine hR _ _ ⟨?_, _, by simp only [↓amD, amU, Nat.reduceBEq, Nat.reduceAdd, Nat.reduceSub, Nat.reduceMul, Nat.reduceMod, Nat.reducePow, Nat.reduceLT, Nat.reduceDiv, Int.reduceToNat, BitVec.reduceToNat, zipEnv, Int.reduceLE, Int.reduceLT, Int.reduceNeg, BitVec.reduceEq, Int.reduceAdd, Int.reduceSub, Int.reduceMul, Nat.reduceLeDiff, Int.reduceEq], nS⟩
          rw [hcs]
          simp only [has, ↓amD, amU, Nat.reduceBEq, Nat.reduceAdd, Nat.reduceSub, Nat.reduceMul, Nat.reduceMod, Nat.reducePow, Nat.reduceLT, Nat.reduceDiv, Int.reduceToNat, BitVec.reduceToNat, zipEnv, Int.reduceLE, Int.reduceLT, Int.reduceNeg, BitVec.reduceEq, Int.reduceAdd, Int.reduceSub, Int.reduceMul, Nat.reduceLeDiff, Int.reduceEq, hv]
        · simp only [has, ↓amD, amU, Nat.reduceBEq, Nat.reduceAdd, Nat.reduceSub, Nat.reduceMul, Nat.reduceMod, Nat.reducePow, Nat.reduceLT, Nat.reduceDiv, Int.reduceToNat, BitVec.reduceToNat, zipEnv, Int.reduceLE, Int.reduceLT, Int.reduceNeg, BitVec.reduceEq, Int.reduceAdd, Int.reduceSub, Int.reduceMul, Nat.reduceLeDiff, Int.reduceEq, hh, h5]
        · rw [lv_appk]; rfl
      · have d3 : (((i % n : Nat) : Int) = 0) = False := eq_false (by omega)
        rw [if_neg h0] at hWi hcs
        by_cases h8 : n = 8
        · have d4 : ((n : Int) = 8) = True := eq_true (by omega)
          by_cases h44 : i % 8 = 4
          · have d5 : (((i % 8 : Nat) : Int) = 4) = True := eq_true (by omega)
            rw [if_pos ⟨by omega, by rw [h8]; exact h44⟩] at hWi
            simp only [↓amD, amU, Nat.reduceBEq, Nat.reduceAdd, Nat.reduceSub, Nat.reduceMul, Nat.reduceMod, Nat.reducePow, Nat.reduceLT, Nat.reduceDiv, Int.reduceToNat, BitVec.reduceToNat, zipEnv, Int.reduceLE, Int.reduceLT, Int.reduceNeg, BitVec.reduceEq, Int.reduceAdd, Int.reduceSub, Int.reduceMul, Nat.reduceLeDiff, Int.reduceEq, lv_app0, lv_appk, set_app0, set_appk, List.append_assoc, List.append_nil, Nat.add_assoc, hh, h5, e8, e9, e0, e1, ei1, tk, a1, b0, x1, hm5', hd1, hl1', g4, d1, d2, d3, d4, d5, d8, hbx', box_get, bg, hM, kMulR, gm_two]
            refine kLoop_up 4 (fun j env rt => has env [(110, .raw (it (j : Int))), (109, .raw (it 4)), (8, .sl L8 (rs.length + 2) [] 0 4 true), (5, .sl .ref m5 [] 0 i e5), (7, .raw (it (i : Int))), (3, .raw (it (n : Int))), (0, .lst L8 (bs kb) ex), (4, .sl L8 rows.length [] 0 256 true), (6, .raw (u8 (cN n kb i)))] ∧
              Kept rs rt ∧ live rt (rs.length + 2) = some ⟨L8, bs (xzL [bx boxL p0, bx boxL p1, bx boxL p2, bx boxL p3] [q0, q1, q2, q3] j)⟩) ?_ ?_ ⟨?_, Kept.app _ _, ?_⟩
            · rintro j hj env rt ⟨hv, hkt, lt⟩ R' hR'
              simp only [has] at hv
              have g0 : ((j : Int) < 4) = True := eq_true (by omega)
              have gj := wz_succ j (by omega)
              have lm := hkt _ _ hm5
              have ein : (((i - n : Nat) : Int) < (i : Int)) = True := eq_true (by omega)
              have l2 := hkt _ _ hl2
              have gx := xzL_get [bx boxL p0, bx boxL p1, bx boxL p2, bx boxL p3] [q0, q1, q2, q3] hj
              have gs := xzL_set [bx boxL p0, bx boxL p1, bx boxL p2, bx boxL p3] [q0, q1, q2, q3] hj
              have gq : (bs [q0, q1, q2, q3])[j]? = some (.raw (u8 (([q0, q1, q2, q3] : List (BitVec 8)).getD j 0#8))) := bs_get hj
              have gn : ∀ rows k2, kIdx .ref ((i - n : Nat) : Int) rows k2 (.sl .ref m5 [] 0 i e5) = k2 (.ptr .ref m5 [i - n]) rows := by
                intro rows k2; simp only [↓amD, amU, Nat.reduceBEq, Nat.reduceAdd, Nat.reduceSub, Nat.reduceMul, Nat.reduceMod, Nat.reducePow, Nat.reduceLT, Nat.reduceDiv, Int.reduceToNat, BitVec.reduceToNat, zipEnv, Int.reduceLE, Int.reduceLT, Int.reduceNeg, BitVec.reduceEq, Int.reduceAdd, Int.reduceSub, Int.reduceMul, Nat.reduceLeDiff, Int.reduceEq, b0, eq_true (by omega : ((i - n : Nat) : Int) < (i : Int))]
              simp only [↓amD, amU, Nat.reduceBEq, Nat.reduceAdd, Nat.reduceSub, Nat.reduceMul, Nat.reduceMod, Nat.reducePow, Nat.reduceLT, Nat.reduceDiv, Int.reduceToNat, BitVec.reduceToNat, zipEnv, Int.reduceLE, Int.reduceLT, Int.reduceNeg, BitVec.reduceEq, Int.reduceAdd, Int.reduceSub, Int.reduceMul, Nat.reduceLeDiff, Int.reduceEq, hv, g0, gj, b0, lt, lm, l2, gx, gs, gq, an, gn, hd2, bs_set, ein]
              exact hR' _ _ ⟨by simp only [has, ↓amD, amU, Nat.reduceBEq, Nat.reduceAdd, Nat.reduceSub, Nat.reduceMul, Nat.reduceMod, Nat.reducePow, Nat.reduceLT, Nat.reduceDiv, Int.reduceToNat, BitVec.reduceToNat, zipEnv, Int.reduceLE, Int.reduceLT, Int.reduceNeg, BitVec.reduceEq, Int.reduceAdd, Int.reduceSub, Int.reduceMul, Nat.reduceLeDiff, Int.reduceEq, hv], fun q row hq => by rw [live_set_ne (by have := live_lt hq; omega)]; exact hkt _ _ hq, live_set_same lt⟩
            · rintro env rt ⟨hv, hkt, lt⟩ R'
              simp only [has] at hv
              have xe : xzL [bx boxL p0, bx boxL p1, bx boxL p2, bx boxL p3] [q0, q1, q2, q3] 4 = byW (WS kb i) := hWi.symm
              rw [xe] at lt
              clear x1
              generalize D.sl .ref m5 [] 0 i e5 = d5 at hO hv hfr ⊢
              have hO' := Own.keep hO hkt
              have lr : rows.length < rs.length := live_lt hbx
              simp only [↓amD, amU, Nat.reduceBEq, Nat.reduceAdd, Nat.reduceSub, Nat.reduceMul, Nat.reduceMod, Nat.reducePow, Nat.reduceLT, Nat.reduceDiv, Int.reduceToNat, BitVec.reduceToNat, zipEnv, Int.reduceLE, Int.reduceLT, Int.reduceNeg, BitVec.reduceEq, Int.reduceAdd, Int.reduceSub, Int.reduceMul, Nat.reduceLeDiff, Int.reduceEq, lv_app0, lv_appk, set_app0, set_appk, List.append_assoc, List.append_nil, Nat.add_assoc, hv]
              refine app_ownA hO'.push (by rw [hdl]; simp [most]; omega) (by rw [hdl]; simp [most]; omega) fun rs' f1 f2 f3 => ?_
              have nS := WSt.step hkp hbx hO hdl hW hfr (hkt.trans (Kept.app _ _)) (by omega) (live_push lt) f1 f2
              rw [hdl]
              simp only [↓amD, amU, Nat.reduceBEq, Nat.reduceAdd, Nat.reduceSub, Nat.reduceMul, Nat.reduceMod, Nat.reducePow, Nat.reduceLT, Nat.reduceDiv, Int.reduceToNat, BitVec.reduceToNat, zipEnv, Int.reduceLE, Int.reduceLT, Int.reduceNeg, BitVec.reduceEq, Int.reduceAdd, Int.reduceSub, Int.reduceMul, Nat.reduceLeDiff, Int.reduceEq, lv_app0, lv_appk, set_app0, set_appk, List.append_assoc, List.append_nil, Nat.add_assoc, hv, ei]
              refine hR _ _ ⟨?_, _, by simp only [↓amD, amU, Nat.reduceBEq, Nat.reduceAdd, Nat.reduceSub, Nat.reduceMul, Nat.reduceMod, Nat.reducePow, Nat.reduceLT, Nat.reduceDiv, Int.reduceToNat, BitVec.reduceToNat, zipEnv, Int.reduceLE, Int.reduceLT, Int.reduceNeg, BitVec.reduceEq, Int.reduceAdd, Int.reduceSub, Int.reduceMul, Nat.reduceLeDiff, Int.reduceEq], nS⟩
              rw [hcs]
              simp only [has, ↓amD, amU, Nat.reduceBEq, Nat.reduceAdd, Nat.reduceSub, Nat.reduceMul, Nat.reduceMod, Nat.reducePow, Nat.reduceLT, Nat.reduceDiv, Int.reduceToNat, BitVec.reduceToNat, zipEnv, Int.reduceLE, Int.reduceLT, Int.reduceNeg, BitVec.reduceEq, Int.reduceAdd, Int.reduceSub, Int.reduceMul, Nat.reduceLeDiff, Int.reduceEq, hv]
            · simp only [has, ↓amD, amU, Nat.reduceBEq, Nat.reduceAdd, Nat.reduceSub, Nat.reduceMul, Nat.reduceMod, Nat.reducePow, Nat.reduceLT, Nat.reduceDiv, Int.reduceToNat, BitVec.reduceToNat, zipEnv, Int.reduceLE, Int.reduceLT, Int.reduceNeg, BitVec.reduceEq, Int.reduceAdd, Int.reduceSub, Int.reduceMul, Nat.reduceLeDiff, Int.reduceEq, hh, h5]
            · rw [lv_appk]; rfl
          · have d5 : (((i % 8 : Nat) : Int) = 4) = False := eq_false (by omega)
            rw [if_neg (fun h => h44 (by rw [h8] at h; exact h.2))] at hWi
            simp only [↓amD, amU, Nat.reduceBEq, Nat.reduceAdd, Nat.reduceSub, Nat.reduceMul, Nat.reduceMod, Nat.reducePow, Nat.reduceLT, Nat.reduceDiv, Int.reduceToNat, BitVec.reduceToNat, zipEnv, Int.reduceLE, Int.reduceLT, Int.reduceNeg, BitVec.reduceEq, Int.reduceAdd, Int.reduceSub, Int.reduceMul, Nat.reduceLeDiff, Int.reduceEq, lv_app0, lv_appk, set_app0, set_appk, List.append_assoc, List.append_nil, Nat.add_assoc, hh, h5, e8, e9, e0, e1, ei1, tk, a1, b0, x1, hm5', hd1, hl1', g4, d1, d2, d3, d4, d5, d8, hbx', box_get, bg, hM, kMulR, gm_two]
            refine kLoop_up 4 (fun j env rt => has env [(110, .raw (it (j : Int))), (109, .raw (it 4)), (8, .sl L8 (rs.length + 1) [] 0 4 false), (5, .sl .ref m5 [] 0 i e5), (7, .raw (it (i : Int))), (3, .raw (it (n : Int))), (0, .lst L8 (bs kb) ex), (4, .sl L8 rows.length [] 0 256 true), (6, .raw (u8 (cN n kb i)))] ∧
              Kept rs rt ∧ live rt (rs.length + 1) = some ⟨L8, bs (xzL [p0, p1, p2, p3] [q0, q1, q2, q3] j)⟩) ?_ ?_ ⟨?_, Kept.app _ _, ?_⟩
            · rintro j hj env rt ⟨hv, hkt, lt⟩ R' hR'
              simp only [has] at hv
              have g0 : ((j : Int) < 4) = True := eq_true (by omega)
              have gj := wz_succ j (by omega)
              have lm := hkt _ _ hm5
              have ein : (((i - n : Nat) : Int) < (i : Int)) = True := eq_true (by omega)
              have l2 := hkt _ _ hl2
              have gx := xzL_get [p0, p1, p2, p3] [q0, q1, q2, q3] hj
              have gs := xzL_set [p0, p1, p2, p3] [q0, q1, q2, q3] hj
              have gq : (bs [q0, q1, q2, q3])[j]? = some (.raw (u8 (([q0, q1, q2, q3] : List (BitVec 8)).getD j 0#8))) := bs_get hj
              have gn : ∀ rows k2, kIdx .ref ((i - n : Nat) : Int) rows k2 (.sl .ref m5 [] 0 i e5) = k2 (.ptr .ref m5 [i - n]) rows := by
                intro rows k2; simp only [↓amD, amU, Nat.reduceBEq, Nat.reduceAdd, Nat.reduceSub, Nat.reduceMul, Nat.reduceMod, Nat.reducePow, Nat.reduceLT, Nat.reduceDiv, Int.reduceToNat, BitVec.reduceToNat, zipEnv, Int.reduceLE, Int.reduceLT, Int.reduceNeg, BitVec.reduceEq, Int.reduceAdd, Int.reduceSub, Int.reduceMul, Nat.reduceLeDiff, Int.reduceEq, b0, eq_true (by omega : ((i - n : Nat) : Int) < (i : Int))]
              simp only [↓amD, amU, Nat.reduceBEq, Nat.reduceAdd, Nat.reduceSub, Nat.reduceMul, Nat.reduceMod, Nat.reducePow, Nat.reduceLT, Nat.reduceDiv, Int.reduceToNat, BitVec.reduceToNat, zipEnv, Int.reduceLE, Int.reduceLT, Int.reduceNeg, BitVec.reduceEq, Int.reduceAdd, Int.reduceSub, Int.reduceMul, Nat.reduceLeDiff, Int.reduceEq, hv, g0, gj, b0, lt, lm, l2, gx, gs, gq, an, gn, hd2, bs_set, ein]
              exact hR' _ _ ⟨by simp only [has, ↓amD, amU, Nat.reduceBEq, Nat.reduceAdd, Nat.reduceSub, Nat.reduceMul, Nat.reduceMod, Nat.reducePow, Nat.reduceLT, Nat.reduceDiv, Int.reduceToNat, BitVec.reduceToNat, zipEnv, Int.reduceLE, Int.reduceLT, Int.reduceNeg, BitVec.reduceEq, Int.reduceAdd, Int.reduceSub, Int.reduceMul, Nat.reduceLeDiff, Int.reduceEq, hv], fun q row hq => by rw [live_set_ne (by have := live_lt hq; omega)]; exact hkt _ _ hq, live_set_same lt⟩
            · rintro env rt ⟨hv, hkt, lt⟩ R'
              simp only [has] at hv
              have xe : xzL [p0, p1, p2, p3] [q0, q1, q2, q3] 4 = byW (WS kb i) := hWi.symm
              rw [xe] at lt
              clear x1
              generalize D.sl .ref m5 [] 0 i e5 = d5 at hO hv hfr ⊢
              have hO' := Own.keep hO hkt
              have lr : rows.length < rs.length := live_lt hbx
              simp only [↓amD, amU, Nat.reduceBEq, Nat.reduceAdd, Nat.reduceSub, Nat.reduceMul, Nat.reduceMod, Nat.reducePow, Nat.reduceLT, Nat.reduceDiv, Int.reduceToNat, BitVec.reduceToNat, zipEnv, Int.reduceLE, Int.reduceLT, Int.reduceNeg, BitVec.reduceEq, Int.reduceAdd, Int.reduceSub, Int.reduceMul, Nat.reduceLeDiff, Int.reduceEq, lv_app0, lv_appk, set_app0, set_appk, List.append_assoc, List.append_nil, Nat.add_assoc, hv]
              refine app_ownA hO'.push (by rw [hdl]; simp [most]; omega) (by rw [hdl]; simp [most]; omega) fun rs' f1 f2 f3 => ?_
              have nS := WSt.step hkp hbx hO hdl hW hfr (hkt.trans (Kept.app _ _)) (by omega) (live_push lt) f1 f2
              rw [hdl]
              simp only [↓amD, amU, Nat.reduceBEq, Nat.reduceAdd, Nat.reduceSub, Nat.reduceMul, Nat.reduceMod, Nat.reducePow, Nat.reduceLT, Nat.reduceDiv, Int.reduceToNat, BitVec.reduceToNat, zipEnv, Int.reduceLE, Int.reduceLT, Int.reduceNeg, BitVec.reduceEq, Int.reduceAdd, Int.reduceSub, Int.reduceMul, Nat.reduceLeDiff, Int.reduceEq, lv_app0, lv_appk, set_app0, set_appk, List.append_assoc, List.append_nil, Nat.add_assoc, hv, ei]
              refine hR _ _ ⟨?_, _, by simp only [↓amD, amU, Nat.reduceBEq, Nat.reduceAdd, Nat.reduceSub, Nat.reduceMul, Nat.reduceMod, Nat.reducePow, Nat.reduceLT, Nat.reduceDiv, Int.reduceToNat, BitVec.reduceToNat, zipEnv, Int.reduceLE, Int.reduceLT, Int.reduceNeg, BitVec.reduceEq, Int.reduceAdd, Int.reduceSub, Int.reduceMul, Nat.reduceLeDiff, Int.reduceEq], nS⟩
              rw [hcs]
              simp only [has, ↓amD, amU, Nat.reduceBEq, Nat.reduceAdd, Nat.reduceSub, Nat.reduceMul, Nat.reduceMod, Nat.reducePow, Nat.reduceLT, Nat.reduceDiv, Int.reduceToNat, BitVec.reduceToNat, zipEnv, Int.reduceLE, Int.reduceLT, Int.reduceNeg, BitVec.reduceEq, Int.reduceAdd, Int.reduceSub, Int.reduceMul, Nat.reduceLeDiff, Int.reduceEq, hv]
            · simp only [has, ↓amD, amU, Nat.reduceBEq, Nat.reduceAdd, Nat.reduceSub, Nat.reduceMul, Nat.reduceMod, Nat.reducePow, Nat.reduceLT, Nat.reduceDiv, Int.reduceToNat, BitVec.reduceToNat, zipEnv, Int.reduceLE, Int.reduceLT, Int.reduceNeg, BitVec.reduceEq, Int.reduceAdd, Int.reduceSub, Int.reduceMul, Nat.reduceLeDiff, Int.reduceEq, hh, h5]
            · rw [lv_appk]; rfl
        · have d4 : ((n : Int) = 8) = False := eq_false (by omega)
          rw [if_neg (fun h => by omega)] at hWi
          simp only [↓amD, amU, Nat.reduceBEq, Nat.reduceAdd, Nat.reduceSub, Nat.reduceMul, Nat.reduceMod, Nat.reducePow, Nat.reduceLT, Nat.reduceDiv, Int.reduceToNat, BitVec.reduceToNat, zipEnv, Int.reduceLE, Int.reduceLT, Int.reduceNeg, BitVec.reduceEq, Int.reduceAdd, Int.reduceSub, Int.reduceMul, Nat.reduceLeDiff, Int.reduceEq, lv_app0, lv_appk, set_app0, set_appk, List.append_assoc, List.append_nil, Nat.add_assoc, hh, h5, e8, e9, e0, e1, ei1, tk, a1, b0, x1, hm5', hd1, hl1', g4, d1, d2, d3, d4, d8, hbx', box_get, bg, hM, kMulR, gm_two]
          refine kLoop_up 4 (fun j env rt => has env [(110, .raw (it (j : Int))), (109, .raw (it 4)), (8, .sl L8 (rs.length + 1) [] 0 4 false), (5, .sl .ref m5 [] 0 i e5), (7, .raw (it (i : Int))), (3, .raw (it (n : Int))), (0, .lst L8 (bs kb) ex), (4, .sl L8 rows.length [] 0 256 true), (6, .raw (u8 (cN n kb i)))] ∧
            Kept rs rt ∧ live rt (rs.length + 1) = some ⟨L8, bs (xzL [p0, p1, p2, p3] [q0, q1, q2, q3] j)⟩) ?_ ?_ ⟨?_, Kept.app _ _, ?_⟩
          · rintro j hj env rt ⟨hv, hkt, lt⟩ R' hR'
            simp only [has] at hv
            have g0 : ((j : Int) < 4) = True := eq_true (by omega)
            have gj := wz_succ j (by omega)
            have lm := hkt _ _ hm5
            have ein : (((i - n : Nat) : Int) < (i : Int)) = True := eq_true (by omega)
            have l2 := hkt _ _ hl2
            have gx := xzL_get [p0, p1, p2, p3] [q0, q1, q2, q3] hj
            have gs := xzL_set [p0, p1, p2, p3] [q0, q1, q2, q3] hj
            have gq : (bs [q0, q1, q2, q3])[j]? = some (.raw (u8 (([q0, q1, q2, q3] : List (BitVec 8)).getD j 0#8))) := bs_get hj
            have gn : ∀ rows k2, kIdx .ref ((i - n : Nat) : Int) rows k2 (.sl .ref m5 [] 0 i e5) = k2 (.ptr .ref m5 [i - n]) rows := by
              intro rows k2; simp only [↓amD, amU, Nat.reduceBEq, Nat.reduceAdd, Nat.reduceSub, Nat.reduceMul, Nat.reduceMod, Nat.reducePow, Nat.reduceLT, Nat.reduceDiv, Int.reduceToNat, BitVec.reduceToNat, zipEnv, Int.reduceLE, Int.reduceLT, Int.reduceNeg, BitVec.reduceEq, Int.reduceAdd, Int.reduceSub, Int.reduceMul, Nat.reduceLeDiff, Int.reduceEq, b0, eq_true (by omega : ((i - n : Nat) : Int) < (i : Int))]
            simp only [↓amD, amU, Nat.reduceBEq, Nat.reduceAdd, Nat.reduceSub, Nat.reduceMul, Nat.reduceMod, Nat.reducePow, Nat.reduceLT, Nat.reduceDiv, Int.reduceToNat, BitVec.reduceToNat, zipEnv, Int.reduceLE, Int.reduceLT, Int.reduceNeg, BitVec.reduceEq, Int.reduceAdd, Int.reduceSub, Int.reduceMul, Nat.reduceLeDiff, Int.reduceEq, hv, g0, gj, b0, lt, lm, l2, gx, gs, gq, an, gn, hd2, bs_set, ein]
            exact hR' _ _ ⟨by simp only [has, ↓amD, amU, Nat.reduceBEq, Nat.reduceAdd, Nat.reduceSub, Nat.reduceMul, Nat.reduceMod, Nat.reducePow, Nat.reduceLT, Nat.reduceDiv, Int.reduceToNat, BitVec.reduceToNat, zipEnv, Int.reduceLE, Int.reduceLT, Int.reduceNeg, BitVec.reduceEq, Int.reduceAdd, Int.reduceSub, Int.reduceMul, Nat.reduceLeDiff, Int.reduceEq, hv], fun q row hq => by rw [live_set_ne (by have := live_lt hq; omega)]; exact hkt _ _ hq, live_set_same lt⟩
          · rintro env rt ⟨hv, hkt, lt⟩ R'
            simp only [has] at hv
            have xe : xzL [p0, p1, p2, p3] [q0, q1, q2, q3] 4 = byW (WS kb i) := hWi.symm
            rw [xe] at lt
            clear x1
            generalize D.sl .ref m5 [] 0 i e5 = d5 at hO hv hfr ⊢
            have hO' := Own.keep hO hkt
            have lr : rows.length < rs.length := live_lt hbx
            simp only [↓amD, amU, Nat.reduceBEq, Nat.reduceAdd, Nat.reduceSub, Nat.reduceMul, Nat.reduceMod, Nat.reducePow, Nat.reduceLT, Nat.reduceDiv, Int.reduceToNat, BitVec.reduceToNat, zipEnv, Int.reduceLE, Int.reduceLT, Int.reduceNeg, BitVec.reduceEq, Int.reduceAdd, Int.reduceSub, Int.reduceMul, Nat.reduceLeDiff, Int.reduceEq, lv_app0, lv_appk, set_app0, set_appk, List.append_assoc, List.append_nil, Nat.add_assoc, hv]
            refine app_ownA hO'.push (by rw [hdl]; simp [most]; omega) (by rw [hdl]; simp [most]; omega) fun rs' f1 f2 f3 => ?_
            have nS := WSt.step hkp hbx hO hdl hW hfr (hkt.trans (Kept.app _ _)) (by omega) (live_push lt) f1 f2
            rw [hdl]
            simp only [↓amD, amU, Nat.reduceBEq, Nat.reduceAdd, Nat.reduceSub, Nat.reduceMul, Nat.reduceMod, Nat.reducePow, Nat.reduceLT, Nat.reduceDiv, Int.reduceToNat, BitVec.reduceToNat, zipEnv, Int.reduceLE, Int.reduceLT, Int.reduceNeg, BitVec.reduceEq, Int.reduceAdd, Int.reduceSub, Int.reduceMul, Nat.reduceLeDiff, Int.reduceEq, lv_app0, lv_appk, set_app0, set_appk, List.append_assoc, List.append_nil, Nat.add_assoc, hv, ei]
            refine hR _ _ ⟨?_, _, by simp only [↓amD, amU, Nat.reduceBEq, Nat.reduceAdd, Nat.reduceSub, Nat.reduceMul, Nat.reduceMod, Nat.reducePow, Nat.reduceLT, Nat.reduceDiv, Int.reduceToNat, BitVec.reduceToNat, zipEnv, Int.reduceLE, Int.reduceLT, Int.reduceNeg, BitVec.reduceEq, Int.reduceAdd, Int.reduceSub, Int.reduceMul, Nat.reduceLeDiff, Int.reduceEq], nS⟩
            rw [hcs]
            simp only [has, ↓amD, amU, Nat.reduceBEq, Nat.reduceAdd, Nat.reduceSub, Nat.reduceMul, Nat.reduceMod, Nat.reducePow, Nat.reduceLT, Nat.reduceDiv, Int.reduceToNat, BitVec.reduceToNat, zipEnv, Int.reduceLE, Int.reduceLT, Int.reduceNeg, BitVec.reduceEq, Int.reduceAdd, Int.reduceSub, Int.reduceMul, Nat.reduceLeDiff, Int.reduceEq, hv]
          · simp only [has, ↓amD, amU, Nat.reduceBEq, Nat.reduceAdd, Nat.reduceSub, Nat.reduceMul, Nat.reduceMod, Nat.reducePow, Nat.reduceLT, Nat.reduceDiv, Int.reduceToNat, BitVec.reduceToNat, zipEnv, Int.reduceLE, Int.reduceLT, Int.reduceNeg, BitVec.reduceEq, Int.reduceAdd, Int.reduceSub, Int.reduceMul, Nat.reduceLeDiff, Int.reduceEq, hh, h5]
          · rw [lv_appk]; rfl
  · rintro env rs ⟨hh, d5, h5, hS⟩ R
    simp only [has] at hh
    have e8 : wz ((n : Int) + 7) = (n : Int) + 7 := wz_id (by omega)
    have e9 : wz (4 * ((n : Int) + 7)) = 4 * ((n : Int) + 7) := wz_id (by omega)
    have e0 : (((4 * n + 28 : Nat) : Int) < 4 * ((n : Int) + 7)) = False := eq_false (by omega)
    have nt : nTup d5 = some d5 := by
      obtain ⟨ds, hO, -⟩ := hS.ow
      exact hO.nTup
    simp only [↓amD, amU, Nat.reduceBEq, Nat.reduceAdd, Nat.reduceSub, Nat.reduceMul, Nat.reduceMod, Nat.reducePow, Nat.reduceLT, Nat.reduceDiv, Int.reduceToNat, BitVec.reduceToNat, zipEnv, Int.reduceLE, Int.reduceLT, Int.reduceNeg, BitVec.reduceEq, Int.reduceAdd, Int.reduceSub, Int.reduceMul, Nat.reduceLeDiff, Int.reduceEq, lv_app0, lv_appk, set_app0, set_appk, List.append_assoc, List.append_nil, Nat.add_assoc, hh, h5, e8, e9, e0, nt]
    exact hk _ _ hS
  · have ec : cN n kb 0 = 1#8 := by unfold cN; rw [Nat.zero_sub]; rfl
    rw [ec]
    simp only [has, ↓amD, amU, Nat.reduceBEq, Nat.reduceAdd, Nat.reduceSub, Nat.reduceMul, Nat.reduceMod, Nat.reducePow, Nat.reduceLT, Nat.reduceDiv, Int.reduceToNat, BitVec.reduceToNat, zipEnv, Int.reduceLE, Int.reduceLT, Int.reduceNeg, BitVec.reduceEq, Int.reduceAdd, Int.reduceSub, Int.reduceMul, Nat.reduceLeDiff, Int.reduceEq]
  · simp only [↓amD, amU, Nat.reduceBEq, Nat.reduceAdd, Nat.reduceSub, Nat.reduceMul, Nat.reduceMod, Nat.reducePow, Nat.reduceLT, Nat.reduceDiv, Int.reduceToNat, BitVec.reduceToNat, zipEnv, Int.reduceLE, Int.reduceLT, Int.reduceNeg, BitVec.reduceEq, Int.reduceAdd, Int.reduceSub, Int.reduceMul, Nat.reduceLeDiff, Int.reduceEq]
  · exact ⟨Kept.app _ _, by rw [lv_app0]; rfl, ⟨[], .nil, rfl, fun j hj => by simp at hj⟩, fun r ex m h => by cases h⟩
set_option maxHeartbeats 2000000 in
theorem words_runS (C : Ctx) (hB : C.fn 37 = some fBoxesR) (hM : C.fn 14 = some fMulR) {rows : Rows} {q n : Nat} {ex : Bool} {kb : List (BitVec 8)} (hq : live rows q = some ⟨L8, bs kb⟩) (hn : kb.length = 4 * n) (h48 : n = 4 ∨ n = 8) {K : D → Rows → Prop}
    (hk : ∀ rs d, WSt rows rs kb (4 * n + 28) d → K d rs) : afun C 1 r_ref03_Words a_ref03_Words [.sl L8 q [] 0 (4 * n) ex] rows K := by
  refine afun_mk rfl ?_
  unfold a_ref03_Words r_ref03_Words
  have e3 : ((4 * n : Nat) : Int).tdiv 4 = (n : Int) := by rcases h48 with rfl | rfl <;> rfl
  have e4 : wz (n : Int) = (n : Int) := wz_id (by omega)
  have hbl : (bs kb).length = 4 * n := by rw [bs_len, hn]
  simp only [↓amD, amU, Nat.reduceBEq, Nat.reduceAdd, Nat.reduceSub, Nat.reduceMul, Nat.reduceMod, Nat.reducePow, Nat.reduceLT, Nat.reduceDiv, Int.reduceToNat, BitVec.reduceToNat, zipEnv, Int.reduceLE, Int.reduceLT, Int.reduceNeg, BitVec.reduceEq, Int.reduceAdd, Int.reduceSub, Int.reduceMul, Nat.reduceLeDiff, Int.reduceEq, lv_app0, lv_appk, set_app0, set_appk, List.append_assoc, List.append_nil, Nat.add_assoc, hbl, e3, e4, hB, kBoxesR]
  refine kLoop_up (4 * n + 28) (fun i env rs => has env [(7, .raw (it (i : Int))), (3, .raw (it (n : Int))), (0, .sl L8 q [] 0 (4 * n) ex), (4, .sl L8 rows.length [] 0 256 true), (6, .raw (u8 (cN n kb i)))] ∧
    ∃ d5, look env 5 = some d5 ∧ WSt rows rs kb i d5) ?_ ?_ ⟨?_, .raw (.slice none 0 0), ?_, ?_⟩
  · rintro i hi env rs ⟨hh, d5, h5, hS⟩ R hR
    simp only [has] at hh
    obtain ⟨hkp, hbx, ⟨ds, hO, hdl, hW⟩, hfr⟩ := hS
    have e8 : wz ((n : Int) + 7) = (n : Int) + 7 := wz_id (by omega)
    have e9 : wz (4 * ((n : Int) + 7)) = 4 * ((n : Int) + 7) := wz_id (by omega)
    have e0 : ((i : Int) < 4 * ((n : Int) + 7)) = True := eq_true (by omega)
    have ei := wz_succ i (by omega)
    have b0 : ∀ n : Nat, ((0 : Int) ≤ (n : Int)) = True := fun n => eq_true (by omega)
    have hq1 := hkp _ _ hq
    have hq2 := fun L => live_push (more := L) hq1
    by_cases hin : i < n
    · have e1 : ((i : Int) < (n : Int)) = True := eq_true (by omega)
      have a0 : wz (4 * (i : Int)) = ((4 * i : Nat) : Int) := by rw [wz_id (by omega)]; omega
      have a1 : wz (((4 * i : Nat) : Int) + 4) = ((4 * i + 4 : Nat) : Int) := by rw [wz_id (by omega)]; omega
      have f2 : (((4 * i : Nat) : Int) ≤ ((4 * i + 4 : Nat) : Int)) = True := eq_true (by omega)
      have f3 : (((4 * i + 4 : Nat) : Int) ≤ ((4 * n : Nat) : Int)) = True := eq_true (by omega)
      have ch : List.take (4 * i + 4 - 4 * i) (List.drop (4 * i) (bs kb)) = bs (byW (WS kb i)) := by
        rw [← chunk_W hn hin, Nat.add_sub_cancel_left, bs_drop, bs_take]
      have cl : (bs (byW (WS kb i))).length = 4 := rfl
      have c4 : 4 * i + 4 - 4 * i = 4 := by omega
      have x1 : ((4 : Nat) ≤ 1099511627776) = True := eq_true (by decide)
      simp only [↓amD, amU, Nat.reduceBEq, Nat.reduceAdd, Nat.reduceSub, Nat.reduceMul, Nat.reduceMod, Nat.reducePow, Nat.reduceLT, Nat.reduceDiv, Int.reduceToNat, BitVec.reduceToNat, zipEnv, Int.reduceLE, Int.reduceLT, Int.reduceNeg, BitVec.reduceEq, Int.reduceAdd, Int.reduceSub, Int.reduceMul, Nat.reduceLeDiff, Int.reduceEq, lv_app0, lv_appk, set_app0, set_appk, List.append_assoc, List.append_nil, Nat.add_assoc, hh, h5, e8, e9, e0, e1, a0, a1, f2, f3, b0, hbl, hq1, hq2, ch, cl, x1]
      try simp only [c4, true_and]
      refine app_ownA hO.push (by rw [hdl]; simp [most]; omega) (by rw [hdl]; simp [most]; omega) fun rs' f1 f2 f3 => ?_
      have lr : rows.length < rs.length := live_lt hbx
      have nS := WSt.step hkp hbx hO hdl hW hfr (Kept.app _ _) (by omega) (by rw [lv_appk]; rfl) f1 f2
      rw [hdl]
      simp only [↓amD, amU, Nat.reduceBEq, Nat.reduceAdd, Nat.reduceSub, Nat.reduceMul, Nat.reduceMod, Nat.reducePow, Nat.reduceLT, Nat.reduceDiv, Int.reduceToNat, BitVec.reduceToNat, zipEnv, Int.reduceLE, Int.reduceLT, Int.reduceNeg, BitVec.reduceEq, Int.reduceAdd, Int.reduceSub, Int.reduceMul, Nat.reduceLeDiff, Int.reduceEq, lv_app0, lv_appk, set_app0, set_appk, List.append_assoc, List.append_nil, Nat.add_assoc, hh, ei]
      refine hR _ _ ⟨?_, _, by simp only [↓amD, amU, Nat.reduceBEq, Nat.reduceAdd, Nat.reduceSub, Nat.reduceMul, Nat.reduceMod, Nat.reducePow, Nat.reduceLT, Nat.reduceDiv, Int.reduceToNat, BitVec.reduceToNat, zipEnv, Int.reduceLE, Int.reduceLT, Int.reduceNeg, BitVec.reduceEq, Int.reduceAdd, Int.reduceSub, Int.reduceMul, Nat.reduceLeDiff, Int.reduceEq], nS⟩
      have ec : cN n kb (i + 1) = cN n kb i := by
        unfold cN
        rw [show i + 1 - n = 0 by omega, show i - n = 0 by omega]
      rw [ec]
      simp only [has, ↓amD, amU, Nat.reduceBEq, Nat.reduceAdd, Nat.reduceSub, Nat.reduceMul, Nat.reduceMod, Nat.reducePow, Nat.reduceLT, Nat.reduceDiv, Int.reduceToNat, BitVec.reduceToNat, zipEnv, Int.reduceLE, Int.reduceLT, Int.reduceNeg, BitVec.reduceEq, Int.reduceAdd, Int.reduceSub, Int.reduceMul, Nat.reduceLeDiff, Int.reduceEq, hh]
    · have e1 : ((i : Int) < (n : Int)) = False := eq_false (by omega)
      obtain ⟨r1, ex1, hd1, -, hl1⟩ := hW (i - 1) (by omega)
      obtain ⟨r2, ex2, hd2, -, hl2⟩ := hW (i - n) (by omega)
      obtain ⟨p0, p1, p2, p3, hP⟩ : ∃ p0 p1 p2 p3, byW (WS kb (i - 1)) = [p0, p1, p2, p3] := ⟨_, _, _, _, rfl⟩
      obtain ⟨q0, q1, q2, q3, hQ⟩ : ∃ q0 q1 q2 q3, byW (WS kb (i - n)) = [q0, q1, q2, q3] := ⟨_, _, _, _, rfl⟩
      have hWi := W_step hn h48 (by omega) hi hP hQ
      have hcs := cN_succ (n := n) (kb := kb) (i := i) (by omega)
      rw [hP] at hl1
      rw [hQ] at hl2
      have hl1 : live rs r1 = some ⟨L8, [.raw (u8 p0), .raw (u8 p1), .raw (u8 p2), .raw (u8 p3)]⟩ := hl1
      have tk : List.take 4 [D.raw (u8 p0), .raw (u8 p1), .raw (u8 p2), .raw (u8 p3)] = [.raw (u8 p0), .raw (u8 p1), .raw (u8 p2), .raw (u8 p3)] := rfl
      have ei1 : (((i - 1 : Nat) : Int) < (i : Int)) = True := eq_true (by omega)
      obtain ⟨m5, e5, rfl, hm5⟩ : ∃ m5 e5, d5 = .sl .ref m5 [] 0 i e5 ∧ live rs m5 = some ⟨.ref, ds⟩ := by
        rcases hO with ⟨h1, -⟩ | ⟨m5, e5, rfl, hm⟩
        · rw [h1] at hdl; simp at hdl; omega
        · exact ⟨m5, e5, by rw [hdl], hm⟩
      have a1 : wz ((i : Int) - 1) = ((i - 1 : Nat) : Int) := by rw [wz_id (by omega)]; omega
      have an : wz ((i : Int) - (n : Int)) = ((i - n : Nat) : Int) := by rw [wz_id (by omega)]; omega
      have x1 : ∀ rows k2, kIdx .ref ((i - 1 : Nat) : Int) rows k2 (.sl .ref m5 [] 0 i e5) = k2 (.ptr .ref m5 [i - 1]) rows := by
        intro rows k2; simp only [↓amD, amU, Nat.reduceBEq, Nat.reduceAdd, Nat.reduceSub, Nat.reduceMul, Nat.reduceMod, Nat.reducePow, Nat.reduceLT, Nat.reduceDiv, Int.reduceToNat, BitVec.reduceToNat, zipEnv, Int.reduceLE, Int.reduceLT, Int.reduceNeg, BitVec.reduceEq, Int.reduceAdd, Int.reduceSub, Int.reduceMul, Nat.reduceLeDiff, Int.reduceEq, b0, eq_true (by omega : ((i - 1 : Nat) : Int) < (i : Int))]
      have hm5' := fun L => live_push (more := L) hm5
      have hl1' := fun L => live_push (more := L) hl1
      have hbx' := fun L => live_push (more := L) hbx
      have d1 : ((n : Int) = 0) = False := eq_false (by omega)
      have d2 : (i : Int).tmod (n : Int) = ((i % n : Nat) : Int) := rfl
      have d8 : (i : Int).tmod 8 = ((i % 8 : Nat) : Int) := rfl
      have g4 : (4 ≤ 1099511627776) = True := eq_true (by decide)
      have lt2 := live_lt hl2
      have lt5 := live_lt hm5
      have bg : ∀ x : BitVec 8, ((x.toNat : Int) < 256) = True := fun x => eq_true (by have := x.isLt; omega)
      have bn : ∀ x : BitVec 8, ((x.toNat : Int)).toNat = x.toNat := fun x => rfl
      by_cases h0 : i % n = 0
      · have d3 : (((i % n : Nat) : Int) = 0) = True := eq_true (by omega)
        rw [if_pos h0] at hWi hcs
        simp only [↓amD, amU, Nat.reduceBEq, Nat.reduceAdd, Nat.reduceSub, Nat.reduceMul, Nat.reduceMod, Nat.reducePow, Nat.reduceLT, Nat.reduceDiv, Int.reduceToNat, BitVec.reduceToNat, zipEnv, Int.reduceLE, Int.reduceLT, Int.reduceNeg, BitVec.reduceEq, Int.reduceAdd, Int.reduceSub, Int.reduceMul, Nat.reduceLeDiff, Int.reduceEq, lv_app0, lv_appk, set_app0, set_appk, List.append_assoc, List.append_nil, Nat.add_assoc, hh, h5, e8, e9, e0, e1, ei1, tk, a1, b0, x1, hm5', hd1, hl1', g4, d1, d2, d3, hbx', box_get, bg, hM, kMulR, gm_two]
        refine kLoop_up 4 (fun j env rt => has env [(110, .raw (it (j : Int))), (109, .raw (it 4)), (8, .sl L8 (rs.length + 2) [] 0 4 true), (5, .sl .ref m5 [] 0 i e5), (7, .raw (it (i : Int))), (3, .raw (it (n : Int))), (0, .sl L8 q [] 0 (4 * n) ex), (4, .sl L8 rows.length [] 0 256 true), (6, .raw (u8 (xt (cN n kb i))))] ∧
          Kept rs rt ∧ live rt (rs.length + 2) = some ⟨L8, bs (xzL [bx boxL p1 ^^^ cN n kb i, bx boxL p2, bx boxL p3, bx boxL p0] [q0, q1, q2, q3] j)⟩) ?_ ?_ ⟨?_, Kept.app _ _, ?_⟩
        · rintro j hj env rt ⟨hv, hkt, lt⟩ R' hR'
          simp only [has] at hv
          have g0 : ((j : Int) < 4) = True := eq_true (by omega)
          have gj := wz_succ j (by omega)
          have lm := hkt _ _ hm5
          have ein : (((i - n : Nat) : Int) < (i : Int)) = True := eq_true (by omega)
          have l2 := hkt _ _ hl2
          have gx := xzL_get [bx boxL p1 ^^^ cN n kb i, bx boxL p2, bx boxL p3, bx boxL p0] [q0, q1, q2, q3] hj
          have gs := xzL_set [bx boxL p1 ^^^ cN n kb i, bx boxL p2, bx boxL p3, bx boxL p0] [q0, q1, q2, q3] hj
          have gq : (bs [q0, q1, q2, q3])[j]? = some (.raw (u8 (([q0, q1, q2, q3] : List (BitVec 8)).getD j 0#8))) := bs_get hj
          have gn : ∀ rows k2, kIdx .ref ((i - n : Nat) : Int) rows k2 (.sl .ref m5 [] 0 i e5) = k2 (.ptr .ref m5 [i - n]) rows := by
            intro rows k2; simp only [↓amD, amU, Nat.reduceBEq, Nat.reduceAdd, Nat.reduceSub, Nat.reduceMul, Nat.reduceMod, Nat.reducePow, Nat.reduceLT, Nat.reduceDiv, Int.reduceToNat, BitVec.reduceToNat, zipEnv, Int.reduceLE, Int.reduceLT, Int.reduceNeg, BitVec.reduceEq, Int.reduceAdd, Int.reduceSub, Int.reduceMul, Nat.reduceLeDiff, Int.reduceEq, b0, eq_true (by omega : ((i - n : Nat) : Int) < (i : Int))]
          simp only [↓amD, amU, Nat.reduceBEq, Nat.reduceAdd, Nat.reduceSub, Nat.reduceMul, Nat.reduceMod, Nat.reducePow, Nat.reduceLT, Nat.reduceDiv, Int.reduceToNat, BitVec.reduceToNat, zipEnv, Int.reduceLE, Int.reduceLT, Int.reduceNeg, BitVec.reduceEq, Int.reduceAdd, Int.reduceSub, Int.reduceMul, Nat.reduceLeDiff, Int.reduceEq, hv, g0, gj, b0, lt, lm, l2, gx, gs, gq, an, gn, hd2, bs_set, ein]
          exact hR' _ _ ⟨by simp only [has, ↓amD, amU, Nat.reduceBEq, Nat.reduceAdd, Nat.reduceSub, Nat.reduceMul, Nat.reduceMod, Nat.reducePow, Nat.reduceLT, Nat.reduceDiv, Int.reduceToNat, BitVec.reduceToNat, zipEnv, Int.reduceLE, Int.reduceLT, Int.reduceNeg, BitVec.reduceEq, Int.reduceAdd, Int.reduceSub, Int.reduceMul, Nat.reduceLeDiff, Int.reduceEq, hv], fun q row hq => by rw [live_set_ne (by have := live_lt hq; omega)]; exact hkt _ _ hq, live_set_same lt⟩
        · rintro env rt ⟨hv, hkt, lt⟩ R'
          simp only [has] at hv
          have xe : xzL [bx boxL p1 ^^^ cN n kb i, bx boxL p2, bx boxL p3, bx boxL p0] [q0, q1, q2, q3] 4 = byW (WS kb i) := hWi.symm
          rw [xe] at lt
          clear x1
          generalize D.sl .ref m5 [] 0 i e5 = d5 at hO hv hfr ⊢
          have hO' := Own.keep hO hkt
          have lr : rows.length < rs.length := live_lt hbx
          simp only [↓amD, amU, Nat.reduceBEq, Nat.reduceAdd, Nat.reduceSub, Nat.reduceMul, Nat.reduceMod, Nat.reducePow, Nat.reduceLT, Nat.reduceDiv, Int.reduceToNat, BitVec.reduceToNat, zipEnv, Int.reduceLE, Int.reduceLT, Int.reduceNeg, BitVec.reduceEq, Int.reduceAdd, Int.reduceSub, Int.reduceMul, Nat.reduceLeDiff, Int.reduceEq, lv_app0, lv_appk, set_app0, set_appk, List.append_assoc, List.append_nil, Nat.add_assoc, hv]
          refine app_ownA hO'.push (by rw [hdl]; simp [most]; omega) (by rw [hdl]; simp [most]; omega) fun rs' f1 f2 f3 => ?_
          have nS := WSt.step hkp hbx hO hdl hW hfr (hkt.trans (Kept.app _ _)) (by omega) (live_push lt) f1 f2
          rw [hdl]
          simp only [↓amD, amU, Nat.reduceBEq, Nat.reduceAdd, Nat.reduceSub, Nat.reduceMul, Nat.reduceMod, Nat.reducePow, Nat.reduceLT, Nat.reduceDiv, Int.reduceToNat, BitVec.reduceToNat, zipEnv, Int.reduceLE, Int.reduceLT, Int.reduceNeg, BitVec.reduceEq, Int.reduceAdd, Int.reduceSub, Int.reduceMul, Nat.reduceLeDiff, Int.reduceEq, lv_app0, lv_appk, set_app0, set_appk, List.append_assoc, List.append_nil, Nat.add_assoc, hv, ei]
          refine hR _ _ ⟨?_, _, by simp only [↓amD, amU, Nat.reduceBEq, Nat.reduceAdd, Nat.reduceSub, Nat.reduceMul, Nat.reduceMod, Nat.reducePow, Nat.reduceLT, Nat.reduceDiv, Int.reduceToNat, BitVec.reduceToNat, zipEnv, Int.reduceLE, Int.reduceLT, Int.reduceNeg, BitVec.reduceEq, Int.reduceAdd, Int.reduceSub, Int.reduceMul, Nat.reduceLeDiff, Int.reduceEq], nS⟩
          rw [hcs]
          simp only [has, ↓amD, amU, Nat.reduceBEq, Nat.reduceAdd, Nat.reduceSub, Nat.reduceMul, Nat.reduceMod, Nat.reducePow, Nat.reduceLT, Nat.reduceDiv, Int.reduceToNat, BitVec.reduceToNat, zipEnv, Int.reduceLE, Int.reduceLT, Int.reduceNeg, BitVec.reduceEq, Int.reduceAdd, Int.reduceSub, Int.reduceMul, Nat.reduceLeDiff, Int.reduceEq, hv]
        · simp only [has, ↓amD, amU, Nat.reduceBEq, Nat.reduceAdd, Nat.reduceSub, Nat.reduceMul, Nat.reduceMod, Nat.reducePow, Nat.reduceLT, Nat.reduceDiv, Int.reduceToNat, BitVec.reduceToNat, zipEnv, Int.reduceLE, Int.reduceLT, Int.reduceNeg, BitVec.reduceEq, Int.reduceAdd, Int.reduceSub, Int.reduceMul, Nat.reduceLeDiff, Int.reduceEq, hh, h5]
        · rw [lv_appk]; rfl
      · have d3 : (((i % n : Nat) : Int) = 0) = False := eq_false (by omega)
        rw [if_neg h0] at hWi hcs
        by_cases h8 : n = 8
        · have d4 : ((n : Int) = 8) = True := eq_true (by omega)
          by_cases h44 : i % 8 = 4
          · have d5 : (((i % 8 : Nat) : Int) = 4) = True := eq_true (by omega)
            rw [if_pos ⟨by omega, by rw [h8]; exact h44⟩] at hWi
            simp only [↓amD, amU, Nat.reduceBEq, Nat.reduceAdd, Nat.reduceSub, Nat.reduceMul, Nat.reduceMod, Nat.reducePow, Nat.reduceLT, Nat.reduceDiv, Int.reduceToNat, BitVec.reduceToNat, zipEnv, Int.reduceLE, Int.reduceLT, Int.reduceNeg, BitVec.reduceEq, Int.reduceAdd, Int.reduceSub, Int.reduceMul, Nat.reduceLeDiff, Int.reduceEq, lv_app0, lv_appk, set_app0, set_appk, List.append_assoc, List.append_nil, Nat.add_assoc, hh, h5, e8, e9, e0, e1, ei1, tk, a1, b0, x1, hm5', hd1, hl1', g4, d1, d2, d3, d4, d5, d8, hbx', box_get, bg, hM, kMulR, gm_two]
            refine kLoop_up 4 (fun j env rt => has env [(110, .raw (it (j : Int))), (109, .raw (it 4)), (8, .sl L8 (rs.length + 2) [] 0 4 true), (5, .sl .ref m5 [] 0 i e5), (7, .raw (it (i : Int))), (3, .raw (it (n : Int))), (0, .sl L8 q [] 0 (4 * n) ex), (4, .sl L8 rows.length [] 0 256 true), (6, .raw (u8 (cN n kb i)))] ∧
              Kept rs rt ∧ live rt (rs.length + 2) = some ⟨L8, bs (xzL [bx boxL p0, bx boxL p1, bx boxL p2, bx boxL p3] [q0, q1, q2, q3] j)⟩) ?_ ?_ ⟨?_, Kept.app _ _, ?_⟩
            · rintro j hj env rt ⟨hv, hkt, lt⟩ R' hR'
              simp only [has] at hv
              have g0 : ((j : Int) < 4) = True := eq_true (by omega)
              have gj := wz_succ j (by omega)
              have lm := hkt _ _ hm5
              have ein : (((i - n : Nat) : Int) < (i : Int)) = True := eq_true (by omega)
              have l2 := hkt _ _ hl2
              have gx := xzL_get [bx boxL p0, bx boxL p1, bx boxL p2, bx boxL p3] [q0, q1, q2, q3] hj
              have gs := xzL_set [bx boxL p0, bx boxL p1, bx boxL p2, bx boxL p3] [q0, q1, q2, q3] hj
              have gq : (bs [q0, q1, q2, q3])[j]? = some (.raw (u8 (([q0, q1, q2, q3] : List (BitVec 8)).getD j 0#8))) := bs_get hj
              have gn : ∀ rows k2, kIdx .ref ((i - n : Nat) : Int) rows k2 (.sl .ref m5 [] 0 i e5) = k2 (.ptr .ref m5 [i - n]) rows := by
                intro rows k2; simp only [↓amD, amU, Nat.reduceBEq, Nat.reduceAdd, Nat.reduceSub, Nat.reduceMul, Nat.reduceMod, Nat.reducePow, Nat.reduceLT, Nat.reduceDiv, Int.reduceToNat, BitVec.reduceToNat, zipEnv, Int.reduceLE, Int.reduceLT, Int.reduceNeg, BitVec.reduceEq, Int.reduceAdd, Int.reduceSub, Int.reduceMul, Nat.reduceLeDiff, Int.reduceEq, b0, eq_true (by omega : ((i - n : Nat) : Int) < (i : Int))]
              simp only [↓amD, amU, Nat.reduceBEq, Nat.reduceAdd, Nat.reduceSub, Nat.reduceMul, Nat.reduceMod, Nat.reducePow, Nat.reduceLT, Nat.reduceDiv, Int.reduceToNat, BitVec.reduceToNat, zipEnv, Int.reduceLE, Int.reduceLT, Int.reduceNeg, BitVec.reduceEq, Int.reduceAdd, Int.reduceSub, Int.reduceMul, Nat.reduceLeDiff, Int.reduceEq, hv, g0, gj, b0, lt, lm, l2, gx, gs, gq, an, gn, hd2, bs_set, ein]
              exact hR' _ _ ⟨by simp only [has, ↓amD, amU, Nat.reduceBEq, Nat.reduceAdd, Nat.reduceSub, Nat.reduceMul, Nat.reduceMod, Nat.reducePow, Nat.reduceLT, Nat.reduceDiv, Int.reduceToNat, BitVec.reduceToNat, zipEnv, Int.reduceLE, Int.reduceLT, Int.reduceNeg, BitVec.reduceEq, Int.reduceAdd, Int.reduceSub, Int.reduceMul, Nat.reduceLeDiff, Int.reduceEq, hv], fun q row hq => by rw [live_set_ne (by have := live_lt hq; omega)]; exact hkt _ _ hq, live_set_same lt⟩
            · rintro env rt ⟨hv, hkt, lt⟩ R'
              simp only [has] at hv
              have xe : xzL [bx boxL p0, bx boxL p1, bx boxL p2, bx boxL p3] [q0, q1, q2, q3] 4 = byW (WS kb i) := hWi.symm
              rw [xe] at lt
              clear x1
              generalize D.sl .ref m5 [] 0 i e5 = d5 at hO hv hfr ⊢
              have hO' := Own.keep hO hkt
              have lr : rows.length < rs.length := live_lt hbx
              simp only [↓amD, amU, Nat.reduceBEq, Nat.reduceAdd, Nat.reduceSub, Nat.reduceMul, Nat.reduceMod, Nat.reducePow, Nat.reduceLT, Nat.reduceDiv, Int.reduceToNat, BitVec.reduceToNat, zipEnv, Int.reduceLE, Int.reduceLT, Int.reduceNeg, BitVec.reduceEq, Int.reduceAdd, Int.reduceSub, Int.reduceMul, Nat.reduceLeDiff, Int.reduceEq, lv_app0, lv_appk, set_app0, set_appk, List.append_assoc, List.append_nil, Nat.add_assoc, hv]
              refine app_ownA hO'.push (by rw [hdl]; simp [most]; omega) (by rw [hdl]; simp [most]; omega) fun rs' f1 f2 f3 => ?_
              have nS := WSt.step hkp hbx hO hdl hW hfr (hkt.trans (Kept.app _ _)) (by omega) (live_push lt) f1 f2
              rw [hdl]
              simp only [↓amD, amU, Nat.reduceBEq, Nat.reduceAdd, Nat.reduceSub, Nat.reduceMul, Nat.reduceMod, Nat.reducePow, Nat.reduceLT, Nat.reduceDiv, Int.reduceToNat, BitVec.reduceToNat, zipEnv, Int.reduceLE, Int.reduceLT, Int.reduceNeg, BitVec.reduceEq, Int.reduceAdd, Int.reduceSub, Int.reduceMul, Nat.reduceLeDiff, Int.reduceEq, lv_app0, lv_appk, set_app0, set_appk, List.append_assoc, List.append_nil, Nat.add_assoc, hv, ei]
              refine hR _ _ ⟨?_, _, by simp only [↓amD, amU, Nat.reduceBEq, Nat.reduceAdd, Nat.reduceSub, Nat.reduceMul, Nat.reduceMod, Nat.reducePow, Nat.reduceLT, Nat.reduceDiv, Int.reduceToNat, BitVec.reduceToNat, zipEnv, Int.reduceLE, Int.reduceLT, Int.reduceNeg, BitVec.reduceEq, Int.reduceAdd, Int.reduceSub, Int.reduceMul, Nat.reduceLeDiff, Int.reduceEq], nS⟩
              rw [hcs]
              simp only [has, ↓amD, amU, Nat.reduceBEq, Nat.reduceAdd, Nat.reduceSub, Nat.reduceMul, Nat.reduceMod, Nat.reducePow, Nat.reduceLT, Nat.reduceDiv, Int.reduceToNat, BitVec.reduceToNat, zipEnv, Int.reduceLE, Int.reduceLT, Int.reduceNeg, BitVec.reduceEq, Int.reduceAdd, Int.reduceSub, Int.reduceMul, Nat.reduceLeDiff, Int.reduceEq, hv]
            · simp only [has, ↓amD, amU, Nat.reduceBEq, Nat.reduceAdd, Nat.reduceSub, Nat.reduceMul, Nat.reduceMod, Nat.reducePow, Nat.reduceLT, Nat.reduceDiv, Int.reduceToNat, BitVec.reduceToNat, zipEnv, Int.reduceLE, Int.reduceLT, Int.reduceNeg, BitVec.reduceEq, Int.reduceAdd, Int.reduceSub, Int.reduceMul, Nat.reduceLeDiff, Int.reduceEq, hh, h5]
            · rw [lv_appk]; rfl
          · have d5 : (((i % 8 : Nat) : Int) = 4) = False := eq_false (by omega)
            rw [if_neg (fun h => h44 (by rw [h8] at h; exact h.2))] at hWi
            simp only [↓amD, amU, Nat.reduceBEq, Nat.reduceAdd, Nat.reduceSub, Nat.reduceMul, Nat.reduceMod, Nat.reducePow, Nat.reduceLT, Nat.reduceDiv, Int.reduceToNat, BitVec.reduceToNat, zipEnv, Int.reduceLE, Int.reduceLT, Int.reduceNeg, BitVec.reduceEq, Int.reduceAdd, Int.reduceSub, Int.reduceMul, Nat.reduceLeDiff, Int.reduceEq, lv_app0, lv_appk, set_app0, set_appk, List.append_assoc, List.append_nil, Nat.add_assoc, hh, h5, e8, e9, e0, e1, ei1, tk, a1, b0, x1, hm5', hd1, hl1', g4, d1, d2, d3, d4, d5, d8, hbx', box_get, bg, hM, kMulR, gm_two]
            refine kLoop_up 4 (fun j env rt => has env [(110, .raw (it (j : Int))), (109, .raw (it 4)), (8, .sl L8 (rs.length + 1) [] 0 4 false), (5, .sl .ref m5 [] 0 i e5), (7, .raw (it (i : Int))), (3, .raw (it (n : Int))), (0, .sl L8 q [] 0 (4 * n) ex), (4, .sl L8 rows.length [] 0 256 true), (6, .raw (u8 (cN n kb i)))] ∧
              Kept rs rt ∧ live rt (rs.length + 1) = some ⟨L8, bs (xzL [p0, p1, p2, p3] [q0, q1, q2, q3] j)⟩) ?_ ?_ ⟨?_, Kept.app _ _, ?_⟩
            · rintro j hj env rt ⟨hv, hkt, lt⟩ R' hR'
              simp only [has] at hv
              have g0 : ((j : Int) < 4) = True := eq_true (by omega)
              have gj := wz_succ j (by omega)
              have lm := hkt _ _ hm5
              have ein : (((i - n : Nat) : Int) < (i : Int)) = True := eq_true (by omega)
              have l2 := hkt _ _ hl2
              have gx := xzL_get [p0, p1, p2, p3] [q0, q1, q2, q3] hj
              have gs := xzL_set [p0, p1, p2, p3] [q0, q1, q2, q3] hj
              have gq : (bs [q0, q1, q2, q3])[j]? = some (.raw (u8 (([q0, q1, q2, q3] : List (BitVec 8)).getD j 0#8))) := bs_get hj
              have gn : ∀ rows k2, kIdx .ref ((i - n : Nat) : Int) rows k2 (.sl .ref m5 [] 0 i e5) = k2 (.ptr .ref m5 [i - n]) rows := by
                intro rows k2; simp only [↓amD, amU, Nat.reduceBEq, Nat.reduceAdd, Nat.reduceSub, Nat.reduceMul, Nat.reduceMod, Nat.reducePow, Nat.reduceLT, Nat.reduceDiv, Int.reduceToNat, BitVec.reduceToNat, zipEnv, Int.reduceLE, Int.reduceLT, Int.reduceNeg, BitVec.reduceEq, Int.reduceAdd, Int.reduceSub, Int.reduceMul, Nat.reduceLeDiff, Int.reduceEq, b0, eq_true (by omega : ((i - n : Nat) : Int) < (i : Int))]
              simp only [↓amD, amU, Nat.reduceBEq, Nat.reduceAdd, Nat.reduceSub, Nat.reduceMul, Nat.reduceMod, Nat.reducePow, Nat.reduceLT, Nat.reduceDiv, Int.reduceToNat, BitVec.reduceToNat, zipEnv, Int.reduceLE, Int.reduceLT, Int.reduceNeg, BitVec.reduceEq, Int.reduceAdd, Int.reduceSub, Int.reduceMul, Nat.reduceLeDiff, Int.reduceEq, hv, g0, gj, b0, lt, lm, l2, gx, gs, gq, an, gn, hd2, bs_set, ein]
              exact hR' _ _ ⟨by simp only [has, ↓amD, amU, Nat.reduceBEq, Nat.reduceAdd, Nat.reduceSub, Nat.reduceMul, Nat.reduceMod, Nat.reducePow, Nat.reduceLT, Nat.reduceDiv, Int.reduceToNat, BitVec.reduceToNat, zipEnv, Int.reduceLE, Int.reduceLT, Int.reduceNeg, BitVec.reduceEq, Int.reduceAdd, Int.reduceSub, Int.reduceMul, Nat.reduceLeDiff, Int.reduceEq, hv], fun q row hq => by rw [live_set_ne (by have := live_lt hq; omega)]; exact hkt _ _ hq, live_set_same lt⟩
            · rintro env rt ⟨hv, hkt, lt⟩ R'
              simp only [has] at hv
              have xe : xzL [p0, p1, p2, p3] [q0, q1, q2, q3] 4 = byW (WS kb i) := hWi.symm
              rw [xe] at lt
              clear x1
              generalize D.sl .ref m5 [] 0 i e5 = d5 at hO hv hfr ⊢
              have hO' := Own.keep hO hkt
              have lr : rows.length < rs.length := live_lt hbx
              simp only [↓amD, amU, Nat.reduceBEq, Nat.reduceAdd, Nat.reduceSub, Nat.reduceMul, Nat.reduceMod, Nat.reducePow, Nat.reduceLT, Nat.reduceDiv, Int.reduceToNat, BitVec.reduceToNat, zipEnv, Int.reduceLE, Int.reduceLT, Int.reduceNeg, BitVec.reduceEq, Int.reduceAdd, Int.reduceSub, Int.reduceMul, Nat.reduceLeDiff, Int.reduceEq, lv_app0, lv_appk, set_app0, set_appk, List.append_assoc, List.append_nil, Nat.add_assoc, hv]
              refine app_ownA hO'.push (by rw [hdl]; simp [most]; omega) (by rw [hdl]; simp [most]; omega) fun rs' f1 f2 f3 => ?_
              have nS := WSt.step hkp hbx hO hdl hW hfr (hkt.trans (Kept.app _ _)) (by omega) (live_push lt) f1 f2
              rw [hdl]
              simp only [↓amD, amU, Nat.reduceBEq, Nat.reduceAdd, Nat.reduceSub, Nat.reduceMul, Nat.reduceMod, Nat.reducePow, Nat.reduceLT, Nat.reduceDiv, Int.reduceToNat, BitVec.reduceToNat, zipEnv, Int.reduceLE, Int.reduceLT, Int.reduceNeg, BitVec.reduceEq, Int.reduceAdd, Int.reduceSub, Int.reduceMul, Nat.reduceLeDiff, Int.reduceEq, lv_app0, lv_appk, set_app0, set_appk, List.append_assoc, List.append_nil, Nat.add_assoc, hv, ei]
              refine hR _ _ ⟨?_, _, by simp only [↓amD, amU, Nat.reduceBEq, Nat.reduceAdd, Nat.reduceSub, Nat.reduceMul, Nat.reduceMod, Nat.reducePow, Nat.reduceLT, Nat.reduceDiv, Int.reduceToNat, BitVec.reduceToNat, zipEnv, Int.reduceLE, Int.reduceLT, Int.reduceNeg, BitVec.reduceEq, Int.reduceAdd, Int.reduceSub, Int.reduceMul, Nat.reduceLeDiff, Int.reduceEq], nS⟩
              rw [hcs]
              simp only [has, ↓amD, amU, Nat.reduceBEq, Nat.reduceAdd, Nat.reduceSub, Nat.reduceMul, Nat.reduceMod, Nat.reducePow, Nat.reduceLT, Nat.reduceDiv, Int.reduceToNat, BitVec.reduceToNat, zipEnv, Int.reduceLE, Int.reduceLT, Int.reduceNeg, BitVec.reduceEq, Int.reduceAdd, Int.reduceSub, Int.reduceMul, Nat.reduceLeDiff, Int.reduceEq, hv]
            · simp only [has, ↓amD, amU, Nat.reduceBEq, Nat.reduceAdd, Nat.reduceSub, Nat.reduceMul, Nat.reduceMod, Nat.reducePow, Nat.reduceLT, Nat.reduceDiv, Int.reduceToNat, BitVec.reduceToNat, zipEnv, Int.reduceLE, Int.reduceLT, Int.reduceNeg, BitVec.reduceEq, Int.reduceAdd, Int.reduceSub, Int.reduceMul, Nat.reduceLeDiff, Int.reduceEq, hh, h5]
            · rw [lv_appk]; rfl
        · have d4 : ((n : Int) = 8) = False := eq_false (by omega)
          rw [if_neg (fun h => by omega)] at hWi
          simp only [↓amD, amU, Nat.reduceBEq, Nat.reduceAdd, Nat.reduceSub, Nat.reduceMul, Nat.reduceMod, Nat.reducePow, Nat.reduceLT, Nat.reduceDiv, Int.reduceToNat, BitVec.reduceToNat, zipEnv, Int.reduceLE, Int.reduceLT, Int.reduceNeg, BitVec.reduceEq, Int.reduceAdd, Int.reduceSub, Int.reduceMul, Nat.reduceLeDiff, Int.reduceEq, lv_app0, lv_appk, set_app0, set_appk, List.append_assoc, List.append_nil, Nat.add_assoc, hh, h5, e8, e9, e0, e1, ei1, tk, a1, b0, x1, hm5', hd1, hl1', g4, d1, d2, d3, d4, d8, hbx', box_get, bg, hM, kMulR, gm_two]
          refine kLoop_up 4 (fun j env rt => has env [(110, .raw (it (j : Int))), (109, .raw (it 4)), (8, .sl L8 (rs.length + 1) [] 0 4 false), (5, .sl .ref m5 [] 0 i e5), (7, .raw (it (i : Int))), (3, .raw (it (n : Int))), (0, .sl L8 q [] 0 (4 * n) ex), (4, .sl L8 rows.length [] 0 256 true), (6, .raw (u8 (cN n kb i)))] ∧
            Kept rs rt ∧ live rt (rs.length + 1) = some ⟨L8, bs (xzL [p0, p1, p2, p3] [q0, q1, q2, q3] j)⟩) ?_ ?_ ⟨?_, Kept.app _ _, ?_⟩
          · rintro j hj env rt ⟨hv, hkt, lt⟩ R' hR'
            simp only [has] at hv
            have g0 : ((j : Int) < 4) = True := eq_true (by omega)
            have gj := wz_succ j (by omega)
            have lm := hkt _ _ hm5
            have ein : (((i - n : Nat) : Int) < (i : Int)) = True := eq_true (by omega)
            have l2 := hkt _ _ hl2
            have gx := xzL_get [p0, p1, p2, p3] [q0, q1, q2, q3] hj
            have gs := xzL_set [p0, p1, p2, p3] [q0, q1, q2, q3] hj
            have gq : (bs [q0, q1, q2, q3])[j]? = some (.raw (u8 (([q0, q1, q2, q3] : List (BitVec 8)).getD j 0#8))) := bs_get hj
            have gn : ∀ rows k2, kIdx .ref ((i - n : Nat) : Int) rows k2 (.sl .ref m5 [] 0 i e5) = k2 (.ptr .ref m5 [i - n]) rows := by
              intro rows k2; simp only [↓amD, amU, Nat.reduceBEq, Nat.reduceAdd, Nat.reduceSub, Nat.reduceMul, Nat.reduceMod, Nat.reducePow, Nat.reduceLT, Nat.reduceDiv, Int.reduceToNat, BitVec.reduceToNat, zipEnv, Int.reduceLE, Int.reduceLT, Int.reduceNeg, BitVec.reduceEq, Int.reduceAdd, Int.reduceSub, Int.reduceMul, Nat.reduceLeDiff, Int.reduceEq, b0, eq_true (by omega : ((i - n : Nat) : Int) < (i : Int))]
            simp only [↓amD, amU, Nat.reduceBEq, Nat.reduceAdd, Nat.reduceSub, Nat.reduceMul, Nat.reduceMod, Nat.reducePow, Nat.reduceLT, Nat.reduceDiv, Int.reduceToNat, BitVec.reduceToNat, zipEnv, Int.reduceLE, Int.reduceLT, Int.reduceNeg, BitVec.reduceEq, Int.reduceAdd, Int.reduceSub, Int.reduceMul, Nat.reduceLeDiff, Int.reduceEq, hv, g0, gj, b0, lt, lm, l2, gx, gs, gq, an, gn, hd2, bs_set, ein]
            exact hR' _ _ ⟨by simp only [has, ↓amD, amU, Nat.reduceBEq, Nat.reduceAdd, Nat.reduceSub, Nat.reduceMul, Nat.reduceMod, Nat.reducePow, Nat.reduceLT, Nat.reduceDiv, Int.reduceToNat, BitVec.reduceToNat, zipEnv, Int.reduceLE, Int.reduceLT, Int.reduceNeg, BitVec.reduceEq, Int.reduceAdd, Int.reduceSub, Int.reduceMul, Nat.reduceLeDiff, Int.reduceEq, hv], fun q row hq => by rw [live_set_ne (by have := live_lt hq; omega)]; exact hkt _ _ hq, live_set_same lt⟩
          · rintro env rt ⟨hv, hkt, lt⟩ R'
            simp only [has] at hv
            have xe : xzL [p0, p1, p2, p3] [q0, q1, q2, q3] 4 = byW (WS kb i) := hWi.symm
            rw [xe] at lt
            clear x1
            generalize D.sl .ref m5 [] 0 i e5 = d5 at hO hv hfr ⊢
            have hO' := Own.keep hO hkt
            have lr : rows.length < rs.length := live_lt hbx
            simp only [↓amD, amU, Nat.reduceBEq, Nat.reduceAdd, Nat.reduceSub, Nat.reduceMul, Nat.reduceMod, Nat.reducePow, Nat.reduceLT, Nat.reduceDiv, Int.reduceToNat, BitVec.reduceToNat, zipEnv, Int.reduceLE, Int.reduceLT, Int.reduceNeg, BitVec.reduceEq, Int.reduceAdd, Int.reduceSub, Int.reduceMul, Nat.reduceLeDiff, Int.reduceEq, lv_app0, lv_appk, set_app0, set_appk, List.append_assoc, List.append_nil, Nat.add_assoc, hv]
            refine app_ownA hO'.push (by rw [hdl]; simp [most]; omega) (by rw [hdl]; simp [most]; omega) fun rs' f1 f2 f3 => ?_
            have nS := WSt.step hkp hbx hO hdl hW hfr (hkt.trans (Kept.app _ _)) (by omega) (live_push lt) f1 f2
            rw [hdl]
            simp only [↓amD, amU, Nat.reduceBEq, Nat.reduceAdd, Nat.reduceSub, Nat.reduceMul, Nat.reduceMod, Nat.reducePow, Nat.reduceLT, Nat.reduceDiv, Int.reduceToNat, BitVec.reduceToNat, zipEnv, Int.reduceLE, Int.reduceLT, Int.reduceNeg, BitVec.reduceEq, Int.reduceAdd, Int.reduceSub, Int.reduceMul, Nat.reduceLeDiff, Int.reduceEq, lv_app0, lv_appk, set_app0, set_appk, List.append_assoc, List.append_nil, Nat.add_assoc, hv, ei]
            refine hR _ _ ⟨?_, _, by simp only [↓amD, amU, Nat.reduceBEq, Nat.reduceAdd, Nat.reduceSub, Nat.reduceMul, Nat.reduceMod, Nat.reducePow, Nat.reduceLT, Nat.reduceDiv, Int.reduceToNat, BitVec.reduceToNat, zipEnv, Int.reduceLE, Int.reduceLT, Int.reduceNeg, BitVec.reduceEq, Int.reduceAdd, Int.reduceSub, Int.reduceMul, Nat.reduceLeDiff, Int.reduceEq], nS⟩
            rw [hcs]
            simp only [has, ↓amD, amU, Nat.reduceBEq, Nat.reduceAdd, Nat.reduceSub, Nat.reduceMul, Nat.reduceMod, Nat.reducePow, Nat.reduceLT, Nat.reduceDiv, Int.reduceToNat, BitVec.reduceToNat, zipEnv, Int.reduceLE, Int.reduceLT, Int.reduceNeg, BitVec.reduceEq, Int.reduceAdd, Int.reduceSub, Int.reduceMul, Nat.reduceLeDiff, Int.reduceEq, hv]
          · simp only [has, ↓amD, amU, Nat.reduceBEq, Nat.reduceAdd, Nat.reduceSub, Nat.reduceMul, Nat.reduceMod, Nat.reducePow, Nat.reduceLT, Nat.reduceDiv, Int.reduceToNat, BitVec.reduceToNat, zipEnv, Int.reduceLE, Int.reduceLT, Int.reduceNeg, BitVec.reduceEq, Int.reduceAdd, Int.reduceSub, Int.reduceMul, Nat.reduceLeDiff, Int.reduceEq, hh, h5]
          · rw [lv_appk]; rfl
  · rintro env rs ⟨hh, d5, h5, hS⟩ R
    simp only [has] at hh
    have e8 : wz ((n : Int) + 7) = (n : Int) + 7 := wz_id (by omega)
    have e9 : wz (4 * ((n : Int) + 7)) = 4 * ((n : Int) + 7) := wz_id (by omega)
    have e0 : (((4 * n + 28 : Nat) : Int) < 4 * ((n : Int) + 7)) = False := eq_false (by omega)
    have nt : nTup d5 = some d5 := by
      obtain ⟨ds, hO, -⟩ := hS.ow
      exact hO.nTup
    simp only [↓amD, amU, Nat.reduceBEq, Nat.reduceAdd, Nat.reduceSub, Nat.reduceMul, Nat.reduceMod, Nat.reducePow, Nat.reduceLT, Nat.reduceDiv, Int.reduceToNat, BitVec.reduceToNat, zipEnv, Int.reduceLE, Int.reduceLT, Int.reduceNeg, BitVec.reduceEq, Int.reduceAdd, Int.reduceSub, Int.reduceMul, Nat.reduceLeDiff, Int.reduceEq, lv_app0, lv_appk, set_app0, set_appk, List.append_assoc, List.append_nil, Nat.add_assoc, hh, h5, e8, e9, e0, nt]
    exact hk _ _ hS
  · have ec : cN n kb 0 = 1#8 := by unfold cN; rw [Nat.zero_sub]; rfl
    rw [ec]
    simp only [has, ↓amD, amU, Nat.reduceBEq, Nat.reduceAdd, Nat.reduceSub, Nat.reduceMul, Nat.reduceMod, Nat.reducePow, Nat.reduceLT, Nat.reduceDiv, Int.reduceToNat, BitVec.reduceToNat, zipEnv, Int.reduceLE, Int.reduceLT, Int.reduceNeg, BitVec.reduceEq, Int.reduceAdd, Int.reduceSub, Int.reduceMul, Nat.reduceLeDiff, Int.reduceEq]
  · simp only [↓amD, amU, Nat.reduceBEq, Nat.reduceAdd, Nat.reduceSub, Nat.reduceMul, Nat.reduceMod, Nat.reducePow, Nat.reduceLT, Nat.reduceDiv, Int.reduceToNat, BitVec.reduceToNat, zipEnv, Int.reduceLE, Int.reduceLT, Int.reduceNeg, BitVec.reduceEq, Int.reduceAdd, Int.reduceSub, Int.reduceMul, Nat.reduceLeDiff, Int.reduceEq]
  · exact ⟨Kept.app _ _, by rw [lv_app0]; rfl, ⟨[], .nil, rfl, fun j hj => by simp at hj⟩, fun r ex m h => by cases h⟩
end Job
end Go.Am
