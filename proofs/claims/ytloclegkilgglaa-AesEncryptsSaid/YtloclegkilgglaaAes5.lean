/- AES: a key is made -/
import Derived.Test.YtloclegkilgglaaAes4
namespace Go.Am
set_option linter.unusedSimpArgs false
set_option linter.unusedVariables false
attribute [local congr] bnd_congr kCond_congr kGd_congr kPick_congr kCall_congr kIdx_congr kSlice_congr kLoop_congr cond_congr' aBin_congr aBounds_congr aApp_congr aCopy_congr kFn_congr
namespace Job
open Go.Am.F
set_option maxRecDepth 10000
theorem app_ownA {s : Sh} {d : D} {rows : Rows} {els news : List D} {bytes : Nat} {k : D → Rows → Prop} (h : Own s d rows els) (hb : (els.length + news.length) * bytes ≤ most) (hb2 : els.length + news.length ≤ most)
    (hk : ∀ rows', live rows' rows.length = some ⟨s, els ++ news⟩ → (∀ r x, live rows r = some x → (∀ ex n, d ≠ .sl s r [] 0 n ex) → live rows' r = some x) → rows'.length = rows.length + 1 → k (.sl s rows.length [] 0 (els.length + news.length) false) rows') : aApp rows s bytes d news k := by
  unfold aApp
  rw [h.elems, h.slen]
  refine ⟨h.sshape, rfl, hb, hb2, ?_⟩
  rcases h with ⟨rfl, rfl⟩ | ⟨r, ex, rfl, hl⟩
  · simp only [isNil, Bool.true_or, cond_true, kill]
    exact hk _ live_len (fun r x hx _ => live_push hx) (by simp)
  · simp only [isNil, owned, Bool.false_or, cond_true, kill]
    have h1 : (rows.set r none).length = rows.length := by simp
    refine hk _ (by rw [← h1]; exact live_len) (fun r' x hx hne => ?_) (by simp)
    have hr : r ≠ r' := fun e => hne ex _ (by rw [e])
    refine live_push ?_
    unfold live at hx ⊢
    rw [List.getElem?_set_ne hr]; exact hx
theorem live_set_eq {rows : Rows} {r : Nat} {x y : Row} (h : live rows r = some x) : live (rows.set r (some y)) r = some y := by
  have := live_lt h
  simp [live, this]
theorem live_set_o {rows : Rows} {r q : Nat} {x y : Row} (h : live rows r = some x) (hn : q ≠ r) : live (rows.set q (some y)) r = some x := by
  unfold live at h ⊢
  rw [List.getElem?_set_ne hn]; exact h
def rol32 (x : BitVec 32) (n : Nat) : BitVec 32 := x <<< n ||| x >>> (32 - n)
def fRotL : Fn := fn2 rd32 rdI (fun _ k => decide (0 ≤ k) && decide (k < 32)) fun x k => (.raw (u32 (rol32 x k.toNat)), [])
theorem rotL_ok (C : Ctx) (hC : CtxOK C P) : Meets C.glob P 30 (Fn.run fRotL) := by
  refine fn_meets (m_math_bits_RotateLeft32 C hC) fun ds rows r h => ?_
  obtain ⟨d, e, x, k, rfl, rfl, hd, he, hp, rfl⟩ := fn2_some h
  cases rd32_some hd
  cases rdI_some he
  simp only [Bool.and_eq_true, decide_eq_true_eq] at hp
  obtain ⟨n, rfl⟩ := Int.eq_ofNat_of_zero_le hp.1
  refine ⟨rfl, afun_mk rfl ?_⟩
  unfold a_math_bits_RotateLeft32 r_math_bits_RotateLeft32
  have e1 : BitVec.ofInt 64 (n : Int) &&& 31#64 = BitVec.ofNat 64 n := by
    have : ∀ m : Fin 32, BitVec.ofInt 64 (m.val : Int) &&& 31#64 = BitVec.ofNat 64 m.val := by decide
    exact this ⟨n, by omega⟩
  have e2 : (BitVec.ofNat 64 n).toNat = n := by simp; omega
  have e3 : (32#64 - BitVec.ofNat 64 n).toNat = 32 - n := by
    rw [BitVec.toNat_sub]; simp; omega
  simp only [↓amD, amU, Nat.reduceBEq, Nat.reduceAdd, Nat.reduceSub, Nat.reduceMul, Nat.reduceMod, Nat.reducePow, Nat.reduceLT, Nat.reduceDiv, Int.reduceToNat, BitVec.reduceToNat, zipEnv, Int.reduceLE, Int.reduceLT, Int.reduceNeg, BitVec.reduceEq, Int.reduceAdd, Int.reduceSub, Int.reduceMul, Nat.reduceLeDiff, Int.reduceEq, e1, e2, e3]
  exact .val _ rfl
theorem kRotL8 (rows : Rows) (k : D → Rows → Prop) (x : BitVec 32) : kCall fRotL rows k [.raw (u32 x), .raw (it 8)] = k (.raw (u32 (rol32 x 8))) rows := by
  refine (kCall_val rfl (r := (.raw (u32 (rol32 x 8)), [])) ?_).trans ?_
  · rw [fRotL, fn2_eq (rd32_eq x) (rdI_eq _) (by decide)]; rfl
  · simp [shift, shiftRows]
theorem kA_get0 (d : D) : (kA d).get [0] = some d := rfl
theorem kA_set0 (d d' : D) : (kA d).set [0] d' = some (kA d') := rfl
theorem kA_fits (d : D) : (kA d).fits S1 = true := by simp [kA, D.fits]
theorem kSub {rows : Rows} {q : Nat} {d : D} {w : List (BitVec 32)} (hq : live rows q = some ⟨S1, [kA d]⟩) (h : Own L32 d rows (us w)) (hw : w ≠ []) (k : D → Rows → Prop) (x : BitVec 32) :
    kCall fSub rows k [.ptr S1 q [0], .raw (u32 x)] = k (.raw (u32 (subW boxL x))) rows := by
  obtain ⟨hr, e, hv⟩ := kA_view h hw 6
  have hf : fSub [.cptr (kD (some (w, e))), .raw (u32 x)] [] = some (.raw (u32 (subW boxL x)), []) := by
    rw [fSub, fn2_eq (rdOf_eq (mk := fun x => D.cptr (kD (some x))) (fun x y h => by have := kD_inj _ _ (D.cptr.inj h); exact Option.some.inj this) _) (rd32_eq x) rfl]
  unfold kCall
  simp [hasRefL, hasRef, mapO, view, hq, rowGet, D.get, hv, hf, bnd, shift, noLst, shiftRows, noLstRows, Sh.pure]
/-- the schedule -/
structure Sc where
  w : List (BitVec 32)
  c : BitVec 8
def tmpS (n : Nat) (s : Sc) : BitVec 32 :=
  if s.w.length % n = 0 then subW boxL (rol32 (s.w.getD (s.w.length - 1) 0#32) 8) ^^^ s.c.setWidth 32 <<< 24
  else if 6 < n ∧ s.w.length % n = 4 then subW boxL (s.w.getD (s.w.length - 1) 0#32) else s.w.getD (s.w.length - 1) 0#32
def nxS (n : Nat) (s : Sc) : Sc := ⟨s.w ++ [tmpS n s ^^^ s.w.getD (s.w.length - n) 0#32], if s.w.length % n = 0 then xt s.c else s.c⟩
def scN (n : Nat) (w : List (BitVec 32)) : Nat → Sc
  | 0 => ⟨w, 1#8⟩
  | k + 1 => nxS n (scN n w k)
theorem scN_len (n : Nat) (w : List (BitVec 32)) : ∀ k, (scN n w k).w.length = w.length + k
  | 0 => rfl
  | k + 1 => by simp [scN, nxS, scN_len n w k, Nat.add_assoc]
def sched (kb : List (BitVec 8)) : List (BitVec 32) := (scN (kb.length / 4) (words (kb.length / 4) kb) (3 * (kb.length / 4) + 28)).w
theorem sched_len (kb : List (BitVec 8)) : (sched kb).length = 4 * (kb.length / 4) + 28 := by
  rw [sched, scN_len, words_len]; omega
theorem word_at (b : List (BitVec 8)) (i : Nat) : numS ((b.drop (4 * i)).take 4) = (b.getD (4 * i) 0#8).setWidth 32 <<< 24 ||| (b.getD (4 * i + 1) 0#8).setWidth 32 <<< 16 ||| (b.getD (4 * i + 2) 0#8).setWidth 32 <<< 8 ||| (b.getD (4 * i + 3) 0#8).setWidth 32 := by
  simp [numS, List.getD]
def G0 : Nat → Option D := fun _ => none
noncomputable def C0 : Ctx := ⟨G0, fnTab [(29, fSub), (28, fBoxes), (30, fRotL), (36, fRot8), (31, fTwice)], fun _ => none⟩
theorem ctx0 : CtxOK C0 P :=
  have c0 := ctx_nil (G := G0) (P := P)
  have c1 := ctx_cons (twice_ok _ c0) c0
  have c2 := ctx_cons (rot8_ok _ c1) c1
  have c3 := ctx_cons (rotL_ok _ c2) c2
  have c4 := ctx_cons (boxes_ok _ c3 rfl rfl) c3
  ctx_cons (sub_ok _ c4) c4
theorem c_sub : C0.fn 29 = some fSub := rfl
theorem c_boxes : C0.fn 28 = some fBoxes := rfl
theorem c_rotL : C0.fn 30 = some fRotL := rfl
theorem c_twice : C0.fn 31 = some fTwice := rfl
/-- what comes of a key that is none -/
theorem new_bad {rows : Rows} {d : D} {n : Nat} (hl : slen d = some n) (h1 : n ≠ 16) (h2 : n ≠ 32) (hn : n ≤ most) {K : D → Rows → Prop} (h : ∀ more, K (.tup [kD none, .raw (it 1)]) (rows ++ more)) : afun C0 1 r_aes_New a_aes_New [d] rows K := by
  have e1 : ((n : Int) = 16) = False := eq_false (by omega)
  have e2 : ((n : Int) = 32) = False := eq_false (by omega)
  have e3 : (n : Int).tdiv 4 = ((n / 4 : Nat) : Int) := rfl
  have e4 : wz ((n / 4 : Nat) : Int) = ((n / 4 : Nat) : Int) := wz_id (by unfold most at hn; omega)
  simp only [q_afun]
  unfold a_aes_New r_aes_New
  simp only [rep_z]
  simp only [↓amD, amU, Nat.reduceBEq, Nat.reduceAdd, Nat.reduceSub, Nat.reduceMul, Nat.reduceMod, Nat.reducePow, Nat.reduceLT, Nat.reduceDiv, Int.reduceToNat, BitVec.reduceToNat, zipEnv, Int.reduceLE, Int.reduceLT, Int.reduceNeg, BitVec.reduceEq, Int.reduceAdd, Int.reduceSub, Int.reduceMul, Nat.reduceLeDiff, Int.reduceEq, lv_app0, lv_appk, set_app0, set_appk, List.append_assoc, List.append_nil, Nat.add_assoc, hl, e1, e2, e3, e4]
  exact h _
/-- what a key's making leaves -/
structure KeyAt (rows rows' : Rows) (d : D) (w : List (BitVec 32)) : Prop where
  own : Own L32 d rows' (us w)
  fresh : ∀ r ex n, d = .sl L32 r [] 0 n ex → rows.length ≤ r
  frame : ∀ r x, live rows r = some x → live rows' r = some x
theorem own_neA {s s' : Sh} {d : D} {rows : Rows} {els els' : List D} {r : Nat} (h : Own s d rows els) (hl : live rows r = some ⟨s', els'⟩) (hs : s' ≠ s) : ∀ ex n, d ≠ .sl s r [] 0 n ex := by
  intro ex n e
  rcases h with ⟨-, rfl⟩ | ⟨r2, ex2, rfl, hl2⟩
  · cases e
  · injection e with _ e
    subst e
    rw [hl2] at hl
    injection hl with hl
    injection hl with h1 h2
    exact hs h1.symm
theorem key_app {rows rs rs' : Rows} {row : Row} {d : D} {w : List (BitVec 32)} {v : BitVec 32} {z : D} {len m : Nat} (hm : m = rs.length + 1) (hlen : len = (us w).length + 1) (hK : KeyAt rows rs d w) (h5 : live rs (rows.length + 1) = some ⟨S1, [kA d]⟩) (h2 : live rs rows.length = some ⟨S1, [z]⟩)
    (f1 : live rs' (rs ++ [some row]).length = some ⟨L32, us w ++ [.raw (u32 v)]⟩) (f2 : ∀ r x, live (rs ++ [some row]) r = some x → (∀ ex n, d ≠ .sl L32 r [] 0 n ex) → live rs' r = some x) :
    live rs' (rows.length + 1) = some ⟨S1, [kA d]⟩ ∧ live (rs'.set (rows.length + 1) (some ⟨S1, [kA (.sl L32 m [] 0 len false)]⟩)) (rows.length + 1) = some ⟨S1, [kA (.sl L32 m [] 0 len false)]⟩ ∧
    live (rs'.set (rows.length + 1) (some ⟨S1, [kA (.sl L32 m [] 0 len false)]⟩)) rows.length = some ⟨S1, [z]⟩ ∧
    KeyAt rows (rs'.set (rows.length + 1) (some ⟨S1, [kA (.sl L32 m [] 0 len false)]⟩)) (.sl L32 m [] 0 len false) (w ++ [v]) := by
  have b5 := live_lt h5
  have g5 := f2 _ _ (live_push h5) (own_neA hK.own h5 (by decide))
  have g2 := f2 _ _ (live_push h2) (own_neA hK.own h2 (by decide))
  have hm' : (rs ++ [some row]).length = m := by rw [hm]; simp
  rw [hm'] at f1
  refine ⟨g5, live_set_eq g5, live_set_o g2 (by omega), ⟨.inr ⟨m, false, ?_, ?_⟩, ?_, fun r x hx => ?_⟩⟩
  · rw [hlen, us_len, us_len]; simp
  · rw [← us_app]
    exact live_set_o f1 (by omega)
  · intro r ex n hh
    injection hh with _ hh
    omega
  · have br := live_lt hx
    refine live_set_o (f2 _ _ (live_push (hK.frame _ _ hx)) fun ex n hh => ?_) (by omega)
    have := hK.fresh _ _ _ hh
    omega
theorem key_set {rows rs : Rows} {d : D} {w : List (BitVec 32)} {z z' : D} (hK : KeyAt rows rs d w) (h2 : live rs rows.length = some ⟨S1, [z]⟩) : KeyAt rows (rs.set rows.length (some ⟨S1, [z']⟩)) d w := by
  refine ⟨?_, hK.fresh, fun r x hx => live_set_o (hK.frame _ _ hx) (by have := live_lt hx; omega)⟩
  rcases hK.own with h | ⟨m, ex, rfl, hm⟩
  · exact .inl h
  · refine .inr ⟨m, ex, rfl, live_set_o hm ?_⟩
    intro e
    subst e
    rw [h2] at hm
    injection hm with hm
    injection hm with hm _
    cases hm
theorem own_fitsA {s : Sh} {d : D} {rows : Rows} {els : List D} (h : Own s d rows els) : D.fits d .ref = true := by
  rcases h with ⟨-, rfl⟩ | ⟨r, ex, rfl, -⟩ <;> rfl
set_option maxHeartbeats 1000000 in
theorem new_run {rows : Rows} {r0 : Nat} {ex0 : Bool} {kb : List (BitVec 8)} (hl : live rows r0 = some ⟨L8, bs kb⟩) (hk : kb.length = 16 ∨ kb.length = 32) {K : D → Rows → Prop}
    (h : ∀ d rows', KeyAt rows rows' d (sched kb) → K (.tup [kA d, .raw (it 0)]) rows') : afun C0 1 r_aes_New a_aes_New [.sl L8 r0 [] 0 kb.length ex0] rows K := by
  obtain ⟨n, hn, hn4⟩ : ∃ n, kb.length = 4 * n ∧ (n = 4 ∨ n = 8) := by
    rcases hk with hk | hk
    · exact ⟨4, by omega, .inl rfl⟩
    · exact ⟨8, by omega, .inr rfl⟩
  have hS : sched kb = (scN n (words n kb) (3 * n + 28)).w := by
    rw [sched, hn, Nat.mul_div_cancel_left n (by omega)]
  rw [hS] at h
  have e3 : ((4 * n : Nat) : Int).tdiv 4 = (n : Int) := by rcases hn4 with rfl | rfl <;> rfl
  have e4 : wz (n : Int) = (n : Int) := wz_id (by omega)
  simp only [q_afun, hn]
  unfold a_aes_New r_aes_New
  simp only [rep_z]
  have hB : ∀ rows k, kCall fBoxes rows k [] = k (.tup [.agg (.ar 256 L8) (bs boxL), .agg (.ar 256 L8) (bs backL)]) rows := kBoxes
  have main : ∀ p : Bool, (((4 * n : Nat) : Int) = 16) = (p = true) → (((4 * n : Nat) : Int) = 32) = (p = false) → aw C0 a_aes_New (fun _ _ _ => True) [] [] → True := fun _ _ _ _ => trivial
  have hc : ((((4 * n : Nat) : Int) = 16) = True ∧ (((4 * n : Nat) : Int) = 32) = False) ∨ ((((4 * n : Nat) : Int) = 16) = False ∧ (((4 * n : Nat) : Int) = 32) = True) := by
    rcases hn4 with rfl | rfl
    · exact .inl ⟨eq_true rfl, eq_false (by decide)⟩
    · exact .inr ⟨eq_false (by decide), eq_true rfl⟩
  rcases hc with ⟨e6, e7⟩ | ⟨e6, e7⟩
  all_goals
    simp only [↓amD, amU, Nat.reduceBEq, Nat.reduceAdd, Nat.reduceSub, Nat.reduceMul, Nat.reduceMod, Nat.reducePow, Nat.reduceLT, Nat.reduceDiv, Int.reduceToNat, BitVec.reduceToNat, zipEnv, Int.reduceLE, Int.reduceLT, Int.reduceNeg, BitVec.reduceEq, Int.reduceAdd, Int.reduceSub, Int.reduceMul, Nat.reduceLeDiff, Int.reduceEq, lv_app0, lv_appk, set_app0, set_appk, List.append_assoc, List.append_nil, Nat.add_assoc, e3, e4, e6, e7, c_boxes, hB]
    refine kLoop_up n (fun i env rs => has env [(29, .raw (it (i : Int))), (28, .raw (it (n : Int))), (0, .sl L8 r0 [] 0 (4 * n) ex0), (4, .raw (it (n : Int))), (5, .ptr S1 (rows.length + 1) [0]), (2, .ptr S1 rows.length [0])] ∧
      ∃ d, live rs (rows.length + 1) = some ⟨S1, [kA d]⟩ ∧ (∃ z, live rs rows.length = some ⟨S1, [z]⟩) ∧ KeyAt rows rs d (words i kb)) ?_ ?_ ⟨?_, .raw (.slice none 0 0), ?_, ⟨.agg S1 [.raw (.slice none 0 0), .agg (.ar 256 L8) (bs z256), .agg (.ar 256 L8) (bs z256)], ?_⟩, ⟨?_, ?_, ?_⟩⟩
    · rintro i hi env rs ⟨hh, d, h5l, ⟨z, h2l⟩, hK⟩ R hR
      simp only [has] at hh
      obtain ⟨h29, h28, h0, h4, h5, h2, -⟩ := hh
      have e0 : ((i : Int) < (n : Int)) = True := eq_true (by omega)
      have e11 := wz_succ i (by omega)
      have a0 : wz (4 * (i : Int)) = ((4 * i : Nat) : Int) := by rw [wz_id (by omega)]; omega
      have a1 : wz (((4 * i : Nat) : Int) + 1) = ((4 * i + 1 : Nat) : Int) := by rw [wz_id (by omega)]; omega
      have a2 : wz (((4 * i : Nat) : Int) + 2) = ((4 * i + 2 : Nat) : Int) := by rw [wz_id (by omega)]; omega
      have a3 : wz (((4 * i : Nat) : Int) + 3) = ((4 * i + 3 : Nat) : Int) := by rw [wz_id (by omega)]; omega
      have c0 : (((4 * i : Nat) : Int) < ((4 * n : Nat) : Int)) = True := eq_true (by omega)
      have c1 : (((4 * i + 1 : Nat) : Int) < ((4 * n : Nat) : Int)) = True := eq_true (by omega)
      have c2 : (((4 * i + 2 : Nat) : Int) < ((4 * n : Nat) : Int)) = True := eq_true (by omega)
      have c3 : (((4 * i + 3 : Nat) : Int) < ((4 * n : Nat) : Int)) = True := eq_true (by omega)
      have b0 : ∀ n : Nat, ((0 : Int) ≤ (n : Int)) = True := fun n => eq_true (by omega)
      have hl' := hK.frame _ _ hl
      have gg : ∀ (l : List (BitVec 8)) (j : Nat), j < l.length → (bs l)[j]? = some (.raw (u8 (l.getD j 0#8))) := fun l j h => bs_get h
      have g0 := gg kb (4 * i) (by omega)
      have g1 := gg kb (4 * i + 1) (by omega)
      have g2 := gg kb (4 * i + 2) (by omega)
      have g3 := gg kb (4 * i + 3) (by omega)
      simp only [↓amD, amU, Nat.reduceBEq, Nat.reduceAdd, Nat.reduceSub, Nat.reduceMul, Nat.reduceMod, Nat.reducePow, Nat.reduceLT, Nat.reduceDiv, Int.reduceToNat, BitVec.reduceToNat, zipEnv, Int.reduceLE, Int.reduceLT, Int.reduceNeg, BitVec.reduceEq, Int.reduceAdd, Int.reduceSub, Int.reduceMul, Nat.reduceLeDiff, Int.reduceEq, h29, h28, h0, h4, h5, h2, e0, a0, a1, a2, a3, c0, c1, c2, c3, b0, hl', g0, g1, g2, g3, h5l, kA_get0, decide_true]
      refine app_ownA hK.own.push (by rw [us_len, words_len]; simp [most]; omega) (by rw [us_len, words_len]; simp [most]; omega) fun rs' f1 f2 f3 => ?_
      obtain ⟨q5, n5, n2, nK⟩ := key_app rfl rfl hK h5l h2l f1 f2
      simp only [↓amD, amU, Nat.reduceBEq, Nat.reduceAdd, Nat.reduceSub, Nat.reduceMul, Nat.reduceMod, Nat.reducePow, Nat.reduceLT, Nat.reduceDiv, Int.reduceToNat, BitVec.reduceToNat, zipEnv, Int.reduceLE, Int.reduceLT, Int.reduceNeg, BitVec.reduceEq, Int.reduceAdd, Int.reduceSub, Int.reduceMul, Nat.reduceLeDiff, Int.reduceEq, q5, kA_get0, kA_set0, h29, h28, h0, h4, h5, h2, e11]
      rw [← word_at, ← words_succ] at nK
      exact hR _ _ ⟨by simp only [has, ↓amD, amU, Nat.reduceBEq, Nat.reduceAdd, Nat.reduceSub, Nat.reduceMul, Nat.reduceMod, Nat.reducePow, Nat.reduceLT, Nat.reduceDiv, Int.reduceToNat, BitVec.reduceToNat, zipEnv, Int.reduceLE, Int.reduceLT, Int.reduceNeg, BitVec.reduceEq, Int.reduceAdd, Int.reduceSub, Int.reduceMul, Nat.reduceLeDiff, Int.reduceEq, h28, h0, h4, h5, h2], _, n5, ⟨z, n2⟩, nK⟩
    · rintro env rs ⟨hh, d, h5l, ⟨z, h2l⟩, hK⟩ R
      simp only [has] at hh
      obtain ⟨h29, h28, h0, h4, h5, h2, -⟩ := hh
      have e0 : ((n : Int) < (n : Int)) = False := eq_false (by omega)
      simp only [↓amD, amU, Nat.reduceBEq, Nat.reduceAdd, Nat.reduceSub, Nat.reduceMul, Nat.reduceMod, Nat.reducePow, Nat.reduceLT, Nat.reduceDiv, Int.reduceToNat, BitVec.reduceToNat, zipEnv, Int.reduceLE, Int.reduceLT, Int.reduceNeg, BitVec.reduceEq, Int.reduceAdd, Int.reduceSub, Int.reduceMul, Nat.reduceLeDiff, Int.reduceEq, h29, h28, h0, h4, h5, h2, e0]
      refine kLoop_up (3 * n + 28) (fun k env rs => has env [(8, .raw (it ((n + k : Nat) : Int))), (7, .raw (u8 (scN n (words n kb) k).c)), (4, .raw (it (n : Int))), (5, .ptr S1 (rows.length + 1) [0]), (2, .ptr S1 rows.length [0])] ∧
        ∃ d, live rs (rows.length + 1) = some ⟨S1, [kA d]⟩ ∧ (∃ z, live rs rows.length = some ⟨S1, [z]⟩) ∧ KeyAt rows rs d (scN n (words n kb) k).w) ?_ ?_ ⟨?_, d, h5l, ⟨z, h2l⟩, hK⟩
      · rintro k hk2 env rs ⟨hh, d, h5l, ⟨z, h2l⟩, hK⟩ R hR
        have hW : (scN n (words n kb) k).w.length = n + k := by rw [scN_len, words_len]
        have hnx : scN n (words n kb) (k + 1) = nxS n (scN n (words n kb) k) := rfl
        rw [hnx] at hR
        generalize scN n (words n kb) k = s at *
        simp only [has] at hh
        obtain ⟨h8, h7, h4, h5, h2, -⟩ := hh
        have hne : s.w ≠ [] := by intro h; rw [h] at hW; simp at hW; omega
        obtain ⟨m, ex, hd, hm⟩ : ∃ m ex, d = .sl L32 m [] 0 (n + k) ex ∧ live rs m = some ⟨L32, us s.w⟩ := by
          rcases hK.own with ⟨h1, _⟩ | ⟨m, ex, rfl, hm⟩
          · exact absurd (us_inj (b := []) h1) hne
          · exact ⟨m, ex, by rw [us_len, hW], hm⟩
        have x1 : ∀ rows k2, kIdx L32 ((n + k - 1 : Nat) : Int) rows k2 d = k2 (.ptr L32 m [n + k - 1]) rows := by
          intro rows k2; rw [hd]; simp only [↓amD, amU, Nat.reduceBEq, Nat.reduceAdd, Nat.reduceSub, Nat.reduceMul, Nat.reduceMod, Nat.reducePow, Nat.reduceLT, Nat.reduceDiv, Int.reduceToNat, BitVec.reduceToNat, zipEnv, Int.reduceLE, Int.reduceLT, Int.reduceNeg, BitVec.reduceEq, Int.reduceAdd, Int.reduceSub, Int.reduceMul, Nat.reduceLeDiff, Int.reduceEq, eq_true (by omega : (0 : Int) ≤ ((n + k - 1 : Nat) : Int)), eq_true (by omega : ((n + k - 1 : Nat) : Int) < ((n + k : Nat) : Int))]
        have x2 : ∀ rows k2, kIdx L32 ((k : Nat) : Int) rows k2 d = k2 (.ptr L32 m [k]) rows := by
          intro rows k2; rw [hd]; simp only [↓amD, amU, Nat.reduceBEq, Nat.reduceAdd, Nat.reduceSub, Nat.reduceMul, Nat.reduceMod, Nat.reducePow, Nat.reduceLT, Nat.reduceDiv, Int.reduceToNat, BitVec.reduceToNat, zipEnv, Int.reduceLE, Int.reduceLT, Int.reduceNeg, BitVec.reduceEq, Int.reduceAdd, Int.reduceSub, Int.reduceMul, Nat.reduceLeDiff, Int.reduceEq, eq_true (by omega : (0 : Int) ≤ ((k : Nat) : Int)), eq_true (by omega : ((k : Nat) : Int) < ((n + k : Nat) : Int))]
        have ks := fun k x => kSub h5l hK.own hne k x
        have e8 : wz ((n : Int) + 7) = (n : Int) + 7 := wz_id (by omega)
        have e9 : wz (4 * ((n : Int) + 7)) = 4 * ((n : Int) + 7) := wz_id (by omega)
        have e0 : (((n + k : Nat) : Int) < 4 * ((n : Int) + 7)) = True := eq_true (by omega)
        have a1 : wz (((n + k : Nat) : Int) - 1) = ((n + k - 1 : Nat) : Int) := by rw [wz_id (by omega)]; omega
        have a2 : wz (((n + k : Nat) : Int) - (n : Int)) = ((k : Nat) : Int) := by rw [wz_id (by omega)]; omega
        have a3 : wz (((n + k : Nat) : Int) + 1) = ((n + (k + 1) : Nat) : Int) := by rw [wz_id (by omega)]; omega
        have b0 : ∀ n : Nat, ((0 : Int) ≤ (n : Int)) = True := fun n => eq_true (by omega)
        have c1 : (((n + k - 1 : Nat) : Int) < ((n + k : Nat) : Int)) = True := eq_true (by omega)
        have c2 : (((k : Nat) : Int) < ((n + k : Nat) : Int)) = True := eq_true (by omega)
        have d1 : ((n : Int) = 0) = False := eq_false (by omega)
        have d2 : ((n + k : Nat) : Int).tmod (n : Int) = (((n + k) % n : Nat) : Int) := rfl
        have g1 : (us s.w)[n + k - 1]? = some (.raw (u32 (s.w.getD (n + k - 1) 0#32))) := us_get (by omega)
        have g2 : (us s.w)[k]? = some (.raw (u32 (s.w.getD k 0#32))) := us_get (by omega)
        have nw : (nxS n s).w = s.w ++ [tmpS n s ^^^ s.w.getD k 0#32] := by rw [nxS, hW, Nat.add_sub_cancel_left]
        have nc : (nxS n s).c = if (n + k) % n = 0 then xt s.c else s.c := by rw [nxS, hW]
        have ht : tmpS n s = if (n + k) % n = 0 then subW boxL (rol32 (s.w.getD (n + k - 1) 0#32) 8) ^^^ s.c.setWidth 32 <<< 24 else if 6 < n ∧ (n + k) % n = 4 then subW boxL (s.w.getD (n + k - 1) 0#32) else s.w.getD (n + k - 1) 0#32 := by rw [tmpS, hW]
        have hlen : (us s.w).length = n + k := by rw [us_len, hW]
        by_cases h0 : (n + k) % n = 0
        · have d3 : ((((n + k) % n : Nat) : Int) = 0) = True := eq_true (by omega)
          rw [if_pos h0] at ht nc
          simp only [↓amD, amU, Nat.reduceBEq, Nat.reduceAdd, Nat.reduceSub, Nat.reduceMul, Nat.reduceMod, Nat.reducePow, Nat.reduceLT, Nat.reduceDiv, Int.reduceToNat, BitVec.reduceToNat, zipEnv, Int.reduceLE, Int.reduceLT, Int.reduceNeg, BitVec.reduceEq, Int.reduceAdd, Int.reduceSub, Int.reduceMul, Nat.reduceLeDiff, Int.reduceEq, h8, h7, h4, h5, h2, e8, e9, e0, a1, a2, b0, c1, c2, d1, d2, d3, hm, h5l, kA_get0, g1, g2, c_rotL, c_sub, c_twice, kRotL8, ks, kTwice, x1, x2, decide_true]
          refine app_ownA hK.own.push (by rw [hlen]; simp [most]; omega) (by rw [hlen]; simp [most]; omega) fun rs' f1 f2 f3 => ?_
          obtain ⟨q5, n5, n2, nK⟩ := key_app rfl rfl hK h5l h2l f1 f2
          simp only [↓amD, amU, Nat.reduceBEq, Nat.reduceAdd, Nat.reduceSub, Nat.reduceMul, Nat.reduceMod, Nat.reducePow, Nat.reduceLT, Nat.reduceDiv, Int.reduceToNat, BitVec.reduceToNat, zipEnv, Int.reduceLE, Int.reduceLT, Int.reduceNeg, BitVec.reduceEq, Int.reduceAdd, Int.reduceSub, Int.reduceMul, Nat.reduceLeDiff, Int.reduceEq, q5, kA_get0, kA_set0, h8, h7, h4, h5, h2, a3]
          rw [← ht, ← nw] at nK
          exact hR _ _ ⟨by simp only [has, ↓amD, amU, Nat.reduceBEq, Nat.reduceAdd, Nat.reduceSub, Nat.reduceMul, Nat.reduceMod, Nat.reducePow, Nat.reduceLT, Nat.reduceDiv, Int.reduceToNat, BitVec.reduceToNat, zipEnv, Int.reduceLE, Int.reduceLT, Int.reduceNeg, BitVec.reduceEq, Int.reduceAdd, Int.reduceSub, Int.reduceMul, Nat.reduceLeDiff, Int.reduceEq, h4, h5, h2, nc], _, n5, ⟨z, n2⟩, nK⟩
        · have d3 : ((((n + k) % n : Nat) : Int) = 0) = False := eq_false (by omega)
          rw [if_neg h0] at ht nc
          by_cases h6 : 6 < n
          · have d4 : ((6 : Int) < (n : Int)) = True := eq_true (by omega)
            by_cases h44 : (n + k) % n = 4
            · have d5 : ((((n + k) % n : Nat) : Int) = 4) = True := eq_true (by omega)
              rw [if_pos ⟨h6, h44⟩] at ht
              simp only [↓amD, amU, Nat.reduceBEq, Nat.reduceAdd, Nat.reduceSub, Nat.reduceMul, Nat.reduceMod, Nat.reducePow, Nat.reduceLT, Nat.reduceDiv, Int.reduceToNat, BitVec.reduceToNat, zipEnv, Int.reduceLE, Int.reduceLT, Int.reduceNeg, BitVec.reduceEq, Int.reduceAdd, Int.reduceSub, Int.reduceMul, Nat.reduceLeDiff, Int.reduceEq, h8, h7, h4, h5, h2, e8, e9, e0, a1, a2, b0, c1, c2, d1, d2, d3, d4, d5, hm, h5l, kA_get0, g1, g2, c_rotL, c_sub, c_twice, kRotL8, ks, kTwice, x1, x2, decide_true, decide_false]
              refine app_ownA hK.own.push (by rw [hlen]; simp [most]; omega) (by rw [hlen]; simp [most]; omega) fun rs' f1 f2 f3 => ?_
              obtain ⟨q5, n5, n2, nK⟩ := key_app rfl rfl hK h5l h2l f1 f2
              simp only [↓amD, amU, Nat.reduceBEq, Nat.reduceAdd, Nat.reduceSub, Nat.reduceMul, Nat.reduceMod, Nat.reducePow, Nat.reduceLT, Nat.reduceDiv, Int.reduceToNat, BitVec.reduceToNat, zipEnv, Int.reduceLE, Int.reduceLT, Int.reduceNeg, BitVec.reduceEq, Int.reduceAdd, Int.reduceSub, Int.reduceMul, Nat.reduceLeDiff, Int.reduceEq, q5, kA_get0, kA_set0, h8, h7, h4, h5, h2, a3]
              rw [← ht, ← nw] at nK
              exact hR _ _ ⟨by simp only [has, ↓amD, amU, Nat.reduceBEq, Nat.reduceAdd, Nat.reduceSub, Nat.reduceMul, Nat.reduceMod, Nat.reducePow, Nat.reduceLT, Nat.reduceDiv, Int.reduceToNat, BitVec.reduceToNat, zipEnv, Int.reduceLE, Int.reduceLT, Int.reduceNeg, BitVec.reduceEq, Int.reduceAdd, Int.reduceSub, Int.reduceMul, Nat.reduceLeDiff, Int.reduceEq, h7, h4, h5, h2, nc], _, n5, ⟨z, n2⟩, nK⟩
            · have d5 : ((((n + k) % n : Nat) : Int) = 4) = False := eq_false (by omega)
              rw [if_neg (fun h => h44 h.2)] at ht
              simp only [↓amD, amU, Nat.reduceBEq, Nat.reduceAdd, Nat.reduceSub, Nat.reduceMul, Nat.reduceMod, Nat.reducePow, Nat.reduceLT, Nat.reduceDiv, Int.reduceToNat, BitVec.reduceToNat, zipEnv, Int.reduceLE, Int.reduceLT, Int.reduceNeg, BitVec.reduceEq, Int.reduceAdd, Int.reduceSub, Int.reduceMul, Nat.reduceLeDiff, Int.reduceEq, h8, h7, h4, h5, h2, e8, e9, e0, a1, a2, b0, c1, c2, d1, d2, d3, d4, d5, hm, h5l, kA_get0, g1, g2, c_rotL, c_sub, c_twice, kRotL8, ks, kTwice, x1, x2, decide_true, decide_false]
              refine app_ownA hK.own.push (by rw [hlen]; simp [most]; omega) (by rw [hlen]; simp [most]; omega) fun rs' f1 f2 f3 => ?_
              obtain ⟨q5, n5, n2, nK⟩ := key_app rfl rfl hK h5l h2l f1 f2
              simp only [↓amD, amU, Nat.reduceBEq, Nat.reduceAdd, Nat.reduceSub, Nat.reduceMul, Nat.reduceMod, Nat.reducePow, Nat.reduceLT, Nat.reduceDiv, Int.reduceToNat, BitVec.reduceToNat, zipEnv, Int.reduceLE, Int.reduceLT, Int.reduceNeg, BitVec.reduceEq, Int.reduceAdd, Int.reduceSub, Int.reduceMul, Nat.reduceLeDiff, Int.reduceEq, q5, kA_get0, kA_set0, h8, h7, h4, h5, h2, a3]
              rw [← ht, ← nw] at nK
              exact hR _ _ ⟨by simp only [has, ↓amD, amU, Nat.reduceBEq, Nat.reduceAdd, Nat.reduceSub, Nat.reduceMul, Nat.reduceMod, Nat.reducePow, Nat.reduceLT, Nat.reduceDiv, Int.reduceToNat, BitVec.reduceToNat, zipEnv, Int.reduceLE, Int.reduceLT, Int.reduceNeg, BitVec.reduceEq, Int.reduceAdd, Int.reduceSub, Int.reduceMul, Nat.reduceLeDiff, Int.reduceEq, h7, h4, h5, h2, nc], _, n5, ⟨z, n2⟩, nK⟩
          · have d4 : ((6 : Int) < (n : Int)) = False := eq_false (by omega)
            rw [if_neg (fun h => h6 h.1)] at ht
            simp only [↓amD, amU, Nat.reduceBEq, Nat.reduceAdd, Nat.reduceSub, Nat.reduceMul, Nat.reduceMod, Nat.reducePow, Nat.reduceLT, Nat.reduceDiv, Int.reduceToNat, BitVec.reduceToNat, zipEnv, Int.reduceLE, Int.reduceLT, Int.reduceNeg, BitVec.reduceEq, Int.reduceAdd, Int.reduceSub, Int.reduceMul, Nat.reduceLeDiff, Int.reduceEq, h8, h7, h4, h5, h2, e8, e9, e0, a1, a2, b0, c1, c2, d1, d2, d3, d4, hm, h5l, kA_get0, g1, g2, c_rotL, c_sub, c_twice, kRotL8, ks, kTwice, x1, x2, decide_true, decide_false]
            refine app_ownA hK.own.push (by rw [hlen]; simp [most]; omega) (by rw [hlen]; simp [most]; omega) fun rs' f1 f2 f3 => ?_
            obtain ⟨q5, n5, n2, nK⟩ := key_app rfl rfl hK h5l h2l f1 f2
            simp only [↓amD, amU, Nat.reduceBEq, Nat.reduceAdd, Nat.reduceSub, Nat.reduceMul, Nat.reduceMod, Nat.reducePow, Nat.reduceLT, Nat.reduceDiv, Int.reduceToNat, BitVec.reduceToNat, zipEnv, Int.reduceLE, Int.reduceLT, Int.reduceNeg, BitVec.reduceEq, Int.reduceAdd, Int.reduceSub, Int.reduceMul, Nat.reduceLeDiff, Int.reduceEq, q5, kA_get0, kA_set0, h8, h7, h4, h5, h2, a3]
            rw [← ht, ← nw] at nK
            exact hR _ _ ⟨by simp only [has, ↓amD, amU, Nat.reduceBEq, Nat.reduceAdd, Nat.reduceSub, Nat.reduceMul, Nat.reduceMod, Nat.reducePow, Nat.reduceLT, Nat.reduceDiv, Int.reduceToNat, BitVec.reduceToNat, zipEnv, Int.reduceLE, Int.reduceLT, Int.reduceNeg, BitVec.reduceEq, Int.reduceAdd, Int.reduceSub, Int.reduceMul, Nat.reduceLeDiff, Int.reduceEq, h7, h4, h5, h2, nc], _, n5, ⟨z, n2⟩, nK⟩
      · rintro env rs ⟨hh, d, h5l, ⟨z, h2l⟩, hK⟩ R
        simp only [has] at hh
        obtain ⟨h8, h7, h4, h5, h2, -⟩ := hh
        have e8 : wz ((n : Int) + 7) = (n : Int) + 7 := wz_id (by omega)
        have e9 : wz (4 * ((n : Int) + 7)) = 4 * ((n : Int) + 7) := wz_id (by omega)
        have e0 : (((n + (3 * n + 28) : Nat) : Int) < 4 * ((n : Int) + 7)) = False := eq_false (by omega)
        have hs := live_set_eq (y := ⟨S1, [kA d]⟩) h2l
        have hg : (kA d).get [] = some (kA d) := rfl
        have hz : ∀ x, z.set [] x = some x := fun x => by cases z <;> rfl
        have hzg : z.get [] = some z := by cases z <;> rfl
        simp only [↓amD, amU, Nat.reduceBEq, Nat.reduceAdd, Nat.reduceSub, Nat.reduceMul, Nat.reduceMod, Nat.reducePow, Nat.reduceLT, Nat.reduceDiv, Int.reduceToNat, BitVec.reduceToNat, zipEnv, Int.reduceLE, Int.reduceLT, Int.reduceNeg, BitVec.reduceEq, Int.reduceAdd, Int.reduceSub, Int.reduceMul, Nat.reduceLeDiff, Int.reduceEq, h8, h7, h4, h5, h2, e8, e9, e0, h5l, h2l, hs, kA_fits]
        exact h _ _ (key_set hK h2l)
      · simp only [has, ↓amD, amU, Nat.reduceBEq, Nat.reduceAdd, Nat.reduceSub, Nat.reduceMul, Nat.reduceMod, Nat.reducePow, Nat.reduceLT, Nat.reduceDiv, Int.reduceToNat, BitVec.reduceToNat, zipEnv, Int.reduceLE, Int.reduceLT, Int.reduceNeg, BitVec.reduceEq, Int.reduceAdd, Int.reduceSub, Int.reduceMul, Nat.reduceLeDiff, Int.reduceEq, h29, h28, h0, h4, h5, h2]
        exact ⟨rfl, rfl⟩
    · simp only [has, ↓amD, amU, Nat.reduceBEq, Nat.reduceAdd, Nat.reduceSub, Nat.reduceMul, Nat.reduceMod, Nat.reducePow, Nat.reduceLT, Nat.reduceDiv, Int.reduceToNat, BitVec.reduceToNat, zipEnv, Int.reduceLE, Int.reduceLT, Int.reduceNeg, BitVec.reduceEq, Int.reduceAdd, Int.reduceSub, Int.reduceMul, Nat.reduceLeDiff, Int.reduceEq]
    · simp only [lv_appk]; rfl
    · simp only [lv_app0]; rfl
    · exact .inl ⟨rfl, rfl⟩
    · intro r ex n hh; cases hh
    · intro r x hx; exact live_push hx
end Job
end Go.Am
