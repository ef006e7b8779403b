/- the journal: ops one behind the other; the next ones -/
import Derived.Test.YtmicfjeedofokaaDoorJn4
namespace Go.Am
set_option linter.unusedSimpArgs false
set_option linter.unusedVariables false
attribute [local congr] bnd_congr kCond_congr kGd_congr kPick_congr kCall_congr kIdx_congr kSlice_congr kLoop_congr cond_congr' aBin_congr aBounds_congr aApp_congr aCopy_congr kFn_congr
namespace Job
open Go.Am.F
set_option maxRecDepth 10000
structure JO where
  k : BitVec 8
  i : Nat
  d : D
  p : List (BitVec 8)
def JO.D (o : JO) : Am.D := opD o.k o.i o.d
def doX (x : List (BitVec 8)) (l : List JO) : List (BitVec 8) := l.foldl (fun x o => newX x o.i o.p ff256) x
theorem doX_len (x : List (BitVec 8)) (l : List JO) : (doX x l).length = x.length := by
  induction l generalizing x with
  | nil => rfl
  | cons o l ih => exact (ih _).trans (newX_len _ _ _ _)
theorem doX_succ (x : List (BitVec 8)) (l : List JO) (j : Nat) (o : JO) (h : l[j]? = some o) : doX x (l.take (j + 1)) = newX (doX x (l.take j)) o.i o.p ff256 := by
  obtain ⟨hj, rfl⟩ := List.getElem?_eq_some_iff.1 h
  rw [List.take_succ_eq_append_getElem hj, doX, List.foldl_append]
  rfl
theorem OpB.keep {rows rows' : Rows} {m : Nat} {k : BitVec 8} {d : D} {p : List (BitVec 8)} (h : OpB rows m k d p) (f : ∀ q row, live rows q = some row → q ≠ m → live rows' q = some row) : OpB rows' m k d p := by
  cases h with
  | er => exact .er
  | wr q p ex h1 h2 h3 h4 => exact .wr q p ex (f _ _ h1 h4) h2 h3 h4
set_option maxHeartbeats 1000000 in
theorem do_run (C C0 : Ctx) {rows : Rows} {r m ro n : Nat} {ex : Bool} {x : List (BitVec 8)} {ops : List JO} (hF : FlAt rows r m x) (hx : x.length ≤ 1048576) (hro : live rows ro = some ⟨SOP, ops.map JO.D⟩) (nro : ro ≠ m) (hn : ops.length = n) (hn2 : n ≤ 1048576)
    (hop : ∀ (j : Nat) (o : JO), ops[j]? = some o → OpB rows m o.k o.d o.p ∧ 256 * o.i + 256 ≤ x.length ∧ errA (some (doX x (ops.take j), false)) (o.i : Int) 0 o.p = 0)
    (hA : C0.fn 41 = some fAfter) (nT : C0.fn 42 = none) (rT : C0.fnr 42 = some (afun CF 4 r_flash_Flash_Tear a_flash_Flash_Tear))
    (hall : C.fn 35 = some fAllF) (nJ : C.fn 27 = none) (rJ : C.fnr 27 = some (afun C0 4 r_journal_Tear a_journal_Tear)) {K : D → Rows → Prop}
    (hk : ∀ rows', Upd rows rows' r m (doX x ops) → K (.raw (it 0)) rows') : afun C 3 r_journal_Do a_journal_Do [.ptr SF r [0], .raw (.pointer none), .sl SOP ro [] 0 n ex] rows K := by
  subst hn
  refine afun_mk rfl ?_
  unfold a_journal_Do r_journal_Do
  simp only [↓amD, amU, Nat.reduceBEq, Nat.reduceAdd, Nat.reduceSub, Nat.reduceMul, Nat.reduceMod, Nat.reducePow, Nat.reduceLT, Nat.reduceDiv, Int.reduceToNat, BitVec.reduceToNat, zipEnv, Int.reduceLE, Int.reduceLT, Int.reduceNeg, BitVec.reduceEq, Int.reduceAdd, Int.reduceSub, Int.reduceMul, Nat.reduceLeDiff, Int.reduceEq]
  refine kLoop_up ops.length (fun j env rs => has env [(12, .raw (it (j : Int))), (11, .raw (it (ops.length : Int))), (10, .sl SOP ro [] 0 ops.length ex), (0, .ptr SF r [0]), (1, .raw (.pointer none))] ∧ Upd rows rs r m (doX x (ops.take j))) ?_ ?_ ?_
  · rintro j hj env rs ⟨hh, U⟩ R hR
    simp only [has] at hh
    have e0 : ((j : Int) < (ops.length : Int)) = True := eq_true (by omega)
    have e1 := wz_succ j (by omega)
    obtain ⟨o, ho⟩ : ∃ o, ops[j]? = some o := ⟨_, List.getElem?_eq_getElem hj⟩
    obtain ⟨b1, b2, b3⟩ := hop j o ho
    have g : (ops.map JO.D)[j]? = some (opD o.k o.i o.d) := by rw [List.getElem?_map, ho]; rfl
    have hl := U.frame _ _ hro nro
    have hlA := fun L => live_app hl L
    have b1' := b1.keep U.frame
    have hfit := b1.fits o.i
    have e2 : ((0 : Int) ≤ (j : Int)) = True := eq_true (by omega)
    simp only [↓amD, amU, Nat.reduceBEq, Nat.reduceAdd, Nat.reduceSub, Nat.reduceMul, Nat.reduceMod, Nat.reducePow, Nat.reduceLT, Nat.reduceDiv, Int.reduceToNat, BitVec.reduceToNat, zipEnv, Int.reduceLE, Int.reduceLT, Int.reduceNeg, BitVec.reduceEq, Int.reduceAdd, Int.reduceSub, Int.reduceMul, Nat.reduceLeDiff, Int.reduceEq, lv_app0, lv_appk, set_app0, set_appk, List.append_assoc, List.append_nil, Nat.add_assoc, hh, e0, e1, e2, hl, hlA, g, hfit, hall, kAllF, nJ, rJ]
    have lt := U.fl.lt
    have hm := lv_appk rs [some ⟨SOP, [opD o.k o.i o.d]⟩, some ⟨L8, bs ff256⟩] 1
    refine jtear_run C0 (w := ff256) (U.fl.push _) (by rw [doX_len]; exact hx) (by rw [doX_len]; exact b2) (b1'.keep fun q row hq _ => live_app hq _) (by rw [lv_appk]; rfl) (by omega) (by rw [ff_len]; omega) b3 hA nT rT fun rows' U' => ?_
    have hs := doX_succ x ops j o ho
    rw [← hs] at U'
    simp only [↓amD, amU, Nat.reduceBEq, Nat.reduceAdd, Nat.reduceSub, Nat.reduceMul, Nat.reduceMod, Nat.reducePow, Nat.reduceLT, Nat.reduceDiv, Int.reduceToNat, BitVec.reduceToNat, zipEnv, Int.reduceLE, Int.reduceLT, Int.reduceNeg, BitVec.reduceEq, Int.reduceAdd, Int.reduceSub, Int.reduceMul, Nat.reduceLeDiff, Int.reduceEq, lv_app0, lv_appk, set_app0, set_appk, List.append_assoc, List.append_nil, Nat.add_assoc, hh, e1]
    refine hR _ _ ⟨by simp only [has, ↓amD, amU, Nat.reduceBEq, Nat.reduceAdd, Nat.reduceSub, Nat.reduceMul, Nat.reduceMod, Nat.reducePow, Nat.reduceLT, Nat.reduceDiv, Int.reduceToNat, BitVec.reduceToNat, zipEnv, Int.reduceLE, Int.reduceLT, Int.reduceNeg, BitVec.reduceEq, Int.reduceAdd, Int.reduceSub, Int.reduceMul, Nat.reduceLeDiff, Int.reduceEq, hh], U'.fl, fun q row hq hn => U'.of.frame q row (U.frame q row hq hn) hn⟩
  · rintro env rs ⟨hh, U⟩ R
    simp only [has] at hh
    rw [List.take_length] at U
    have e0 : ((ops.length : Int) < (ops.length : Int)) = False := eq_false (by omega)
    simp only [↓amD, amU, Nat.reduceBEq, Nat.reduceAdd, Nat.reduceSub, Nat.reduceMul, Nat.reduceMod, Nat.reducePow, Nat.reduceLT, Nat.reduceDiv, Int.reduceToNat, BitVec.reduceToNat, zipEnv, Int.reduceLE, Int.reduceLT, Int.reduceNeg, BitVec.reduceEq, Int.reduceAdd, Int.reduceSub, Int.reduceMul, Nat.reduceLeDiff, Int.reduceEq, lv_app0, lv_appk, set_app0, set_appk, List.append_assoc, List.append_nil, Nat.add_assoc, hh, e0]
    exact hk _ U
  · exact ⟨by simp only [has, ↓amD, amU, Nat.reduceBEq, Nat.reduceAdd, Nat.reduceSub, Nat.reduceMul, Nat.reduceMod, Nat.reducePow, Nat.reduceLT, Nat.reduceDiv, Int.reduceToNat, BitVec.reduceToNat, zipEnv, Int.reduceLE, Int.reduceLT, Int.reduceNeg, BitVec.reduceEq, Int.reduceAdd, Int.reduceSub, Int.reduceMul, Nat.reduceLeDiff, Int.reduceEq], hF, fun q row hq _ => hq⟩
/-- what is done next: the page, and the state -/
def nextJ (K : FV) (s : JS) : JS := ⟨(readJ K).1.q + 1#32, s.a, s.t, s.n⟩
def nextP (K : FV) : Nat := if (readJ K).2 = 32 then 33 else 32
def nextB (K : FV) (s : JS) : Bool := !decide ((readJ K).1.q + 1#32 = 0#32) && rightJ s
def nextO (K : FV) (s : JS) (q : Nat) : List JO := [⟨1#8, nextP K, .raw (.slice none 0 0), []⟩, ⟨2#8, nextP K, .sl L8 q [] 0 32 false, bytesJ (nextJ K s)⟩]
theorem u32_eq (x y : BitVec 32) (k : D → Prop) : aBin .eql (u32 x) (u32 y) k = k (.raw (.bool (decide (x = y)))) := by
  simp only [aBin, u32]
  by_cases h : x = y
  · subst h; simp
  · have : ¬ (x.toNat : Int) = (y.toNat : Int) := fun e => h (BitVec.eq_of_toNat_eq (by omega))
    simp [h, this]
theorem opD_mk (k : BitVec 8) (i : Nat) (d : D) : D.agg SOP [.raw (u8 k), .raw (it (i : Int)), .raw (it 0), d, .raw (it 0), .raw (u32 0#32)] = opD k i d := rfl
theorem jD_s0 (s : JS) (q : BitVec 32) : (jD s).set [0] (.raw (u32 q)) = some (jD ⟨q, s.a, s.t, s.n⟩) := rfl
set_option maxHeartbeats 2000000 in
theorem next_run (C : Ctx) {rows : Rows} {d : D} {K : FV} (s : JS) (hF : FlIn rows d K) (hF2 : ∀ L, FlIn (rows ++ L) d K) (hl : flLen K ≤ 1048576) (hr : C.fn 22 = some fReadJ) (hri : C.fn 12 = some fRightJ) (hb : C.fn 10 = some fBytesJ) {Kk : D → Rows → Prop}
    (h0 : nextB K s = false → ∀ L, Kk (.raw (.slice none 0 0)) (rows ++ L))
    (h1 : nextB K s = true → ∀ rows' ro q, (∃ L, rows' = rows ++ L) → rows.length ≤ ro → rows.length ≤ q → live rows' ro = some ⟨SOP, (nextO K s q).map JO.D⟩ → live rows' q = some ⟨L8, bs (bytesJ (nextJ K s))⟩ → Kk (.sl SOP ro [] 0 2 true) rows') :
    afun C 2 r_journal_Next a_journal_Next [d, jD s] rows Kk := by
  refine afun_mk rfl ?_
  unfold a_journal_Next r_journal_Next
  have hz : D.agg SJ [.raw (u32 0#32), .raw (it 0), .raw (it 0), .raw (it 0)] = jD zeroJ := rfl
  have kr := fun L k => kReadJ (hF2 L) hl k
  have hnj : nextJ K s = ⟨(readJ K).1.q + 1#32, s.a, s.t, s.n⟩ := rfl
  have hri2 : ∀ q, rightJ ⟨q, s.a, s.t, s.n⟩ = rightJ s := fun q => rfl
  simp only [↓amD, amU, Nat.reduceBEq, Nat.reduceAdd, Nat.reduceSub, Nat.reduceMul, Nat.reduceMod, Nat.reducePow, Nat.reduceLT, Nat.reduceDiv, Int.reduceToNat, BitVec.reduceToNat, zipEnv, Int.reduceLE, Int.reduceLT, Int.reduceNeg, BitVec.reduceEq, Int.reduceAdd, Int.reduceSub, Int.reduceMul, Nat.reduceLeDiff, Int.reduceEq, lv_app0, lv_appk, set_app0, set_appk, List.append_assoc, List.append_nil, Nat.add_assoc, hz, jD_fits, hr, kr, jD_g0, jD_s0, u32_eq]
  by_cases c : (readJ K).1.q + 1#32 = 0#32
  · have hB : nextB K s = false := by rw [nextB, decide_eq_true c]; rfl
    have c1 : ((readJ K).1.q + 1#32 = 0#32) = True := eq_true c
    simp only [↓amD, amU, Nat.reduceBEq, Nat.reduceAdd, Nat.reduceSub, Nat.reduceMul, Nat.reduceMod, Nat.reducePow, Nat.reduceLT, Nat.reduceDiv, Int.reduceToNat, BitVec.reduceToNat, zipEnv, Int.reduceLE, Int.reduceLT, Int.reduceNeg, BitVec.reduceEq, Int.reduceAdd, Int.reduceSub, Int.reduceMul, Nat.reduceLeDiff, Int.reduceEq, lv_app0, lv_appk, set_app0, set_appk, List.append_assoc, List.append_nil, Nat.add_assoc, c1, decide_true]
    exact h0 hB _
  · have c1 : ((readJ K).1.q + 1#32 = 0#32) = False := eq_false c
    have kR := fun rows k => kRightJ rows k (nextJ K s)
    rw [hnj, hri2] at kR
    cases hk : rightJ s
    · have hB : nextB K s = false := by rw [nextB, hk, Bool.and_false]
      rw [hk] at kR
      simp only [↓amD, amU, Nat.reduceBEq, Nat.reduceAdd, Nat.reduceSub, Nat.reduceMul, Nat.reduceMod, Nat.reducePow, Nat.reduceLT, Nat.reduceDiv, Int.reduceToNat, BitVec.reduceToNat, zipEnv, Int.reduceLE, Int.reduceLT, Int.reduceNeg, BitVec.reduceEq, Int.reduceAdd, Int.reduceSub, Int.reduceMul, Nat.reduceLeDiff, Int.reduceEq, lv_app0, lv_appk, set_app0, set_appk, List.append_assoc, List.append_nil, Nat.add_assoc, c1, decide_false, hri, kR, jD_fits]
      exact h0 hB _
    · have hB : nextB K s = true := by rw [nextB, hk, decide_eq_false c]; rfl
      rw [hk] at kR
      have kb := fun rows k => kBytesJ rows k (nextJ K s) (by rw [hnj, hri2]; exact hk)
      rw [hnj] at kb
      by_cases c2 : (readJ K).2 = 32
      · have c3 : ((readJ K).2 = 32) = True := eq_true c2
        have hP : nextP K = 33 := if_pos c2
        have h1' := h1 hB
        simp only [↓amD, amU, Nat.reduceBEq, Nat.reduceAdd, Nat.reduceSub, Nat.reduceMul, Nat.reduceMod, Nat.reducePow, Nat.reduceLT, Nat.reduceDiv, Int.reduceToNat, BitVec.reduceToNat, zipEnv, Int.reduceLE, Int.reduceLT, Int.reduceNeg, BitVec.reduceEq, Int.reduceAdd, Int.reduceSub, Int.reduceMul, Nat.reduceLeDiff, Int.reduceEq, lv_app0, lv_appk, set_app0, set_appk, List.append_assoc, List.append_nil, Nat.add_assoc, c1, c3, decide_false, hri, kR, jD_fits, hb, kb]
        refine h1' _ (rows.length + 3) (rows.length + 2) ⟨_, rfl⟩ (by omega) (by omega) ?_ ?_
        · rw [lv_appk, nextO, hP]; rfl
        · rw [lv_appk]; rfl
      · have c3 : ((readJ K).2 = 32) = False := eq_false c2
        have hP : nextP K = 32 := if_neg c2
        have h1' := h1 hB
        simp only [↓amD, amU, Nat.reduceBEq, Nat.reduceAdd, Nat.reduceSub, Nat.reduceMul, Nat.reduceMod, Nat.reducePow, Nat.reduceLT, Nat.reduceDiv, Int.reduceToNat, BitVec.reduceToNat, zipEnv, Int.reduceLE, Int.reduceLT, Int.reduceNeg, BitVec.reduceEq, Int.reduceAdd, Int.reduceSub, Int.reduceMul, Nat.reduceLeDiff, Int.reduceEq, lv_app0, lv_appk, set_app0, set_appk, List.append_assoc, List.append_nil, Nat.add_assoc, c1, c3, decide_false, hri, kR, jD_fits, hb, kb]
        refine h1' _ (rows.length + 3) (rows.length + 2) ⟨_, rfl⟩ (by omega) (by omega) ?_ ?_
        · rw [lv_appk, nextO, hP]; rfl
        · rw [lv_appk]; rfl
/-- bytes of an argument, or of a row -/
def Sl (rows : Rows) (d : D) (p : List (BitVec 8)) : Prop := IsBs d p ∨ ∃ r ex, d = .sl L8 r [] 0 p.length ex ∧ live rows r = some ⟨L8, bs p⟩
theorem Sl.to {rows : Rows} {d : D} {p : List (BitVec 8)} (h : Sl rows d p) : BsIn rows d p := by
  rcases h with h | ⟨r, ex, rfl, h⟩
  · exact h.to
  · exact BsIn.own h _ rfl
theorem Sl.keep {rows rows' : Rows} {d : D} {p : List (BitVec 8)} (h : Sl rows d p) (f : ∀ q row, live rows q = some row → live rows' q = some row) : Sl rows' d p := by
  rcases h with h | ⟨r, ex, rfl, h⟩
  · exact .inl h
  · exact .inr ⟨r, ex, rfl, f _ _ h⟩
theorem Made.upd {rows rows1 rows2 : Rows} {r m : Nat} {x y : List (BitVec 8)} (h : Made rows rows1 r m x) (U : Upd rows1 rows2 r m y) : Made rows rows2 r m y :=
  ⟨U.fl, fun q row hq => U.frame q row (h.frame q row hq) (by have := live_lt hq; have := h.hm; omega), h.hr, h.hm⟩
theorem Made.more {rows rows1 : Rows} {r m : Nat} {x : List (BitVec 8)} (h : Made rows rows1 r m x) (L : Rows) : Made rows (rows1 ++ L) r m x :=
  ⟨h.fl.push L, fun q row hq => live_app (h.frame q row hq) L, h.hr, h.hm⟩
structure JC (C : Ctx) : Prop where
  nW : C.fn 38 = none
  rW : C.fnr 38 = some (afun CF 3 r_flash_Flash_Write a_flash_Flash_Write)
  nN : C.fn 18 = none
  rN : C.fnr 18 = some (afun CF 1 r_flash_New a_flash_New)
  cut : C.fn 9 = some fCut
set_option maxHeartbeats 1000000 in
theorem lay_run (C : Ctx) (hC : JC C) {rows : Rows} {dp dq : D} {p q : List (BitVec 8)} (hp : Sl rows dp p) (hq : Sl rows dq q) (lp : p.length ≤ 9223372036854775807) (lq : q.length ≤ 9223372036854775807) {K : D → Rows → Prop}
    (hk : ∀ rows' r m x, x.length = 10240 → Made rows rows' r m x → K (.ptr SF r [0]) rows') : afun C 2 r_law22_lay a_law22_lay [dp, dq] rows K := by
  refine afun_mk rfl ?_
  unfold a_law22_lay r_law22_lay
  simp only [↓amD, amU, Nat.reduceBEq, Nat.reduceAdd, Nat.reduceSub, Nat.reduceMul, Nat.reduceMod, Nat.reducePow, Nat.reduceLT, Nat.reduceDiv, Int.reduceToNat, BitVec.reduceToNat, zipEnv, Int.reduceLE, Int.reduceLT, Int.reduceNeg, BitVec.reduceEq, Int.reduceAdd, Int.reduceSub, Int.reduceMul, Nat.reduceLeDiff, Int.reduceEq, hC.nN, hC.rN]
  refine newA 40 (by omega) fun R0 r m hM => ?_
  obtain ⟨x, hx⟩ : ∃ x, x = List.replicate (256 * 40) 255#8 := ⟨_, rfl⟩
  have hxl : x.length = 10240 := by rw [hx, List.length_replicate]
  rw [← hx] at hM
  have hp1 := hp.keep hM.frame
  simp only [↓amD, amU, Nat.reduceBEq, Nat.reduceAdd, Nat.reduceSub, Nat.reduceMul, Nat.reduceMod, Nat.reducePow, Nat.reduceLT, Nat.reduceDiv, Int.reduceToNat, BitVec.reduceToNat, zipEnv, Int.reduceLE, Int.reduceLT, Int.reduceNeg, BitVec.reduceEq, Int.reduceAdd, Int.reduceSub, Int.reduceMul, Nat.reduceLeDiff, Int.reduceEq, lv_app0, lv_appk, set_app0, set_appk, List.append_assoc, List.append_nil, Nat.add_assoc, hC.cut]
  refine Eq.mpr (kCutI _ _ _ p 256 hp1.to lp (by rw [List.length_take]; omega)) ?_
  have l1 : (p.take (256 : Int).toNat).length ≤ 256 := by rw [show (256 : Int).toNat = 256 from rfl, List.length_take]; omega
  generalize p.take (256 : Int).toNat = p1 at l1 ⊢
  simp only [↓amD, amU, Nat.reduceBEq, Nat.reduceAdd, Nat.reduceSub, Nat.reduceMul, Nat.reduceMod, Nat.reducePow, Nat.reduceLT, Nat.reduceDiv, Int.reduceToNat, BitVec.reduceToNat, zipEnv, Int.reduceLE, Int.reduceLT, Int.reduceNeg, BitVec.reduceEq, Int.reduceAdd, Int.reduceSub, Int.reduceMul, Nat.reduceLeDiff, Int.reduceEq, lv_app0, lv_appk, set_app0, set_appk, List.append_assoc, List.append_nil, Nat.add_assoc, hC.nW, hC.rW]
  refine writeA (p := p1) (hM.more _).fl (by rw [lv_app0]; rfl) (by omega) (by omega) 8192 fun R1 U1 => ?_
  have M1 := (hM.more _).upd U1
  have hx1 : (wrX x 8192 p1).length = 10240 := by rw [wrX_len, hxl]
  generalize wrX x 8192 p1 = x1 at M1 hx1
  have hq1 := hq.keep M1.frame
  simp only [↓amD, amU, Nat.reduceBEq, Nat.reduceAdd, Nat.reduceSub, Nat.reduceMul, Nat.reduceMod, Nat.reducePow, Nat.reduceLT, Nat.reduceDiv, Int.reduceToNat, BitVec.reduceToNat, zipEnv, Int.reduceLE, Int.reduceLT, Int.reduceNeg, BitVec.reduceEq, Int.reduceAdd, Int.reduceSub, Int.reduceMul, Nat.reduceLeDiff, Int.reduceEq, lv_app0, lv_appk, set_app0, set_appk, List.append_assoc, List.append_nil, Nat.add_assoc, hC.cut]
  refine Eq.mpr (kCutI _ _ _ q 256 hq1.to lq (by rw [List.length_take]; omega)) ?_
  have l2 : (q.take (256 : Int).toNat).length ≤ 256 := by rw [show (256 : Int).toNat = 256 from rfl, List.length_take]; omega
  generalize q.take (256 : Int).toNat = q1 at l2 ⊢
  simp only [↓amD, amU, Nat.reduceBEq, Nat.reduceAdd, Nat.reduceSub, Nat.reduceMul, Nat.reduceMod, Nat.reducePow, Nat.reduceLT, Nat.reduceDiv, Int.reduceToNat, BitVec.reduceToNat, zipEnv, Int.reduceLE, Int.reduceLT, Int.reduceNeg, BitVec.reduceEq, Int.reduceAdd, Int.reduceSub, Int.reduceMul, Nat.reduceLeDiff, Int.reduceEq, lv_app0, lv_appk, set_app0, set_appk, List.append_assoc, List.append_nil, Nat.add_assoc, hC.nW, hC.rW]
  refine writeA (p := q1) (M1.more _).fl (by rw [lv_app0]; rfl) (by omega) (by omega) 8448 fun R2 U2 => ?_
  have M2 := (M1.more _).upd U2
  have hx2 : (wrX x1 8448 q1).length = 10240 := by rw [wrX_len, hx1]
  simp only [↓amD, amU, Nat.reduceBEq, Nat.reduceAdd, Nat.reduceSub, Nat.reduceMul, Nat.reduceMod, Nat.reducePow, Nat.reduceLT, Nat.reduceDiv, Int.reduceToNat, BitVec.reduceToNat, zipEnv, Int.reduceLE, Int.reduceLT, Int.reduceNeg, BitVec.reduceEq, Int.reduceAdd, Int.reduceSub, Int.reduceMul, Nat.reduceLeDiff, Int.reduceEq, lv_app0, lv_appk, set_app0, set_appk, List.append_assoc, List.append_nil, Nat.add_assoc]
  exact hk _ _ _ _ hx2 M2
end Job
end Go.Am
