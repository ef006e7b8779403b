/- the flash: an act on both; the law of the scripts -/
import Derived.Test.YtgfhkmpmdfdemaaFl15
namespace Go.Am
set_option linter.unusedSimpArgs false
set_option linter.unusedVariables false
attribute [local congr] bnd_congr kCond_congr kGd_congr kPick_congr kCall_congr kIdx_congr kSlice_congr kLoop_congr cond_congr' aBin_congr aBounds_congr aApp_congr aCopy_congr kFn_congr
namespace Job
open Go.Am.F
set_option maxRecDepth 10000
theorem dor {rows : Rows} {t : BitVec 8} {i j : Int} {p1 p2 qx : Nat} {p q x : List (BitVec 8)} {ex e1 e2 : Bool} (hx : live rows qx = some ⟨L8, bs x⟩) (hp : live rows p1 = some ⟨L8, bs p⟩) (hq : live rows p2 = some ⟨L8, bs q⟩) (hxl : x.length ≤ 768) (hpl : p.length ≤ 300) (hql : q.length ≤ 300) {K : D → Rows → Prop}
    (hk : DoK rows t i j p q x qx K) : afun CR 2 r_ref12_Do a_ref12_Do [.sl L8 qx [] 0 x.length ex, actD t i j (.sl L8 p1 [] 0 p.length e1) (.sl L8 p2 [] 0 q.length e2)] rows K := by
  rcases six t with h | h | h | h | h | h
  · exact do0 h hx hp hq hxl hpl hql hk
  · exact do1 h hx hp hq hxl hpl hql hk
  · exact do2 h hx hp hq hxl hpl hql hk
  · exact do3 h hx hp hq hxl hpl hql hk
  · exact do4 h hx hp hq hxl hpl hql hk
  · exact do5 h hx hp hq hxl hpl hql hk
noncomputable def RD : FuncId → Option AFun := afTab [(30, afun CR 2 r_ref12_Do a_ref12_Do), (10, afun CF 3 r_flash_Flash_Turn a_flash_Flash_Turn), (13, afun CF 2 r_flash_Flash_Erase a_flash_Flash_Erase), (14, afun CF 3 r_flash_Flash_Write a_flash_Flash_Write), (20, afun CF 4 r_flash_Flash_Tear a_flash_Flash_Tear)]
noncomputable def CD : Ctx := ⟨G0, fnTab [(18, fSame), (19, fAfter), (15, fRead), (28, fPageE), (26, fWithin), (29, fClears), (27, fClone), (25, fRepeat), (31, fMul64), (37, fMul64)], RD⟩
theorem ctxD : CtxOK CD P :=
  have z := ctx_nilr (G := G0) (P := P)
  have z1 := ctx_consr (m_flash_Flash_Tear CF ctxF) z
  have z2 := ctx_consr (m_flash_Flash_Write CF ctxF) z1
  have z3 := ctx_consr (m_flash_Flash_Erase CF ctxF) z2
  have z4 := ctx_consr (m_flash_Flash_Turn CF ctxF) z3
  have c0 := ctx_consr (m_ref12_Do CR ctxR) z4
  have c1 := ctx_cons (mul64_ok _ c0) c0
  have c2 := ctx_cons (bmul_ok _ c1 rfl) c1
  have c3 := ctx_cons (repeat_ok _ c2 rfl) c2
  have c4 := ctx_cons (clone_ok _ c3) c3
  have c5 := ctx_cons (clears_ok _ c4) c4
  have c6 := ctx_cons (within_ok _ c5) c5
  have c7 := ctx_cons (page_ok _ c6) c6
  have c8 := ctx_cons (read_ok _ c7 rfl rfl) c7
  have c9 := ctx_cons (after_ok _ c8 rfl rfl rfl rfl) c8
  ctx_cons (same_ok _ c9) c9
theorem d_same : CD.fn 18 = some fSame := rfl
theorem d_after : CD.fn 19 = some fAfter := rfl
theorem d_read : CD.fn 15 = some fRead := rfl
theorem d_n1 : CD.fn 30 = none := rfl
theorem d_n2 : CD.fn 10 = none := rfl
theorem d_n3 : CD.fn 13 = none := rfl
theorem d_n4 : CD.fn 14 = none := rfl
theorem d_n5 : CD.fn 20 = none := rfl
theorem d_r1 : CD.fnr 30 = some (afun CR 2 r_ref12_Do a_ref12_Do) := rfl
theorem d_r2 : CD.fnr 10 = some (afun CF 3 r_flash_Flash_Turn a_flash_Flash_Turn) := rfl
theorem d_r3 : CD.fnr 13 = some (afun CF 2 r_flash_Flash_Erase a_flash_Flash_Erase) := rfl
theorem d_r4 : CD.fnr 14 = some (afun CF 3 r_flash_Flash_Write a_flash_Flash_Write) := rfl
theorem d_r5 : CD.fnr 20 = some (afun CF 4 r_flash_Flash_Tear a_flash_Flash_Tear) := rfl
theorem AnsAt.inn {rows : Rows} {d : D} {l : List (BitVec 8)} (h : AnsAt rows d l) : BsIn rows d l := by
  rcases h with ⟨rfl, rfl⟩ | ⟨q, ex, rfl, hl⟩
  · exact IsBs.to (.inl ⟨rfl, rfl⟩)
  · exact BsIn.own hl _ rfl
theorem AnsAt.push {rows : Rows} {d : D} {l : List (BitVec 8)} (h : AnsAt rows d l) (more : Rows) : AnsAt (rows ++ more) d l := by
  rcases h with h | ⟨q, ex, rfl, hl⟩
  · exact .inl h
  · exact .inr ⟨q, ex, rfl, live_push hl⟩
theorem AnsAt.upd {rows rows' : Rows} {d : D} {l y : List (BitVec 8)} {r m : Nat} (h : AnsAt rows d l) (U : Upd rows rows' r m y) (hl : l = []) : BsIn rows' d l := by
  subst hl
  rcases h with ⟨rfl, h⟩ | ⟨q, ex, rfl, hl⟩
  · exact IsBs.to (.inl ⟨rfl, rfl⟩)
  · refine ⟨⟨.lst L8 [] ex, ?_, .inr ⟨ex, rfl⟩⟩, fun h => by simp [hasRef] at h⟩
    by_cases hq : q = m
    · subst hq
      have h2 := U.fl.dat
      simp [view, elems, h2, Sh.pure]
    · have h2 := U.frame _ _ hl hq
      simp [view, elems, h2, Sh.pure]
theorem doX_len (t : BitVec 8) (i j : Int) (p q x : List (BitVec 8)) : (doX t i j p q x).length = x.length := by
  unfold doX
  split
  · rfl
  split
  · exact erX_len _ _
  split
  · exact wrX_len _ _ _
  split
  · exact teX_len _ _ _ _
  split
  · exact tuX_len _ _ _
  · rfl
theorem doA_nil {t : BitVec 8} {i j : Int} {p q x : List (BitVec 8)} (h : t % 6#8 = 1#8 ∨ t % 6#8 = 2#8 ∨ t % 6#8 = 3#8 ∨ t % 6#8 = 4#8) : doA t i j p q x = [] := by
  have hn : ¬ t % 6#8 = 0#8 := by
    intro h2
    rw [h2] at h
    exact absurd h (by decide)
  rw [doA]
  by_cases h0 : doE t i j p q x ≠ 0
  · rw [if_pos h0]
  · rw [if_neg h0, if_neg hn, if_pos h]
/-- an act on both -/
theorem act_run {rows : Rows} {r m qx p1 p2 : Nat} {t : BitVec 8} {i j : Int} {p q x : List (BitVec 8)} {ex e1 e2 : Bool} (hF : FlAt rows r m x) (hx : live rows qx = some ⟨L8, bs x⟩) (nx : qx ≠ m) (hp : live rows p1 = some ⟨L8, bs p⟩) (hq : live rows p2 = some ⟨L8, bs q⟩) (np : m ≠ p1) (nq : m ≠ p2) (hxl : x.length ≤ 768) (hpl : p.length ≤ 300) (hql : q.length ≤ 300) {K : D → Rows → Prop}
    (hk : ∀ rows' q' ex', FlAt rows' r m (doX t i j p q x) → live rows' q' = some ⟨L8, bs (doX t i j p q x)⟩ → q' ≠ m → K (.tup [.sl L8 q' [] 0 x.length ex', .raw (.bool true)]) rows') :
    afun CD 3 r_law12_do a_law12_do [.ptr SF r [0], .sl L8 qx [] 0 x.length ex, actD t i j (.sl L8 p1 [] 0 p.length e1) (.sl L8 p2 [] 0 q.length e2)] rows K := by
  simp only [q_afun]
  unfold a_law12_do r_law12_do
  have hfit : (actD t i j (.sl L8 p1 [] 0 p.length e1) (.sl L8 p2 [] 0 q.length e2)).fits SA = true := by simp [actD, D.fits]
  simp only [↓amD, amU, Nat.reduceBEq, Nat.reduceAdd, Nat.reduceSub, Nat.reduceMul, Nat.reduceMod, Nat.reducePow, Nat.reduceLT, Nat.reduceDiv, Int.reduceToNat, BitVec.reduceToNat, zipEnv, Int.reduceLE, Int.reduceLT, Int.reduceNeg, BitVec.reduceEq, Int.reduceAdd, Int.reduceSub, Int.reduceMul, Nat.reduceLeDiff, Int.reduceEq, hfit, d_n1, d_r1]
  refine dor (live_push hx) (live_push hp) (live_push hq) hxl hpl hql ?_
  intro R q' ex' d hl hqq hA hfr
  have ltf := hF.lt
  have hF2 : FlAt R r m x := by
    obtain ⟨⟨e, h1⟩, h2⟩ := hF
    exact ⟨⟨e, hfr _ _ (live_push h1)⟩, hfr _ _ (live_push h2)⟩
  have hp2 := hfr _ _ (live_push (more := [some ⟨SA, [actD t i j (.sl L8 p1 [] 0 p.length e1) (.sl L8 p2 [] 0 q.length e2)]⟩]) hp)
  have hq2 := hfr _ _ (live_push (more := [some ⟨SA, [actD t i j (.sl L8 p1 [] 0 p.length e1) (.sl L8 p2 [] 0 q.length e2)]⟩]) hq)
  have hs2 : live R rows.length = some ⟨SA, [.agg SA [.raw (u8 t), .raw (it i), .raw (it j), .sl L8 p1 [] 0 p.length e1, .sl L8 p2 [] 0 q.length e2]]⟩ := hfr _ _ (by rw [lv_app0]; rfl)
  have nq' : q' ≠ m := by
    rcases hqq with h | h
    · rw [h]; exact nx
    · simp at h; omega
  have hbl := live_lt hl
  have ksm := fun (R' : Rows) k (d e : D) (l : List (BitVec 8)) (h : BsIn R' d l) (h' : BsIn R' e l) (hn : l.length ≤ 1099511627776) => kSame R' k d e l l h h' hn hn
  have nilIn : ∀ R' : Rows, BsIn R' (.raw (.slice none 0 0)) [] := fun R' => IsBs.to (.inl ⟨rfl, rfl⟩)
  rcases six t with ht | ht | ht | ht | ht | ht
  · have hE : doE t i j p q x = errW (some (x, false)) i j := by rw [doE, if_pos ht]
    have hX : doX t i j p q x = x := by rw [doX, if_pos ht]
    obtain ⟨e, hin⟩ := hF2.to
    have kr := fun K => kRead hin (show x.length ≤ 1048576 by omega) i j K
    have hee : errW (some (x, e)) i j = errW (some (x, false)) i j := rfl
    rw [hX] at hk hl
    by_cases h0 : errW (some (x, false)) i j = 0
    · obtain ⟨b1, b2, b3, b4⟩ := errW_0 h0
      have hAe : doA t i j p q x = sub x i.toNat j.toNat := by rw [doA, if_neg (by rw [hE, h0]; simp), if_pos ht]
      rw [hAe] at hA
      have hsl : (sub x i.toNat j.toNat).length = j.toNat := sub_len (by omega)
      rw [outR, if_pos (hee.trans h0)] at kr
      simp only [shift, shiftL, shiftRows, Sh.pure, cond_true, Nat.zero_add, flDat] at kr
      have ks := fun K => ksm (R ++ [some ⟨L8, bs (sub x i.toNat j.toNat)⟩]) K (.sl L8 R.length [] 0 j.toNat false) d (sub x i.toNat j.toNat) (BsIn.own (by rw [lv_app0]; rfl) _ hsl.symm) (hA.push _).inn (by omega)
      simp only [hE, h0, ↓amD, amU, Nat.reduceBEq, Nat.reduceAdd, Nat.reduceSub, Nat.reduceMul, Nat.reduceMod, Nat.reducePow, Nat.reduceLT, Nat.reduceDiv, Int.reduceToNat, BitVec.reduceToNat, zipEnv, Int.reduceLE, Int.reduceLT, Int.reduceNeg, BitVec.reduceEq, Int.reduceAdd, Int.reduceSub, Int.reduceMul, Nat.reduceLeDiff, Int.reduceEq, lv_app0, lv_appk, set_app0, set_appk, List.append_assoc, List.append_nil, Nat.add_assoc, hs2, ht, d_read, kr, d_same, ks, decide_true]
      exact hk _ q' ex' (hF2.push _) (live_push hl) nq'
    · have hAe : doA t i j p q x = [] := by rw [doA, if_pos (by rw [hE]; exact h0)]
      rw [hAe] at hA
      rw [outR, if_neg (by rw [hee]; exact h0), hee] at kr
      simp only [shift, shiftL, shiftRows, List.append_nil] at kr
      have ks := fun K => ksm R K (.raw (.slice none 0 0)) d [] (nilIn R) hA.inn (by simp)
      simp only [hE, ↓amD, amU, Nat.reduceBEq, Nat.reduceAdd, Nat.reduceSub, Nat.reduceMul, Nat.reduceMod, Nat.reducePow, Nat.reduceLT, Nat.reduceDiv, Int.reduceToNat, BitVec.reduceToNat, zipEnv, Int.reduceLE, Int.reduceLT, Int.reduceNeg, BitVec.reduceEq, Int.reduceAdd, Int.reduceSub, Int.reduceMul, Nat.reduceLeDiff, Int.reduceEq, lv_app0, lv_appk, set_app0, set_appk, List.append_assoc, List.append_nil, Nat.add_assoc, hs2, ht, d_read, kr, d_same, ks, decide_true]
      exact hk _ q' ex' hF2 hl nq'
  · have hE : doE t i j p q x = erE x i := by rw [doE, if_neg (by rw [ht]; decide), if_pos ht]
    have hX : doX t i j p q x = erX x i := by rw [doX, if_neg (by rw [ht]; decide), if_pos ht]
    have hAe : doA t i j p q x = [] := doA_nil (.inl ht)
    rw [hX] at hk hl
    rw [hAe] at hA
    simp only [hE, ↓amD, amU, Nat.reduceBEq, Nat.reduceAdd, Nat.reduceSub, Nat.reduceMul, Nat.reduceMod, Nat.reducePow, Nat.reduceLT, Nat.reduceDiv, Int.reduceToNat, BitVec.reduceToNat, zipEnv, Int.reduceLE, Int.reduceLT, Int.reduceNeg, BitVec.reduceEq, Int.reduceAdd, Int.reduceSub, Int.reduceMul, Nat.reduceLeDiff, Int.reduceEq, lv_app0, lv_appk, set_app0, set_appk, List.append_assoc, List.append_nil, Nat.add_assoc, hs2, ht, d_n3, d_r3]
    refine eraseA hF2 (by omega) i fun R' U => ?_
    have ks := fun K => ksm R' K (.raw (.slice none 0 0)) d [] (nilIn R') (hA.upd U rfl) (by simp)
    simp only [↓amD, amU, Nat.reduceBEq, Nat.reduceAdd, Nat.reduceSub, Nat.reduceMul, Nat.reduceMod, Nat.reducePow, Nat.reduceLT, Nat.reduceDiv, Int.reduceToNat, BitVec.reduceToNat, zipEnv, Int.reduceLE, Int.reduceLT, Int.reduceNeg, BitVec.reduceEq, Int.reduceAdd, Int.reduceSub, Int.reduceMul, Nat.reduceLeDiff, Int.reduceEq, lv_app0, lv_appk, set_app0, set_appk, List.append_assoc, List.append_nil, Nat.add_assoc, d_same, ks, decide_true]
    exact hk _ q' ex' U.fl (U.frame _ _ hl nq') nq'
  · have hE : doE t i j p q x = wrE x i p := by rw [doE, if_neg (by rw [ht]; decide), if_neg (by rw [ht]; decide), if_pos ht]
    have hX : doX t i j p q x = wrX x i p := by rw [doX, if_neg (by rw [ht]; decide), if_neg (by rw [ht]; decide), if_pos ht]
    have hAe : doA t i j p q x = [] := doA_nil (.inr (.inl ht))
    rw [hX] at hk hl
    rw [hAe] at hA
    simp only [hE, ↓amD, amU, Nat.reduceBEq, Nat.reduceAdd, Nat.reduceSub, Nat.reduceMul, Nat.reduceMod, Nat.reducePow, Nat.reduceLT, Nat.reduceDiv, Int.reduceToNat, BitVec.reduceToNat, zipEnv, Int.reduceLE, Int.reduceLT, Int.reduceNeg, BitVec.reduceEq, Int.reduceAdd, Int.reduceSub, Int.reduceMul, Nat.reduceLeDiff, Int.reduceEq, lv_app0, lv_appk, set_app0, set_appk, List.append_assoc, List.append_nil, Nat.add_assoc, hs2, ht, d_n4, d_r4]
    refine writeA hF2 hp2 (by omega) (by omega) i fun R' U => ?_
    have ks := fun K => ksm R' K (.raw (.slice none 0 0)) d [] (nilIn R') (hA.upd U rfl) (by simp)
    simp only [↓amD, amU, Nat.reduceBEq, Nat.reduceAdd, Nat.reduceSub, Nat.reduceMul, Nat.reduceMod, Nat.reducePow, Nat.reduceLT, Nat.reduceDiv, Int.reduceToNat, BitVec.reduceToNat, zipEnv, Int.reduceLE, Int.reduceLT, Int.reduceNeg, BitVec.reduceEq, Int.reduceAdd, Int.reduceSub, Int.reduceMul, Nat.reduceLeDiff, Int.reduceEq, lv_app0, lv_appk, set_app0, set_appk, List.append_assoc, List.append_nil, Nat.add_assoc, d_same, ks, decide_true]
    exact hk _ q' ex' U.fl (U.frame _ _ hl nq') nq'
  · have hE : doE t i j p q x = erE x i := by rw [doE, if_neg (by rw [ht]; decide), if_neg (by rw [ht]; decide), if_neg (by rw [ht]; decide), if_pos ht]
    have hX : doX t i j p q x = teX x i p q := by rw [doX, if_neg (by rw [ht]; decide), if_neg (by rw [ht]; decide), if_neg (by rw [ht]; decide), if_pos ht]
    have hAe : doA t i j p q x = [] := doA_nil (.inr (.inr (.inl ht)))
    rw [hX] at hk hl
    rw [hAe] at hA
    simp only [hE, ↓amD, amU, Nat.reduceBEq, Nat.reduceAdd, Nat.reduceSub, Nat.reduceMul, Nat.reduceMod, Nat.reducePow, Nat.reduceLT, Nat.reduceDiv, Int.reduceToNat, BitVec.reduceToNat, zipEnv, Int.reduceLE, Int.reduceLT, Int.reduceNeg, BitVec.reduceEq, Int.reduceAdd, Int.reduceSub, Int.reduceMul, Nat.reduceLeDiff, Int.reduceEq, lv_app0, lv_appk, set_app0, set_appk, List.append_assoc, List.append_nil, Nat.add_assoc, hs2, ht, d_n5, d_r5]
    refine tearA hF2 (by omega) hp2 hq2 np nq (by omega) (by omega) i fun R' U => ?_
    have ks := fun K => ksm R' K (.raw (.slice none 0 0)) d [] (nilIn R') (hA.upd U rfl) (by simp)
    simp only [↓amD, amU, Nat.reduceBEq, Nat.reduceAdd, Nat.reduceSub, Nat.reduceMul, Nat.reduceMod, Nat.reducePow, Nat.reduceLT, Nat.reduceDiv, Int.reduceToNat, BitVec.reduceToNat, zipEnv, Int.reduceLE, Int.reduceLT, Int.reduceNeg, BitVec.reduceEq, Int.reduceAdd, Int.reduceSub, Int.reduceMul, Nat.reduceLeDiff, Int.reduceEq, lv_app0, lv_appk, set_app0, set_appk, List.append_assoc, List.append_nil, Nat.add_assoc, d_same, ks, decide_true]
    exact hk _ q' ex' U.fl (U.frame _ _ hl nq') nq'
  · have hE : doE t i j p q x = tuE x i := by rw [doE, if_neg (by rw [ht]; decide), if_neg (by rw [ht]; decide), if_neg (by rw [ht]; decide), if_neg (by rw [ht]; decide), if_pos ht]
    have hX : doX t i j p q x = tuX x i (BitVec.ofInt 8 j) := by rw [doX, if_neg (by rw [ht]; decide), if_neg (by rw [ht]; decide), if_neg (by rw [ht]; decide), if_neg (by rw [ht]; decide), if_pos ht]
    have hAe : doA t i j p q x = [] := doA_nil (.inr (.inr (.inr ht)))
    rw [hX] at hk hl
    rw [hAe] at hA
    simp only [hE, ↓amD, amU, Nat.reduceBEq, Nat.reduceAdd, Nat.reduceSub, Nat.reduceMul, Nat.reduceMod, Nat.reducePow, Nat.reduceLT, Nat.reduceDiv, Int.reduceToNat, BitVec.reduceToNat, zipEnv, Int.reduceLE, Int.reduceLT, Int.reduceNeg, BitVec.reduceEq, Int.reduceAdd, Int.reduceSub, Int.reduceMul, Nat.reduceLeDiff, Int.reduceEq, lv_app0, lv_appk, set_app0, set_appk, List.append_assoc, List.append_nil, Nat.add_assoc, hs2, ht, d_n2, d_r2]
    refine turnA hF2 (by omega) i (BitVec.ofInt 8 j) fun R' U => ?_
    have ks := fun K => ksm R' K (.raw (.slice none 0 0)) d [] (nilIn R') (hA.upd U rfl) (by simp)
    simp only [↓amD, amU, Nat.reduceBEq, Nat.reduceAdd, Nat.reduceSub, Nat.reduceMul, Nat.reduceMod, Nat.reducePow, Nat.reduceLT, Nat.reduceDiv, Int.reduceToNat, BitVec.reduceToNat, zipEnv, Int.reduceLE, Int.reduceLT, Int.reduceNeg, BitVec.reduceEq, Int.reduceAdd, Int.reduceSub, Int.reduceMul, Nat.reduceLeDiff, Int.reduceEq, lv_app0, lv_appk, set_app0, set_appk, List.append_assoc, List.append_nil, Nat.add_assoc, d_same, ks, decide_true]
    exact hk _ q' ex' U.fl (U.frame _ _ hl nq') nq'
  · have hE : doE t i j p q x = errA (some (x, false)) i j p := by rw [doE, if_neg (by rw [ht]; decide), if_neg (by rw [ht]; decide), if_neg (by rw [ht]; decide), if_neg (by rw [ht]; decide), if_neg (by rw [ht]; decide)]
    have hX : doX t i j p q x = x := by rw [doX, if_neg (by rw [ht]; decide), if_neg (by rw [ht]; decide), if_neg (by rw [ht]; decide), if_neg (by rw [ht]; decide), if_neg (by rw [ht]; decide)]
    obtain ⟨e, hv⟩ := hF2.view
    have ka := fun K => kAfter (ex := e1) hv (show x.length ≤ 1048576 by omega) i j hp2 (by omega) K
    have hee : errA (some (x, e)) i j p = errA (some (x, false)) i j p := rfl
    have hde : datA (some (x, e)) i j p = datA (some (x, false)) i j p := rfl
    rw [hX] at hk hl
    by_cases h0 : errA (some (x, false)) i j p = 0
    · have hAe : doA t i j p q x = datA (some (x, false)) i j p := by rw [doA, if_neg (by rw [hE, h0]; simp), if_neg (by rw [ht]; decide), if_neg (by rw [ht]; decide)]
      rw [hAe] at hA
      have hsl : (datA (some (x, false)) i j p).length = 256 := by
        have hP : errP (some (x, false)) i = 0 := by
          by_cases hh : errP (some (x, false)) i = 0
          · exact hh
          · rw [errA, if_pos hh] at h0; exact absurd h0 hh
        obtain ⟨b1, b2⟩ := errP_0 hP
        by_cases hpn : p = []
        · rw [datA, if_pos hpn, List.length_replicate]
        · rw [errA, if_neg (by rw [hP]; simp), if_neg hpn] at h0
          have hss : (sub (flDat (some (x, false))) (256 * i.toNat) 256).length = 256 := sub_len (by simp only [flDat]; omega)
          by_cases hc : j < 0 ∨ 256 < j ∨ 256 - j < (p.length : Int)
          · rw [if_pos hc] at h0; cases h0
          · rw [datA, if_neg hpn, splice_len _ _ _ (by rw [hss]; omega), hss]
      rw [outA, if_pos (hee.trans h0), hde] at ka
      simp only [shift, shiftL, shiftRows, Sh.pure, cond_true, Nat.zero_add] at ka
      have ks := fun K => ksm (R ++ [some ⟨L8, bs (datA (some (x, false)) i j p)⟩]) K (.sl L8 R.length [] 0 256 false) d (datA (some (x, false)) i j p) (BsIn.own (by rw [lv_app0]; rfl) _ hsl.symm) (hA.push _).inn (by omega)
      simp only [hE, h0, ↓amD, amU, Nat.reduceBEq, Nat.reduceAdd, Nat.reduceSub, Nat.reduceMul, Nat.reduceMod, Nat.reducePow, Nat.reduceLT, Nat.reduceDiv, Int.reduceToNat, BitVec.reduceToNat, zipEnv, Int.reduceLE, Int.reduceLT, Int.reduceNeg, BitVec.reduceEq, Int.reduceAdd, Int.reduceSub, Int.reduceMul, Nat.reduceLeDiff, Int.reduceEq, lv_app0, lv_appk, set_app0, set_appk, List.append_assoc, List.append_nil, Nat.add_assoc, hs2, ht, d_after, ka, d_same, ks, decide_true]
      exact hk _ q' ex' (hF2.push _) (live_push hl) nq'
    · have hAe : doA t i j p q x = [] := by rw [doA, if_pos (by rw [hE]; exact h0)]
      rw [hAe] at hA
      rw [outA, if_neg (by rw [hee]; exact h0), hee] at ka
      simp only [shift, shiftL, shiftRows, List.append_nil] at ka
      have ks := fun K => ksm R K (.raw (.slice none 0 0)) d [] (nilIn R) hA.inn (by simp)
      simp only [hE, ↓amD, amU, Nat.reduceBEq, Nat.reduceAdd, Nat.reduceSub, Nat.reduceMul, Nat.reduceMod, Nat.reducePow, Nat.reduceLT, Nat.reduceDiv, Int.reduceToNat, BitVec.reduceToNat, zipEnv, Int.reduceLE, Int.reduceLT, Int.reduceNeg, BitVec.reduceEq, Int.reduceAdd, Int.reduceSub, Int.reduceMul, Nat.reduceLeDiff, Int.reduceEq, lv_app0, lv_appk, set_app0, set_appk, List.append_assoc, List.append_nil, Nat.add_assoc, hs2, ht, d_after, ka, d_same, ks, decide_true]
      exact hk _ q' ex' hF2 hl nq'
end Job
end Go.Am
