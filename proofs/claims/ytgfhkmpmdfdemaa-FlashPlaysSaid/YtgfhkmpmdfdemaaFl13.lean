/- the flash: the reference's acts -/
import Derived.Test.YtgfhkmpmdfdemaaFl12
namespace Go.Am
set_option linter.unusedSimpArgs false
set_option linter.unusedVariables false
attribute [local congr] bnd_congr kCond_congr kGd_congr kPick_congr kCall_congr kIdx_congr kSlice_congr kLoop_congr cond_congr' aBin_congr aBounds_congr aApp_congr aCopy_congr kFn_congr
namespace Job
open Go.Am.F
set_option maxRecDepth 10000
theorem kLay {rows : Rows} {d e : D} {x p : List (BitVec 8)} (h : BsIn rows d x) (h' : BsIn rows e p) (a : Int) (hx : x.length ≤ 1048576) (hp : p.length ≤ 1048576) (k : D → Rows → Prop) :
    kCall fLay rows k [d, .raw (it a), e] = k (shift rows.length (outL x a p).1) (rows ++ shiftRows rows.length (outL x a p).2) := by
  obtain ⟨⟨d', hd', hb⟩, hn⟩ := h
  obtain ⟨⟨e', he', hb'⟩, hn'⟩ := h'
  have hv : view rows 9 (.raw (it a)) = some (.raw (it a)) := rfl
  have hr : (noLst (outL x a p).1 && noLstRows (outL x a p).2) = true := by unfold outL; split <;> rfl
  have hF : ∀ d e, rdBs d = some x → rdBs e = some p → fLay [d, .raw (it a), e] [] = some (outL x a p) := fun d e h1 h2 => by
    simp only [fLay, fn3_ev, h1, h2, rdI_eq, Option.bind_some, hx, hp, decide_true, Bool.and_true, cond_true]
  unfold kCall
  simp only [mapO, hd', he', hv, bnd, hF _ _ hb.rd hb'.rd, hr, true_and]
  cases hh : hasRefL [d, .raw (it a), e] with
  | true => simp
  | false =>
    simp [hasRefL] at hh
    simp only [hF _ _ (hn hh.1).rd (hn' hh.2.2).rd]
    simp
noncomputable def CR : Ctx := ⟨G0, fnTab [(34, fLay), (33, fIn), (21, fRNew), (35, fJoin), (17, fCut)], fun _ => none⟩
theorem ctxR : CtxOK CR P :=
  have c0 := ctx_nil (G := G0) (P := P)
  have c1 := ctx_cons (cut_ok _ c0) c0
  have c2 := ctx_cons (join_ok _ c1) c1
  have c3 := ctx_cons (rnew_ok _ c2) c2
  have c4 := ctx_cons (in_ok _ c3) c3
  ctx_cons (lay_ok _ c4 rfl rfl) c4
theorem r_lay : CR.fn 34 = some fLay := rfl
theorem r_in : CR.fn 33 = some fIn := rfl
theorem r_new : CR.fn 21 = some fRNew := rfl
theorem r_join : CR.fn 35 = some fJoin := rfl
theorem r_cut : CR.fn 17 = some fCut := rfl
abbrev SA : Sh := .cons L8 (.cons LI (.cons LI (.cons .ref (.cons .ref .nil))))
def actD (t : BitVec 8) (i j : Int) (p q : D) : D := .agg SA [.raw (u8 t), .raw (it i), .raw (it j), p, q]
/-- an act that isn't too great -/
theorem few_run {rows : Rows} {t : BitVec 8} {i j : Int} {dp dq : D} {p q : List (BitVec 8)} (hp : IsBs dp p) (hq : IsBs dq q) (hpl : p.length ≤ 9223372036854775807) (hql : q.length ≤ 9223372036854775807) {K : D → Rows → Prop}
    (hk : ∀ rows' p1 p2, live rows' p1 = some ⟨L8, bs (p.take 300)⟩ → live rows' p2 = some ⟨L8, bs (q.take 300)⟩ → rows.length ≤ p1 → rows.length ≤ p2 → (∀ r x, live rows r = some x → live rows' r = some x) →
      K (actD t i j (.sl L8 p1 [] 0 (p.take 300).length false) (.sl L8 p2 [] 0 (q.take 300).length false)) rows') : afun CR 1 r_ref12_Few a_ref12_Few [actD t i j dp dq] rows K := by
  have h300 : Int.toNat 300 = 300 := rfl
  have k1 := fun R K => kCutI R K dp p 300 hp.to hpl (by simp; omega)
  have k2 := fun R K => kCutI R K dq q 300 hq.to hql (by simp; omega)
  simp only [h300] at k1 k2
  simp only [q_afun]
  unfold a_ref12_Few r_ref12_Few
  simp only [actD, ↓amD, amU, Nat.reduceBEq, Nat.reduceAdd, Nat.reduceSub, Nat.reduceMul, Nat.reduceMod, Nat.reducePow, Nat.reduceLT, Nat.reduceDiv, Int.reduceToNat, BitVec.reduceToNat, zipEnv, Int.reduceLE, Int.reduceLT, Int.reduceNeg, BitVec.reduceEq, Int.reduceAdd, Int.reduceSub, Int.reduceMul, Nat.reduceLeDiff, Int.reduceEq, lv_app0, lv_appk, set_app0, set_appk, List.append_assoc, List.append_nil, Nat.add_assoc, r_cut, k1, k2]
  refine hk _ (rows.length + 2) (rows.length + 3) ?_ ?_ (by omega) (by omega) (fun r x hx => live_push hx)
  · rw [lv_appk]; rfl
  · rw [lv_appk]; rfl
/-- what an act does: the error, the bytes, the answer -/
noncomputable def doE (t : BitVec 8) (i j : Int) (p q x : List (BitVec 8)) : Int :=
  if t % 6#8 = 0#8 then errW (some (x, false)) i j else if t % 6#8 = 1#8 then erE x i else if t % 6#8 = 2#8 then wrE x i p else if t % 6#8 = 3#8 then erE x i else if t % 6#8 = 4#8 then tuE x i else errA (some (x, false)) i j p
noncomputable def doX (t : BitVec 8) (i j : Int) (p q x : List (BitVec 8)) : List (BitVec 8) :=
  if t % 6#8 = 0#8 then x else if t % 6#8 = 1#8 then erX x i else if t % 6#8 = 2#8 then wrX x i p else if t % 6#8 = 3#8 then teX x i p q else if t % 6#8 = 4#8 then tuX x i (BitVec.ofInt 8 j) else x
noncomputable def doA (t : BitVec 8) (i j : Int) (p q x : List (BitVec 8)) : List (BitVec 8) :=
  if doE t i j p q x ≠ 0 then [] else if t % 6#8 = 0#8 then sub x i.toNat j.toNat else if t % 6#8 = 1#8 ∨ t % 6#8 = 2#8 ∨ t % 6#8 = 3#8 ∨ t % 6#8 = 4#8 then [] else datA (some (x, false)) i j p
/-- an answer -/
def AnsAt (rows : Rows) (d : D) (l : List (BitVec 8)) : Prop := (d = .raw (.slice none 0 0) ∧ l = []) ∨ ∃ q ex, d = .sl L8 q [] 0 l.length ex ∧ live rows q = some ⟨L8, bs l⟩
theorem erX_join (x : List (BitVec 8)) (i : Nat) (z : List (BitVec 8)) (h : 256 * i + 256 ≤ x.length) (hz : z.length = 256) : [x.take (256 * i), z, x.drop (256 * i + 256)].flatten = splice x (256 * i) z := by
  simp [splice, hz]
theorem teX_join (x p q : List (BitVec 8)) (i : Nat) (h : 256 * i + 256 ≤ x.length) : splice x (256 * i) (teN (sub x (256 * i) 256) 0 p q (teM p q)) = teX x (i : Int) p q := by
  have hM : teM p q ≤ 256 := by unfold teM; omega
  have h0 : erE x (i : Int) = 0 := by simp only [erE, errP]; rw [if_neg (by omega)]
  have hX : teX x (i : Int) p q = teN x i p q (teM p q) := by
    unfold teX; rw [if_pos h0, Int.toNat_natCast]
  have hsl := sub_len h
  have htl := teN_len (sub x (256 * i) 256) 0 p q (teM p q)
  have htl2 := teN_len x i p q (teM p q)
  rw [hX]
  refine List.ext_getElem (by rw [splice_len _ _ _ (by omega)]; omega) fun n h1 h2 => ?_
  have hg : (splice x (256 * i) (teN (sub x (256 * i) 256) 0 p q (teM p q))).getD n 0#8 = (teN x i p q (teM p q)).getD n 0#8 := by
    rw [splice_get _ _ _ _ (by omega), teN_get _ _ _ _ _ _ (by omega), htl, hsl]
    by_cases hn : 256 * i ≤ n ∧ n < 256 * i + 256
    · rw [if_pos hn, teN_get _ _ _ _ _ _ (by omega), sub_get _ _ _ _ (by omega), show 256 * i + (n - 256 * i) = n by omega, show n - 256 * i - 256 * 0 = n - 256 * i by omega]
      by_cases h3 : n < 256 * i + teM p q
      · rw [if_pos (by omega), if_pos (by omega)]
      · rw [if_neg (by omega), if_neg (by omega)]
    · rw [if_neg hn, teN_get _ _ _ _ _ _ (by omega), if_neg (by omega)]
  simpa [List.getD, h1, h2] using hg
theorem six (t : BitVec 8) : t % 6#8 = 0#8 ∨ t % 6#8 = 1#8 ∨ t % 6#8 = 2#8 ∨ t % 6#8 = 3#8 ∨ t % 6#8 = 4#8 ∨ t % 6#8 = 5#8 := by
  revert t; decide +kernel
end Job
end Go.Am
