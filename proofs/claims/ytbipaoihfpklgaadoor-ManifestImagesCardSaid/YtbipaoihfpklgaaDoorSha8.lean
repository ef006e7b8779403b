/- SHA-256: sums, as the program makes them; what a sum is -/
import Derived.Test.YtbipaoihfpklgaaDoorSha7
namespace Go.Am
set_option linter.unusedSimpArgs false
set_option linter.unusedVariables false
attribute [local congr] bnd_congr kCond_congr kGd_congr kPick_congr kCall_congr kIdx_congr kSlice_congr kLoop_congr cond_congr' aBin_congr aBounds_congr aApp_congr aCopy_congr kFn_congr
namespace Job
open Go.Am.F
set_option maxRecDepth 10000
def st0 : St := ⟨firstL, zero64, 0#64⟩
def sumSt (s : St) : List (BitVec 8) := digS (feed s (padS s.n)).h
def sumS (p : List (BitVec 8)) : List (BitVec 8) := sumSt (feed st0 p)
theorem st0_ok : st0.ok = true := rfl
def fNew : Fn
  | [], [] => some (stD st0, [])
  | _, _ => none
theorem new_ok (C : Ctx) (hC : CtxOK C P) (hg : C.glob 0 = some (h8D firstL)) : Meets C.glob P 32 (Fn.run fNew) := by
  refine fn_meets (m_sha_New C hC) fun ds rows r h => ?_
  unfold fNew at h
  split at h
  · cases h
    refine ⟨rfl, afun_mk rfl ?_⟩
    unfold a_sha_New r_sha_New
    simp only [↓amD, amU, Nat.reduceBEq, Nat.reduceAdd, Nat.reduceSub, Nat.reduceMul, Nat.reduceMod, Nat.reducePow, Nat.reduceLT, Nat.reduceDiv, Int.reduceToNat, BitVec.reduceToNat, zipEnv, Int.reduceLE, Int.reduceLT, Int.reduceNeg, BitVec.reduceEq, Int.reduceAdd, Int.reduceSub, Int.reduceMul, Nat.reduceLeDiff, Int.reduceEq, hg, h8D]
    exact .val _ rfl
  · cases h
theorem kNew (rows : Rows) (k : D → Rows → Prop) : kCall fNew rows k [] = k (stD st0) rows := by
  refine (kCall_val rfl (r := (stD st0, [])) rfl).trans ?_
  simp [shift, shiftRows, stD, Sh.pure]
theorem st_ok {s : St} (h : s.ok = true) : s.h.length = 8 ∧ s.rest.length = 64 := by
  simpa [St.ok] using h
theorem kFeed (rows : Rows) (k : D → Rows → Prop) (s : St) (d : D) (p : List (BitVec 8)) (h : BsIn rows d p) (hs : s.ok = true) : kCall fFeed rows k [stD s, d] = k (stD (feed s p)) rows := by
  obtain ⟨⟨d', hd', hb⟩, hn⟩ := h
  have e1 : ∀ d2, rdBs d2 = some p → fFeed [stD s, d2] [] = some (stD (feed s p), []) := fun d2 h2 => fn2_eq (rdOf_eq stD_inj s) h2 hs
  have hr : hasRef (stD s) = false := by simp [stD, hasRef, Sh.pure]
  have hv : view rows 9 (stD s) = some (stD s) := by simp [stD, view, Sh.pure]
  unfold kCall
  have h1 : hasRefL [stD s, d] = hasRef d := by simp [hasRefL, hr]
  rw [h1]
  have hsh : shift rows.length (stD (feed s p)) = stD (feed s p) := by simp [stD, shift, Sh.pure]
  have hno : noLst (stD (feed s p)) = true := by simp [stD, noLst, Sh.pure]
  cases hh : hasRef d with
  | true =>
    simp only [forall_const, mapO, hv, hd', bnd, e1 _ hb.rd, hno, noLstRows, Bool.and_self, true_and, hsh, shiftRows, List.append_nil]
    simp
  | false =>
    simp only [forall_const, bnd, e1 _ (hn hh).rd, hsh, shiftRows, List.append_nil]
    simp
noncomputable def fStSum : Fn := fn1 (rdOf stD) (fun s => s.ok) fun s => (d32D (sumSt s), [])
theorem stsum_ok (C : Ctx) (hC : CtxOK C P) (h1 : C.fn 40 = some fPad) (h2 : C.fn 33 = some fFeed) (h3 : C.fn 39 = some fDigest) : Meets C.glob P 34 (Fn.run fStSum) := by
  refine fn_meets (m_sha_State_Sum C hC) fun ds rows r h => ?_
  obtain ⟨d, s, rfl, rfl, hd, hok, rfl⟩ := fn1_some h
  cases rdOf_some hd
  refine ⟨rfl, afun_mk rfl ?_⟩
  clear h hd
  have hok' := feed_ok (padS s.n) s hok
  have e := st_ok hok'
  unfold a_sha_State_Sum r_sha_State_Sum
  have hst : stD s = .agg S2 [.agg (.ar 8 L32) (us s.h), .agg (.ar 64 L8) (bs s.rest), .raw (u64 s.n)] := rfl
  rw [hst]
  simp only [↓amD, amU, Nat.reduceBEq, Nat.reduceAdd, Nat.reduceSub, Nat.reduceMul, Nat.reduceMod, Nat.reducePow, Nat.reduceLT, Nat.reduceDiv, Int.reduceToNat, BitVec.reduceToNat, zipEnv, Int.reduceLE, Int.reduceLT, Int.reduceNeg, BitVec.reduceEq, Int.reduceAdd, Int.reduceSub, Int.reduceMul, Nat.reduceLeDiff, Int.reduceEq, h1, h2, h3, kPad]
  rw [← hst]
  refine Eq.mpr (kFeed _ _ _ _ (padS s.n) (BsIn.own rfl _ rfl) hok) ?_
  simp only [stD, ↓amD, amU, Nat.reduceBEq, Nat.reduceAdd, Nat.reduceSub, Nat.reduceMul, Nat.reduceMod, Nat.reducePow, Nat.reduceLT, Nat.reduceDiv, Int.reduceToNat, BitVec.reduceToNat, zipEnv, Int.reduceLE, Int.reduceLT, Int.reduceNeg, BitVec.reduceEq, Int.reduceAdd, Int.reduceSub, Int.reduceMul, Nat.reduceLeDiff, Int.reduceEq, h1, h2, h3]
  rw [kDigest _ _ _ e.1]
  simp only [↓amD, amU, Nat.reduceBEq, Nat.reduceAdd, Nat.reduceSub, Nat.reduceMul, Nat.reduceMod, Nat.reducePow, Nat.reduceLT, Nat.reduceDiv, Int.reduceToNat, BitVec.reduceToNat, zipEnv, Int.reduceLE, Int.reduceLT, Int.reduceNeg, BitVec.reduceEq, Int.reduceAdd, Int.reduceSub, Int.reduceMul, Nat.reduceLeDiff, Int.reduceEq]
  exact .val _ rfl
theorem kStSum (rows : Rows) (k : D → Rows → Prop) (s : St) (h : s.ok = true) : kCall fStSum rows k [stD s] = k (.agg (.ar 32 L8) (bs (sumSt s))) rows := by
  refine (kCall_val (by simp [hasRefL, hasRef, stD, Sh.pure]) (r := (d32D (sumSt s), [])) ?_).trans ?_
  · exact fn1_eq (rdOf_eq stD_inj s) h
  · simp [shift, shiftRows, d32D, Sh.pure]
noncomputable def fLen : Fn := fn1 (rdOf stD) (fun s => true) fun s => (.raw (u64 s.n), [])
theorem kLen (rows : Rows) (k : D → Rows → Prop) (s : St) : kCall fLen rows k [stD s] = k (.raw (u64 s.n)) rows := by
  refine (kCall_val (by simp [hasRefL, hasRef, stD, Sh.pure]) (r := (.raw (u64 s.n), [])) ?_).trans ?_
  · exact fn1_eq (rdOf_eq stD_inj s) rfl
  · simp [shift, shiftRows]
/-- of parts -/
def fSum : Fn := fn1 rdBss (fun ls => Nat.ble ls.length most && Nat.ble ls.flatten.length most) fun ls => (d32D (sumS ls.flatten), [])
theorem view_bss {rows : Rows} {d : D} {ls : List (List (BitVec 8))} (h : rdBss d = some ls) : rdBss d = some ls := h
theorem sum_ok (C : Ctx) (hC : CtxOK C P) (h1 : C.fn 32 = some fNew) (h2 : C.fn 33 = some fFeed) (h3 : C.fn 28 = some fBJoin) (h4 : C.fn 34 = some fStSum) : Meets C.glob P 27 (Fn.run fSum) := by
  refine fn_meets (m_sha_Sum C hC) fun ds rows r h => ?_
  obtain ⟨d, ls, rfl, rfl, hd, hp, rfl⟩ := fn1_some h
  obtain ⟨l, e, rfl, hl⟩ := rdBss_some hd
  refine ⟨rfl, afun_mk rfl ?_⟩
  have hj : ∀ (rows : Rows) k, kCall fBJoin rows k [.lst .ref l e, .raw (.slice none 0 0)] = k (.sl L8 (0 + rows.length) [] 0 ls.flatten.length false) (rows ++ [some ⟨L8, bs ls.flatten⟩]) := fun rows k => by
    have hnr : hasRefL [.lst .ref l e, .raw (.slice none 0 0)] = false := by
      have : ∀ (l : List D) (ls : List (List (BitVec 8))), mapO rdBs l = some ls → hasRefL l = false := by
        intro l
        induction l with
        | nil => intro _ _; rfl
        | cons x l ih =>
          intro ls h
          simp only [mapO] at h
          split at h
          · rename_i y hy
            split at h
            · rename_i ys hys
              have hx : hasRef x = false := by
                rcases rdBs_some hy with ⟨h, _⟩ | ⟨e, h⟩ <;> rw [h] <;> rfl
              simp [hasRefL, hx, ih _ hys]
            · cases h
          · cases h
      simp [hasRefL, hasRef, Sh.pure, this l ls hl]
    refine (kCall_val hnr (r := outBs ls.flatten false) ?_).trans ?_
    · exact fn2_eq hd rfl hp
    · simp [outBs, shift, shiftRows, Sh.pure]
  clear h
  have hok := feed_ok ls.flatten st0 st0_ok
  unfold a_sha_Sum r_sha_Sum
  simp only [↓amD, amU, Nat.reduceBEq, Nat.reduceAdd, Nat.reduceSub, Nat.reduceMul, Nat.reduceMod, Nat.reducePow, Nat.reduceLT, Nat.reduceDiv, Int.reduceToNat, BitVec.reduceToNat, zipEnv, Int.reduceLE, Int.reduceLT, Int.reduceNeg, BitVec.reduceEq, Int.reduceAdd, Int.reduceSub, Int.reduceMul, Nat.reduceLeDiff, Int.reduceEq, h1, h2, h3, h4, kNew, hj]
  refine Eq.mpr (kFeed _ _ _ _ ls.flatten (BsIn.own rfl _ rfl) st0_ok) ?_
  simp only [↓amD, amU, Nat.reduceBEq, Nat.reduceAdd, Nat.reduceSub, Nat.reduceMul, Nat.reduceMod, Nat.reducePow, Nat.reduceLT, Nat.reduceDiv, Int.reduceToNat, BitVec.reduceToNat, zipEnv, Int.reduceLE, Int.reduceLT, Int.reduceNeg, BitVec.reduceEq, Int.reduceAdd, Int.reduceSub, Int.reduceMul, Nat.reduceLeDiff, Int.reduceEq, h4]
  rw [kStSum _ _ _ hok]
  simp only [↓amD, amU, Nat.reduceBEq, Nat.reduceAdd, Nat.reduceSub, Nat.reduceMul, Nat.reduceMod, Nat.reducePow, Nat.reduceLT, Nat.reduceDiv, Int.reduceToNat, BitVec.reduceToNat, zipEnv, Int.reduceLE, Int.reduceLT, Int.reduceNeg, BitVec.reduceEq, Int.reduceAdd, Int.reduceSub, Int.reduceMul, Nat.reduceLeDiff, Int.reduceEq]
  exact .val _ rfl
end Job
end Go.Am
