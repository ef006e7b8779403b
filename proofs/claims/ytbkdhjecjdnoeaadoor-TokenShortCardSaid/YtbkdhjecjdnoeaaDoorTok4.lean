/- tokens: the example, and what a token leads to -/
import Derived.Test.YtbkdhjecjdnoeaaDoorTok3
import Derived.KernelRfl
namespace Go.Am
set_option linter.unusedSimpArgs false
set_option linter.unusedVariables false
attribute [local congr] bnd_congr kCond_congr kGd_congr kPick_congr kCall_congr kIdx_congr kSlice_congr kLoop_congr cond_congr' aBin_congr aBounds_congr aApp_congr aCopy_congr kFn_congr
namespace Job.Tk
open Go.Am.F
set_option maxRecDepth 10000
theorem tokD_nr (t : Tok) : hasRef (tokD t) = false := rfl
theorem tokD_sh (k : Nat) (t : Tok) : shift k (tokD t) = tokD t := rfl
theorem tokD_fits (t : Tok) : D.fits (tokD t) S1 = true := rfl
theorem kAllow (rows : Rows) (k : D → Rows → Prop) (l m : Int) : kCall fAllow rows k [.raw (it l), .raw (it m)] = k (.raw (.bool (allowS l m))) rows := by
  refine (kCall_val rfl (fn2_eq (rdI_eq l) (rdI_eq m) rfl)).trans ?_
  simp [shift, shiftRows]
theorem kBody (rows : Rows) (k : D → Rows → Prop) (t : Tok) (h : t.ok = true) (hk : kindS t.kind = true) : kCall fBody rows k [tokD t] = k (.tup [.sl L8 (0 + rows.length) [] 0 28 false, .raw (it 0)]) (rows ++ [some ⟨L8, bs (bodyL t)⟩]) := by
  have e : fBody [tokD t] [] = some (.tup [.sl L8 0 [] 0 28 false, .raw (it 0)], [some ⟨L8, bs (bodyL t)⟩]) := by
    simp only [fBody, fn1_ev, rdOf_eq tokD_inj t, Option.bind_some, h, hk, cond_true]
  refine (kCall_val rfl e).trans ?_
  rfl
theorem kBodyN (rows : Rows) (k : D → Rows → Prop) (t : Tok) (h : t.ok = true) (hk : kindS t.kind = false) : kCall fBody rows k [tokD t] = k (.tup [.raw (.slice none 0 0), .raw (it 1)]) rows := by
  have e : fBody [tokD t] [] = some (.tup [.raw (.slice none 0 0), .raw (it 1)], []) := by
    simp only [fBody, fn1_ev, rdOf_eq tokD_inj t, Option.bind_some, h, hk, cond_true, cond_false]
  refine (kCall_val rfl e).trans ?_
  simp [shift, shiftL, shiftRows]
theorem kParse (rows : Rows) (k : D → Rows → Prop) (d : D) (p : List (BitVec 8)) (h : BsIn rows d p) (hp : p.length ≤ 1099511627776) : kCall fParse rows k [d] = k (.tup [tokD (parseS p).1, .raw (it (parseS p).2)]) rows := by
  refine (kCall_bs1 h (by simpa [most] using hp) rfl).trans ?_
  simp [shift, shiftL, shiftRows, tokD_sh]
def t0 : Tok := ⟨2, 7#32, z16⟩
def fAwake : Fn
  | [], [] => some (.raw (.bool true), [])
  | _, _ => none
theorem awake_ok (C : Ctx) (hC : CtxOK C P) (h7 : C.fn 9 = some fBody) (h11 : C.fn 10 = some fParse) (h13 : C.fn 11 = some fAllow) : Meets C.glob P 4 (Fn.run fAwake) := by
  refine fn_meets (m_law09_awake C hC) fun ds rows r h => ?_
  unfold fAwake at h
  split at h
  · cases h
    refine ⟨rfl, afun_mk rfl ?_⟩
    unfold a_law09_awake r_law09_awake
    simp only [↓amD, amU, Nat.reduceBEq, Nat.reduceAdd, Nat.reduceSub, Nat.reduceMul, Nat.reduceMod, Nat.reducePow, Nat.reduceLT, Nat.reduceDiv, Int.reduceToNat, BitVec.reduceToNat, zipEnv, Int.reduceLE, Int.reduceLT, Int.reduceNeg, BitVec.reduceEq, Int.reduceAdd, Int.reduceSub, Int.reduceMul, Nat.reduceLeDiff, Int.reduceEq, h7]
    refine Eq.mpr (kBody _ _ t0 rfl rfl) ?_
    simp only [↓amD, amU, Nat.reduceBEq, Nat.reduceAdd, Nat.reduceSub, Nat.reduceMul, Nat.reduceMod, Nat.reducePow, Nat.reduceLT, Nat.reduceDiv, Int.reduceToNat, BitVec.reduceToNat, zipEnv, Int.reduceLE, Int.reduceLT, Int.reduceNeg, BitVec.reduceEq, Int.reduceAdd, Int.reduceSub, Int.reduceMul, Nat.reduceLeDiff, Int.reduceEq, h11]
    refine Eq.mpr (kParse _ _ _ (bodyL t0) (BsIn.own rfl 28 rfl) (Nat.le_of_ble_eq_true rfl)) ?_
    have hp0 : parseS (bodyL t0) = (t0, 0) := by kernel_rfl
    have a1 : allowS 2 2 = true := by decide
    have a2 : allowS 3 2 = false := by decide
    simp only [hp0]
    simp only [t0, tokD]
    simp only [↓amD, amU, Nat.reduceBEq, Nat.reduceAdd, Nat.reduceSub, Nat.reduceMul, Nat.reduceMod, Nat.reducePow, Nat.reduceLT, Nat.reduceDiv, Int.reduceToNat, BitVec.reduceToNat, zipEnv, Int.reduceLE, Int.reduceLT, Int.reduceNeg, BitVec.reduceEq, Int.reduceAdd, Int.reduceSub, Int.reduceMul, Nat.reduceLeDiff, Int.reduceEq, h13, kAllow, a1, a2]
    exact .val _ rfl
  · cases h
theorem kAwake (rows : Rows) (k : D → Rows → Prop) : kCall fAwake rows k [] = k (.raw (.bool true)) rows := by
  refine (kCall_val rfl (r := (.raw (.bool true), [])) rfl).trans ?_
  simp [shift, shiftRows]
def vv : Nat → Int
  | 0 => 1
  | 1 => 2
  | 2 => 3
  | _ => 4
theorem no4 (k : Int) : allowS 4 k = false := by
  unfold allowS
  split
  · decide
  · split <;> decide
theorem no0 (k : Int) : allowS 0 k = false := by
  unfold allowS
  split
  · decide
  · split <;> decide
theorem allow_le (l k : Int) (h : allowS l k = true) : 1 ≤ l ∧ l ≤ 3 ∧ (k = 2 → l ≤ 2) := by
  unfold allowS at h
  split at h
  · simp only [Bool.and_eq_true, decide_eq_true_eq] at h
    omega
  · split at h
    · simp only [Bool.or_eq_true, decide_eq_true_eq] at h
      omega
    · cases h
theorem lead2 (l k : Int) (h : allowS l 2 = true) (h3 : allowS 3 k = true) : allowS l k = true := by
  have h1 := allow_le l 2 h
  have h2 := h1.2.2 rfl
  unfold allowS at h3 ⊢
  split at h3
  · rename_i hk
    rw [if_pos hk, Bool.and_eq_true]
    exact ⟨decide_eq_true (by omega), decide_eq_true (by omega)⟩
  · split at h3
    · simp at h3
    · cases h3
end Job.Tk
end Go.Am
