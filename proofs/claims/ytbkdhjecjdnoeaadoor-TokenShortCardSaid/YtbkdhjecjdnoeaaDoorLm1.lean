/- LMS: types of trees, public keys -/
import Derived.Test.YtbkdhjecjdnoeaaDoorOtP
namespace Go.Am
set_option linter.unusedSimpArgs false
set_option linter.unusedVariables false
attribute [local congr] bnd_congr kCond_congr kGd_congr kPick_congr kCall_congr kIdx_congr kSlice_congr kLoop_congr cond_congr' aBin_congr aBounds_congr aApp_congr aCopy_congr kFn_congr
namespace Job
open Go.Am.F
set_option maxRecDepth 10000
abbrev SKey : Sh := .cons L32 (.cons L32 (.cons (.ar 16 L8) (.cons (.ar 32 L8) .nil)))
noncomputable def fLNum : Fn := fn1 rdBs (fun a => Nat.ble 4 a.length) fun a => (.raw (u32 (numS a)), [])
theorem lnum_ok (C : Ctx) (hC : CtxOK C P) : Meets C.glob P 19 (Fn.run fLNum) := by
  refine fn_meets (m_lms_num C hC) fun ds rows r h => ?_
  obtain ⟨d, a, rfl, rfl, hd, hp, rfl⟩ := fn1_some h
  have ha := rdBs_some hd
  simp only [Nat.ble_eq] at hp
  refine ⟨rfl, afun_mk rfl ?_⟩
  unfold a_lms_num r_lms_num
  have e0 : ∀ (k : D → Rows → Prop) rows, kIdx (.leaf (.int .u8)) 0 rows k d = k (.cptr (.raw (u8 (a.getD 0 0#8)))) rows := fun k rows => by have := kIdx_bs (k := k) (rows := rows) (n := 0) ha (by omega); simpa using this
  have e1 : ∀ (k : D → Rows → Prop) rows, kIdx (.leaf (.int .u8)) 1 rows k d = k (.cptr (.raw (u8 (a.getD 1 0#8)))) rows := fun k rows => by have := kIdx_bs (k := k) (rows := rows) (n := 1) ha (by omega); simpa using this
  have e2 : ∀ (k : D → Rows → Prop) rows, kIdx (.leaf (.int .u8)) 2 rows k d = k (.cptr (.raw (u8 (a.getD 2 0#8)))) rows := fun k rows => by have := kIdx_bs (k := k) (rows := rows) (n := 2) ha (by omega); simpa using this
  have e3 : ∀ (k : D → Rows → Prop) rows, kIdx (.leaf (.int .u8)) 3 rows k d = k (.cptr (.raw (u8 (a.getD 3 0#8)))) rows := fun k rows => by have := kIdx_bs (k := k) (rows := rows) (n := 3) ha (by omega); simpa using this
  simp only [↓amD, amU, Nat.reduceBEq, Nat.reduceAdd, Nat.reduceSub, Nat.reduceMul, Nat.reduceMod, Nat.reducePow, Nat.reduceLT, Nat.reduceDiv, Int.reduceToNat, BitVec.reduceToNat, zipEnv, Int.reduceLE, Int.reduceLT, Int.reduceNeg, BitVec.reduceEq, Int.reduceAdd, Int.reduceSub, Int.reduceMul, Nat.reduceLeDiff, Int.reduceEq, e0, e1, e2, e3]
  exact .val _ rfl
theorem kLNum (rows : Rows) (k : D → Rows → Prop) (d : D) (p : List (BitVec 8)) (h : BsIn rows d p) (hp : 4 ≤ p.length) : kCall fLNum rows k [d] = k (.raw (u32 (numS p))) rows := by
  refine (kCall_rd1 (RdIn.bs h) (by simpa using hp) rfl k).trans ?_
  simp [shift, shiftRows]
def hT (t : Nat) : Nat := if 5 ≤ t ∧ t ≤ 9 then 5 * (t - 4) else if 3758096384 < t ∧ t ≤ 3758096388 then t - 3758096384 else 0
def okH (t : Nat) : Bool := decide (5 ≤ t ∧ t ≤ 9 ∨ 3758096384 < t ∧ t ≤ 3758096388)
theorem hT_le (t : Nat) : hT t ≤ 25 := by
  unfold hT; split
  · omega
  · split <;> omega
theorem okH_cases {t : BitVec 32} (h : okH t.toNat = true) : t = 5#32 ∨ t = 6#32 ∨ t = 7#32 ∨ t = 8#32 ∨ t = 9#32 ∨ t = 3758096385#32 ∨ t = 3758096386#32 ∨ t = 3758096387#32 ∨ t = 3758096388#32 := by
  simp only [okH, decide_eq_true_eq] at h
  have : t.toNat = 5 ∨ t.toNat = 6 ∨ t.toNat = 7 ∨ t.toNat = 8 ∨ t.toNat = 9 ∨ t.toNat = 3758096385 ∨ t.toNat = 3758096386 ∨ t.toNat = 3758096387 ∨ t.toNat = 3758096388 := by omega
  have g : ∀ n, n < 4294967296 → t.toNat = n → t = BitVec.ofNat 32 n := fun n hn e => BitVec.eq_of_toNat_eq (by rw [e, BitVec.toNat_ofNat, Nat.mod_eq_of_lt hn])
  rcases this with h | h | h | h | h | h | h | h | h <;> have := g _ (by decide) h <;> simp [this]
def fHeight : Fn := fn1 rd32 (fun _ => true) fun t => (.tup [.raw (it (hT t.toNat : Int)), .raw (.bool (okH t.toNat))], [])
theorem height_ok (C : Ctx) (hC : CtxOK C P) : Meets C.glob P 23 (Fn.run fHeight) := by
  refine fn_meets (m_lms_Height C hC) fun ds rows r h => ?_
  obtain ⟨d, t, rfl, rfl, hd, hp, rfl⟩ := fn1_some h
  cases rd32_some hd
  refine ⟨rfl, afun_mk rfl ?_⟩
  clear h hd
  unfold a_lms_Height r_lms_Height
  cases hk : okH t.toNat
  · have hz : hT t.toNat = 0 := by
      simp only [okH, decide_eq_false_iff_not] at hk
      unfold hT; split
      · omega
      · split <;> omega
    rw [hz]
    simp only [okH, decide_eq_false_iff_not] at hk
    have a1 : (5#32 ≤ t) = (5 ≤ t.toNat) := propext BitVec.le_def
    have a2 : (t ≤ 9#32) = (t.toNat ≤ 9) := propext BitVec.le_def
    have a3 : (3758096384#32 < t) = (3758096384 < t.toNat) := propext BitVec.lt_def
    have a4 : (t ≤ 3758096388#32) = (t.toNat ≤ 3758096388) := propext BitVec.le_def
    by_cases c1 : 5 ≤ t.toNat <;> by_cases c2 : t.toNat ≤ 9 <;> by_cases c3 : 3758096384 < t.toNat <;> by_cases c4 : t.toNat ≤ 3758096388 <;>
      first
      | omega
      | (simp only [↓amD, amU, Nat.reduceBEq, Nat.reduceAdd, Nat.reduceSub, Nat.reduceMul, Nat.reduceMod, Nat.reducePow, Nat.reduceLT, Nat.reduceDiv, Int.reduceToNat, BitVec.reduceToNat, zipEnv, Int.reduceLE, Int.reduceLT, Int.reduceNeg, BitVec.reduceEq, Int.reduceAdd, Int.reduceSub, Int.reduceMul, Nat.reduceLeDiff, Int.reduceEq, a1, a2, a3, a4, c1, c2, c3, c4, decide_true, decide_false]; exact .val _ rfl)
  · rcases okH_cases hk with rfl | rfl | rfl | rfl | rfl | rfl | rfl | rfl | rfl <;>
    · simp only [↓amD, amU, Nat.reduceBEq, Nat.reduceAdd, Nat.reduceSub, Nat.reduceMul, Nat.reduceMod, Nat.reducePow, Nat.reduceLT, Nat.reduceDiv, Int.reduceToNat, BitVec.reduceToNat, zipEnv, Int.reduceLE, Int.reduceLT, Int.reduceNeg, BitVec.reduceEq, Int.reduceAdd, Int.reduceSub, Int.reduceMul, Nat.reduceLeDiff, Int.reduceEq, BitVec.reduceLT, BitVec.reduceLE, BitVec.reduceSub, BitVec.reduceToNat, decide_true, decide_false]
      exact .val _ rfl
theorem kHeight (rows : Rows) (k : D → Rows → Prop) (t : BitVec 32) : kCall fHeight rows k [.raw (u32 t)] = k (.tup [.raw (it (hT t.toNat : Int)), .raw (.bool (okH t.toNat))]) rows := by
  refine (kCall_rd1 (RdIn.raw (rd32_eq t)) rfl rfl k).trans ?_
  simp [shift, shiftL, shiftRows]
end Job
end Go.Am
