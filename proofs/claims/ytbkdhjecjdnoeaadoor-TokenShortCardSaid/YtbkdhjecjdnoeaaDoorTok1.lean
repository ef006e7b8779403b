/- tokens: small functions -/
import Derived.Test.YtbkdhjecjdnoeaaDoorR1
namespace Go.Am
set_option linter.unusedSimpArgs false
set_option linter.unusedVariables false
attribute [local congr] bnd_congr kCond_congr kGd_congr kPick_congr kCall_congr kIdx_congr kSlice_congr kLoop_congr cond_congr' aBin_congr aBounds_congr aApp_congr aCopy_congr kFn_congr
namespace Job.Tk
open Go.Am.F
set_option maxRecDepth 10000
def kindS (m : Int) : Bool := decide (1 ≤ m) && decide (m ≤ 3)
def fKind : Fn := fn1 rdI (fun _ => true) fun m => (.raw (.bool (kindS m)), [])
theorem kind_ok (C : Ctx) (hC : CtxOK C P) : Meets C.glob P 15 (Fn.run fKind) := by
  refine fn_meets (m_token_right C hC) fun ds rows r h => ?_
  obtain ⟨d, m, rfl, rfl, hd, -, rfl⟩ := fn1_some h
  cases rdI_some hd
  refine ⟨rfl, afun_mk rfl ?_⟩
  unfold a_token_right r_token_right
  by_cases h1 : 1 ≤ m
  · simp only [↓amD, amU, Nat.reduceBEq, Nat.reduceAdd, Nat.reduceSub, Nat.reduceMul, Nat.reduceMod, Nat.reducePow, Nat.reduceLT, Nat.reduceDiv, Int.reduceToNat, BitVec.reduceToNat, zipEnv, Int.reduceLE, Int.reduceLT, Int.reduceNeg, BitVec.reduceEq, Int.reduceAdd, Int.reduceSub, Int.reduceMul, Nat.reduceLeDiff, Int.reduceEq, h1, decide_true]
    simp only [kindS, h1, decide_true, Bool.true_and]
    exact .val _ rfl
  · simp only [↓amD, amU, Nat.reduceBEq, Nat.reduceAdd, Nat.reduceSub, Nat.reduceMul, Nat.reduceMod, Nat.reducePow, Nat.reduceLT, Nat.reduceDiv, Int.reduceToNat, BitVec.reduceToNat, zipEnv, Int.reduceLE, Int.reduceLT, Int.reduceNeg, BitVec.reduceEq, Int.reduceAdd, Int.reduceSub, Int.reduceMul, Nat.reduceLeDiff, Int.reduceEq, h1, decide_false]
    simp only [kindS, h1, decide_false, Bool.false_and]
    exact .val _ rfl
def allowS (l k : Int) : Bool :=
  if k = 1 ∨ k = 3 then decide (1 ≤ l) && decide (l ≤ 3) else if k = 2 then decide (l = 1) || decide (l = 2) else false
def fAllow : Fn := fn2 rdI rdI (fun _ _ => true) fun l k => (.raw (.bool (allowS l k)), [])
theorem allow_ok (C : Ctx) (hC : CtxOK C P) : Meets C.glob P 11 (Fn.run fAllow) := by
  refine fn_meets (m_token_Allows C hC) fun ds rows r h => ?_
  obtain ⟨d, e, l, k, rfl, rfl, hd, he, -, rfl⟩ := fn2_some h
  cases rdI_some hd
  cases rdI_some he
  refine ⟨rfl, afun_mk rfl ?_⟩
  unfold a_token_Allows r_token_Allows
  clear h
  generalize hz : allowS l k = z
  have fin : ∀ (b : Bool), z = b → Expo [] (.raw (.bool b)) (.raw (.bool z)) [] := by
    intro b hb; rw [hb]; exact .val _ rfl
  by_cases h1 : l = 1 <;> by_cases h2 : l = 2 <;> by_cases h3 : l = 3 <;> by_cases k1 : k = 1 <;> by_cases k2 : k = 2 <;> by_cases k3 : k = 3
  all_goals try (exfalso; omega)
  all_goals
    simp only [↓amD, amU, Nat.reduceBEq, Nat.reduceAdd, Nat.reduceSub, Nat.reduceMul, Nat.reduceMod, Nat.reducePow, Nat.reduceLT, Nat.reduceDiv, Int.reduceToNat, BitVec.reduceToNat, zipEnv, Int.reduceLE, Int.reduceLT, Int.reduceNeg, BitVec.reduceEq, Int.reduceAdd, Int.reduceSub, Int.reduceMul, Nat.reduceLeDiff, Int.reduceEq, h1, h2, h3, k1, k2, k3, decide_true, decide_false]
    refine fin _ ?_
    rw [← hz]
    unfold allowS
    simp [h1, h2, h3, k1, k2, k3]
    try omega
def fNum : Fn := fn1 rdBs (fun a => Nat.ble 4 a.length) fun a => (.raw (u32 (numS a)), [])
theorem num_ok (C : Ctx) (hC : CtxOK C P) : Meets C.glob P 17 (Fn.run fNum) := by
  refine fn_meets (m_token_num C hC) fun ds rows r h => ?_
  obtain ⟨d, a, rfl, rfl, hd, hp, rfl⟩ := fn1_some h
  have ha := rdBs_some hd
  simp only [Nat.ble_eq] at hp
  refine ⟨rfl, afun_mk rfl ?_⟩
  unfold a_token_num r_token_num
  have e0 : ∀ (k : D → Rows → Prop) rows, kIdx (.leaf (.int .u8)) 0 rows k d = k (.cptr (.raw (u8 (a.getD 0 0#8)))) rows := fun k rows => by have := kIdx_bs (k := k) (rows := rows) (n := 0) ha (by omega); simpa using this
  have e1 : ∀ (k : D → Rows → Prop) rows, kIdx (.leaf (.int .u8)) 1 rows k d = k (.cptr (.raw (u8 (a.getD 1 0#8)))) rows := fun k rows => by have := kIdx_bs (k := k) (rows := rows) (n := 1) ha (by omega); simpa using this
  have e2 : ∀ (k : D → Rows → Prop) rows, kIdx (.leaf (.int .u8)) 2 rows k d = k (.cptr (.raw (u8 (a.getD 2 0#8)))) rows := fun k rows => by have := kIdx_bs (k := k) (rows := rows) (n := 2) ha (by omega); simpa using this
  have e3 : ∀ (k : D → Rows → Prop) rows, kIdx (.leaf (.int .u8)) 3 rows k d = k (.cptr (.raw (u8 (a.getD 3 0#8)))) rows := fun k rows => by have := kIdx_bs (k := k) (rows := rows) (n := 3) ha (by omega); simpa using this
  simp only [↓amD, amU, Nat.reduceBEq, Nat.reduceAdd, Nat.reduceSub, Nat.reduceMul, Nat.reduceMod, Nat.reducePow, Nat.reduceLT, Nat.reduceDiv, Int.reduceToNat, BitVec.reduceToNat, zipEnv, Int.reduceLE, Int.reduceLT, Int.reduceNeg, BitVec.reduceEq, Int.reduceAdd, Int.reduceSub, Int.reduceMul, Nat.reduceLeDiff, Int.reduceEq, e0, e1, e2, e3]
  exact .val _ rfl
def fEqual : Fn := fn2 rdBs rdBs (fun a b => Nat.ble a.length most && Nat.ble b.length most) fun a b => (.raw (.bool (decide (a = b))), [])
theorem equal_ok (C : Ctx) (hC : CtxOK C P) : Meets C.glob P 25 (Fn.run fEqual) := by
  refine fn_meetsN (m_bytes_Equal C hC) fun ds rows r h => ?_
  obtain ⟨d, e, a, b, rfl, rfl, hd, he, hp, rfl⟩ := fn2_some h
  obtain ⟨x, hx⟩ := rdBs_nrm hd
  obtain ⟨y, hy⟩ := rdBs_nrm he
  refine ⟨rfl, _, .cons hx (.cons hy .nil), afun_mk rfl ?_⟩
  unfold a_bytes_Equal r_bytes_Equal
  simp only [↓amD, amU, Nat.reduceBEq, Nat.reduceAdd, Nat.reduceSub, Nat.reduceMul, Nat.reduceMod, Nat.reducePow, Nat.reduceLT, Nat.reduceDiv, Int.reduceToNat, BitVec.reduceToNat, zipEnv, Int.reduceLE, Int.reduceLT, Int.reduceNeg, BitVec.reduceEq, Int.reduceAdd, Int.reduceSub, Int.reduceMul, Nat.reduceLeDiff, Int.reduceEq, amC]
  refine ⟨IsBs.sshape (.inr ⟨x, rfl⟩), ?_⟩
  simp only [byte_bs, ↓amD, amU, Nat.reduceBEq, Nat.reduceAdd, Nat.reduceSub, Nat.reduceMul, Nat.reduceMod, Nat.reducePow, Nat.reduceLT, Nat.reduceDiv, Int.reduceToNat, BitVec.reduceToNat, zipEnv, Int.reduceLE, Int.reduceLT, Int.reduceNeg, BitVec.reduceEq, Int.reduceAdd, Int.reduceSub, Int.reduceMul, Nat.reduceLeDiff, Int.reduceEq]
  refine ⟨IsBs.sshape (.inr ⟨y, rfl⟩), ?_⟩
  simp only [ByteArray.toList_eq, List.toList_toArray, ub_beq]
  exact .val _ rfl
theorem kEqual (rows : Rows) (k : D → Rows → Prop) (d e : D) (p q : List (BitVec 8)) (h : BsIn rows d p) (h' : BsIn rows e q) (hp : p.length ≤ 1099511627776) (hq : q.length ≤ 1099511627776) : kCall fEqual rows k [d, e] = k (.raw (.bool (decide (p = q)))) rows := by
  refine (kCall_bs2 h h' (by simpa [most] using ⟨hp, hq⟩) rfl).trans ?_
  simp [shift, shiftRows]
def fPre : Fn := fn2 rdBs rdBs (fun a b => Nat.ble a.length most && Nat.ble b.length most) fun a b => (.raw (.bool (decide (b.length ≤ a.length) && decide (a.take b.length = b))), [])
theorem pre_ok (C : Ctx) (hC : CtxOK C P) (h20 : C.fn 25 = some fEqual) : Meets C.glob P 16 (Fn.run fPre) := by
  refine fn_meetsN (m_bytes_HasPrefix C hC) fun ds rows r h => ?_
  obtain ⟨d, e, a, b, rfl, rfl, hd, he, hp, rfl⟩ := fn2_some h
  obtain ⟨x, hx⟩ := rdBs_nrm hd
  obtain ⟨y, hy⟩ := rdBs_nrm he
  refine ⟨rfl, _, .cons hx (.cons hy .nil), afun_mk rfl ?_⟩
  simp only [Bool.and_eq_true, Nat.ble_eq] at hp
  unfold most at hp
  clear h hx hy hd he
  unfold a_bytes_HasPrefix r_bytes_HasPrefix
  by_cases hl : b.length ≤ a.length
  · have hl1 : ((b.length : Int) ≤ (a.length : Int)) = True := eq_true (by omega)
    have hl2 : ((0 : Int) ≤ (b.length : Int)) = True := eq_true (by omega)
    simp only [↓amD, amU, Nat.reduceBEq, Nat.reduceAdd, Nat.reduceSub, Nat.reduceMul, Nat.reduceMod, Nat.reducePow, Nat.reduceLT, Nat.reduceDiv, Int.reduceToNat, BitVec.reduceToNat, zipEnv, Int.reduceLE, Int.reduceLT, Int.reduceNeg, BitVec.reduceEq, Int.reduceAdd, Int.reduceSub, Int.reduceMul, Nat.reduceLeDiff, Int.reduceEq, bs_len, hl1, hl2, h20]
    simp only [Nat.sub_zero, bs_take]
    refine Eq.mpr (kEqual _ _ _ _ (a.take b.length) b (IsBs.to (.inr ⟨_, rfl⟩)) (IsBs.to (.inr ⟨_, rfl⟩)) (by rw [List.length_take]; omega) (by omega)) ?_
    simp only [↓amD, amU, Nat.reduceBEq, Nat.reduceAdd, Nat.reduceSub, Nat.reduceMul, Nat.reduceMod, Nat.reducePow, Nat.reduceLT, Nat.reduceDiv, Int.reduceToNat, BitVec.reduceToNat, zipEnv, Int.reduceLE, Int.reduceLT, Int.reduceNeg, BitVec.reduceEq, Int.reduceAdd, Int.reduceSub, Int.reduceMul, Nat.reduceLeDiff, Int.reduceEq]
    simp only [hl, decide_true, Bool.true_and]
    exact .val _ rfl
  · have hl1 : ((b.length : Int) ≤ (a.length : Int)) = False := eq_false (by omega)
    simp only [↓amD, amU, Nat.reduceBEq, Nat.reduceAdd, Nat.reduceSub, Nat.reduceMul, Nat.reduceMod, Nat.reducePow, Nat.reduceLT, Nat.reduceDiv, Int.reduceToNat, BitVec.reduceToNat, zipEnv, Int.reduceLE, Int.reduceLT, Int.reduceNeg, BitVec.reduceEq, Int.reduceAdd, Int.reduceSub, Int.reduceMul, Nat.reduceLeDiff, Int.reduceEq, bs_len, hl1]
    simp only [hl, decide_false, Bool.false_and]
    exact .val _ rfl
end Job.Tk
end Go.Am
