/- the journal: records, and back -/
import Derived.Test.YtmicfjeedofokaaDoorCom
import Derived.Test.YtmicfjeedofokaaDoorRd
namespace Go.Am
set_option linter.unusedSimpArgs false
set_option linter.unusedVariables false
attribute [local congr] bnd_congr kCond_congr kGd_congr kPick_congr kCall_congr kIdx_congr kSlice_congr kLoop_congr cond_congr' aBin_congr aBounds_congr aApp_congr aCopy_congr kFn_congr
namespace Job
open Go.Am.F
set_option maxRecDepth 10000
theorem bqtt : (true == true) = true := by decide
theorem bqtf : (true == false) = false := by decide
theorem bqft : (false == true) = false := by decide
theorem bqff : (false == false) = true := by decide
def fEqual : Fn := fn2 rdBs rdBs (fun a b => Nat.ble a.length most && Nat.ble b.length most) fun a b => (.raw (.bool (decide (a = b))), [])
theorem equal_ok (C : Ctx) (hC : CtxOK C P) : Meets C.glob P 32 (Fn.run fEqual) := by
  refine fn_meetsN (m_bytes_Equal C hC) fun ds rows r h => ?_
  obtain ⟨d, e, a, b, rfl, rfl, hd, he, hp, rfl⟩ := fn2_some h
  obtain ⟨x, hx⟩ := rdBs_nrm hd
  obtain ⟨y, hy⟩ := rdBs_nrm he
  refine ⟨rfl, _, .cons hx (.cons hy .nil), afun_mk rfl ?_⟩
  unfold a_bytes_Equal r_bytes_Equal
  simp only [↓amD, amU, Nat.reduceBEq, Nat.reduceAdd, Nat.reduceSub, Nat.reduceMul, Nat.reduceMod, Nat.reducePow, Nat.reduceLT, Nat.reduceDiv, Int.reduceToNat, BitVec.reduceToNat, zipEnv, Int.reduceLE, Int.reduceLT, Int.reduceNeg, BitVec.reduceEq, Int.reduceAdd, Int.reduceSub, Int.reduceMul, Nat.reduceLeDiff, Int.reduceEq, amC]
  refine ⟨IsBs.sshape (.inr ⟨x, rfl⟩), ?_⟩
  simp only [byte_bs, ↓amD, amU, Nat.reduceBEq, Nat.reduceAdd, Nat.reduceSub, Nat.reduceMul, Nat.reduceMod, Nat.reducePow, Nat.reduceLT, Nat.reduceDiv, Int.reduceToNat, BitVec.reduceToNat, zipEnv, Int.reduceLE, Int.reduceLT, Int.reduceNeg, BitVec.reduceEq, Int.reduceAdd, Int.reduceSub, Int.reduceMul, Nat.reduceLeDiff, Int.reduceEq]
  refine ⟨IsBs.sshape (.inr ⟨y, rfl⟩), ?_⟩
  simp only [ByteArray.toList_eq, List.toList_toArray, ub_beq]
  exact .val _ rfl
theorem kEqual (rows : Rows) (k : D → Rows → Prop) (d e : D) (p q : List (BitVec 8)) (h : BsIn rows d p) (h' : BsIn rows e q) (hp : p.length ≤ 1099511627776) (hq : q.length ≤ 1099511627776) : kCall fEqual rows k [d, e] = k (.raw (.bool (decide (p = q)))) rows := by
  refine (kCall_bs2 h h' (by simpa [most] using ⟨hp, hq⟩) rfl).trans ?_
  simp [shift, shiftRows]
structure JS where
  q : BitVec 32
  a : Int
  t : Int
  n : Int
  deriving DecidableEq
abbrev SJ : Sh := .cons L32 (.cons LI (.cons LI (.cons LI .nil)))
def jD (s : JS) : D := .agg SJ [.raw (u32 s.q), .raw (it s.a), .raw (it s.t), .raw (it s.n)]
theorem jD_inj (x y : JS) (h : jD x = jD y) : x = y := by
  obtain ⟨a, b, c, d⟩ := x
  obtain ⟨a', b', c', d'⟩ := y
  simp only [jD, D.agg.injEq, List.cons.injEq, D.raw.injEq, it_inj, u32_inj, and_true, true_and] at h
  obtain ⟨rfl, rfl, rfl, rfl⟩ := h
  rfl
theorem jD_ref (s : JS) : hasRef (jD s) = false := rfl
theorem jD_fits (s : JS) : (jD s).fits SJ = true := rfl
theorem jD_shift (n : Nat) (s : JS) : shift n (jD s) = jD s := by simp [jD, shift, Sh.pure]
theorem jD_mk (q : BitVec 32) (a t n : Int) : D.agg SJ [.raw (u32 q), .raw (it a), .raw (it t), .raw (it n)] = jD ⟨q, a, t, n⟩ := rfl
theorem jD_g0 (s : JS) : (jD s).get [0] = some (.raw (u32 s.q)) := rfl
theorem jD_g1 (s : JS) : (jD s).get [1] = some (.raw (it s.a)) := rfl
theorem jD_g2 (s : JS) : (jD s).get [2] = some (.raw (it s.t)) := rfl
theorem jD_g3 (s : JS) : (jD s).get [3] = some (.raw (it s.n)) := rfl
theorem eqA_j (s : JS) : eqA SJ (jD s) (jD s) = some true := by
  simp [jD, eqA, eqL, eqD, eqLeaf, u32, it]
def slotB (i : Int) : Bool := decide (i = 0) || decide (i = 1)
def fSlot : Fn := fn1 rdI (fun _ => true) fun i => (.raw (.bool (slotB i)), [])
theorem slot_ok (C : Ctx) (hC : CtxOK C P) : Meets C.glob P 29 (Fn.run fSlot) := by
  refine fn_meets (m_journal_slot C hC) fun ds rows r h => ?_
  obtain ⟨d, i, rfl, rfl, hd, hp, rfl⟩ := fn1_some h
  cases rdI_some hd
  refine ⟨rfl, afun_mk rfl ?_⟩
  clear h hd
  unfold a_journal_slot r_journal_slot slotB
  by_cases c : i = 0
  · have c1 : (i = 0) = True := eq_true c
    simp only [↓amD, amU, Nat.reduceBEq, Nat.reduceAdd, Nat.reduceSub, Nat.reduceMul, Nat.reduceMod, Nat.reducePow, Nat.reduceLT, Nat.reduceDiv, Int.reduceToNat, BitVec.reduceToNat, zipEnv, Int.reduceLE, Int.reduceLT, Int.reduceNeg, BitVec.reduceEq, Int.reduceAdd, Int.reduceSub, Int.reduceMul, Nat.reduceLeDiff, Int.reduceEq, c1, decide_true, Bool.true_or]
    exact .val _ rfl
  · have c1 : (i = 0) = False := eq_false c
    simp only [↓amD, amU, Nat.reduceBEq, Nat.reduceAdd, Nat.reduceSub, Nat.reduceMul, Nat.reduceMod, Nat.reducePow, Nat.reduceLT, Nat.reduceDiv, Int.reduceToNat, BitVec.reduceToNat, zipEnv, Int.reduceLE, Int.reduceLT, Int.reduceNeg, BitVec.reduceEq, Int.reduceAdd, Int.reduceSub, Int.reduceMul, Nat.reduceLeDiff, Int.reduceEq, c1, decide_false, Bool.false_or]
    exact .val _ rfl
theorem kSlot (rows : Rows) (k : D → Rows → Prop) (i : Int) : kCall fSlot rows k [.raw (it i)] = k (.raw (.bool (slotB i))) rows := by
  refine (kCall_val rfl (fn1_eq (rdI_eq i) rfl)).trans ?_
  simp [shift, shiftRows]
def rightJ (s : JS) : Bool := slotB s.a && (slotB s.t || (decide (s.t = -1) && decide (s.n = 0))) && decide (0 ≤ s.n) && decide (s.n ≤ 3)
noncomputable def fRightJ : Fn := fn1 (rdOf jD) (fun _ => true) fun s => (.raw (.bool (rightJ s)), [])
set_option maxHeartbeats 1000000 in
theorem rightj_ok (C : Ctx) (hC : CtxOK C P) (hs : C.fn 29 = some fSlot) : Meets C.glob P 12 (Fn.run fRightJ) := by
  refine fn_meets (m_journal_State_Right C hC) fun ds rows r h => ?_
  obtain ⟨d, s, rfl, rfl, hd, hp, rfl⟩ := fn1_some h
  cases rdOf_some hd
  refine ⟨rfl, afun_mk rfl ?_⟩
  clear h hd
  obtain ⟨q, a, t, n⟩ := s
  unfold a_journal_State_Right r_journal_State_Right
  rcases Classical.em (t = -1) with c1 | c1 <;> rcases Classical.em (n = 0) with c2 | c2 <;> rcases Classical.em (0 ≤ n) with c3 | c3 <;> rcases Classical.em (n ≤ 3) with c4 | c4 <;>
    (have e1 := c1; have e2 := c2; have e3 := c3; have e4 := c4
     first | replace e1 := eq_false e1 | replace e1 := eq_true e1
     first | replace e2 := eq_false e2 | replace e2 := eq_true e2
     first | replace e3 := eq_false e3 | replace e3 := eq_true e3
     first | replace e4 := eq_false e4 | replace e4 := eq_true e4
     clear c1 c2 c3 c4
     cases h1 : slotB t <;> cases h2 : slotB a <;>
       (simp only [↓amD, amU, Nat.reduceBEq, Nat.reduceAdd, Nat.reduceSub, Nat.reduceMul, Nat.reduceMod, Nat.reducePow, Nat.reduceLT, Nat.reduceDiv, Int.reduceToNat, BitVec.reduceToNat, zipEnv, Int.reduceLE, Int.reduceLT, Int.reduceNeg, BitVec.reduceEq, Int.reduceAdd, Int.reduceSub, Int.reduceMul, Nat.reduceLeDiff, Int.reduceEq, jD, rightJ, hs, kSlot, h1, h2, e1, e2, e3, e4, decide_true, decide_false]; exact .val _ rfl))
theorem rrightj_ok (C : Ctx) (hC : CtxOK C P) : Meets C.glob P 11 (Fn.run fRightJ) := by
  refine fn_meets (m_ref22_Right C hC) fun ds rows r h => ?_
  obtain ⟨d, s, rfl, rfl, hd, hp, rfl⟩ := fn1_some h
  cases rdOf_some hd
  refine ⟨rfl, afun_mk rfl ?_⟩
  clear h hd
  obtain ⟨q, a, t, n⟩ := s
  unfold a_ref22_Right r_ref22_Right
  rcases Classical.em (a < 0) with c0 | c0
  · have e0 := eq_true c0
    have h2 : slotB a = false := by unfold slotB; rw [decide_eq_false (by omega), decide_eq_false (by omega)]; rfl
    simp only [↓amD, amU, Nat.reduceBEq, Nat.reduceAdd, Nat.reduceSub, Nat.reduceMul, Nat.reduceMod, Nat.reducePow, Nat.reduceLT, Nat.reduceDiv, Int.reduceToNat, BitVec.reduceToNat, zipEnv, Int.reduceLE, Int.reduceLT, Int.reduceNeg, BitVec.reduceEq, Int.reduceAdd, Int.reduceSub, Int.reduceMul, Nat.reduceLeDiff, Int.reduceEq, jD, rightJ, h2, e0, decide_true, decide_false]
    exact .val _ rfl
  rcases Classical.em (1 < a) with c1 | c1
  · have e0 := eq_false c0
    have e1 := eq_true c1
    have h2 : slotB a = false := by unfold slotB; rw [decide_eq_false (by omega), decide_eq_false (by omega)]; rfl
    simp only [↓amD, amU, Nat.reduceBEq, Nat.reduceAdd, Nat.reduceSub, Nat.reduceMul, Nat.reduceMod, Nat.reducePow, Nat.reduceLT, Nat.reduceDiv, Int.reduceToNat, BitVec.reduceToNat, zipEnv, Int.reduceLE, Int.reduceLT, Int.reduceNeg, BitVec.reduceEq, Int.reduceAdd, Int.reduceSub, Int.reduceMul, Nat.reduceLeDiff, Int.reduceEq, jD, rightJ, h2, e0, e1, decide_true, decide_false]
    exact .val _ rfl
  have e0 := eq_false c0
  have e1 := eq_false c1
  have h2 : slotB a = true := by
    unfold slotB
    have : a = 0 ∨ a = 1 := by omega
    rcases this with rfl | rfl <;> rfl
  rcases Classical.em (n < 0) with c3 | c3
  · have e3 := eq_true c3
    have e4 : (0 ≤ n) = False := eq_false (by omega)
    simp only [↓amD, amU, Nat.reduceBEq, Nat.reduceAdd, Nat.reduceSub, Nat.reduceMul, Nat.reduceMod, Nat.reducePow, Nat.reduceLT, Nat.reduceDiv, Int.reduceToNat, BitVec.reduceToNat, zipEnv, Int.reduceLE, Int.reduceLT, Int.reduceNeg, BitVec.reduceEq, Int.reduceAdd, Int.reduceSub, Int.reduceMul, Nat.reduceLeDiff, Int.reduceEq, jD, rightJ, h2, e0, e1, e3, e4, decide_true, decide_false]
    try simp only [Bool.and_false, Bool.false_and]
    exact .val _ rfl
  rcases Classical.em (3 < n) with c5 | c5
  · have e3 := eq_false c3
    have e4 : (0 ≤ n) = True := eq_true (by omega)
    have e5 := eq_true c5
    have e6 : (n ≤ 3) = False := eq_false (by omega)
    simp only [↓amD, amU, Nat.reduceBEq, Nat.reduceAdd, Nat.reduceSub, Nat.reduceMul, Nat.reduceMod, Nat.reducePow, Nat.reduceLT, Nat.reduceDiv, Int.reduceToNat, BitVec.reduceToNat, zipEnv, Int.reduceLE, Int.reduceLT, Int.reduceNeg, BitVec.reduceEq, Int.reduceAdd, Int.reduceSub, Int.reduceMul, Nat.reduceLeDiff, Int.reduceEq, jD, rightJ, h2, e0, e1, e3, e4, e5, e6, decide_true, decide_false]
    try simp only [Bool.and_false, Bool.false_and]
    exact .val _ rfl
  have e3 := eq_false c3
  have e4 : (0 ≤ n) = True := eq_true (by omega)
  have e5 := eq_false c5
  have e6 : (n ≤ 3) = True := eq_true (by omega)
  have hR : ∀ b : Bool, ((slotB t || (decide (t = -1) && decide (n = 0))) = b) → rightJ ⟨q, a, t, n⟩ = b := fun b hb => by
    simp only [rightJ, h2, hb]
    rw [decide_eq_true (by omega : 0 ≤ n), decide_eq_true (by omega : n ≤ 3)]
    cases b <;> rfl
  rcases (by omega : t = -1 ∨ t = 0 ∨ t = 1 ∨ (t ≠ -1 ∧ t ≠ 0 ∧ t ≠ 1)) with rfl | rfl | rfl | ⟨g1, g2, g3⟩
  · rcases Classical.em (n = 0) with c2 | c2
    · have f2 := eq_true c2
      have := hR true (by rw [decide_eq_true c2]; rfl)
      simp only [↓amD, amU, Nat.reduceBEq, Nat.reduceAdd, Nat.reduceSub, Nat.reduceMul, Nat.reduceMod, Nat.reducePow, Nat.reduceLT, Nat.reduceDiv, Int.reduceToNat, BitVec.reduceToNat, zipEnv, Int.reduceLE, Int.reduceLT, Int.reduceNeg, BitVec.reduceEq, Int.reduceAdd, Int.reduceSub, Int.reduceMul, Nat.reduceLeDiff, Int.reduceEq, jD, this, e0, e1, e3, e5, f2, decide_true, decide_false]
      exact .val _ rfl
    · have f2 := eq_false c2
      have := hR false (by rw [decide_eq_false c2]; rfl)
      simp only [↓amD, amU, Nat.reduceBEq, Nat.reduceAdd, Nat.reduceSub, Nat.reduceMul, Nat.reduceMod, Nat.reducePow, Nat.reduceLT, Nat.reduceDiv, Int.reduceToNat, BitVec.reduceToNat, zipEnv, Int.reduceLE, Int.reduceLT, Int.reduceNeg, BitVec.reduceEq, Int.reduceAdd, Int.reduceSub, Int.reduceMul, Nat.reduceLeDiff, Int.reduceEq, jD, this, e0, e1, e3, e5, f2, decide_true, decide_false]
      exact .val _ rfl
  · have := hR true rfl
    simp only [↓amD, amU, Nat.reduceBEq, Nat.reduceAdd, Nat.reduceSub, Nat.reduceMul, Nat.reduceMod, Nat.reducePow, Nat.reduceLT, Nat.reduceDiv, Int.reduceToNat, BitVec.reduceToNat, zipEnv, Int.reduceLE, Int.reduceLT, Int.reduceNeg, BitVec.reduceEq, Int.reduceAdd, Int.reduceSub, Int.reduceMul, Nat.reduceLeDiff, Int.reduceEq, jD, this, e0, e1, e3, e5, decide_true, decide_false]
    exact .val _ rfl
  · have := hR true rfl
    simp only [↓amD, amU, Nat.reduceBEq, Nat.reduceAdd, Nat.reduceSub, Nat.reduceMul, Nat.reduceMod, Nat.reducePow, Nat.reduceLT, Nat.reduceDiv, Int.reduceToNat, BitVec.reduceToNat, zipEnv, Int.reduceLE, Int.reduceLT, Int.reduceNeg, BitVec.reduceEq, Int.reduceAdd, Int.reduceSub, Int.reduceMul, Nat.reduceLeDiff, Int.reduceEq, jD, this, e0, e1, e3, e5, decide_true, decide_false]
    exact .val _ rfl
  · have f1 := eq_false g1
    have f2 := eq_false g2
    have f3 := eq_false g3
    have := hR false (by unfold slotB; rw [decide_eq_false g1, decide_eq_false g2, decide_eq_false g3]; rfl)
    simp only [↓amD, amU, Nat.reduceBEq, Nat.reduceAdd, Nat.reduceSub, Nat.reduceMul, Nat.reduceMod, Nat.reducePow, Nat.reduceLT, Nat.reduceDiv, Int.reduceToNat, BitVec.reduceToNat, zipEnv, Int.reduceLE, Int.reduceLT, Int.reduceNeg, BitVec.reduceEq, Int.reduceAdd, Int.reduceSub, Int.reduceMul, Nat.reduceLeDiff, Int.reduceEq, jD, this, e0, e1, e3, e5, f1, f2, f3, decide_true, decide_false]
    exact .val _ rfl
theorem kRightJ (rows : Rows) (k : D → Rows → Prop) (s : JS) : kCall fRightJ rows k [jD s] = k (.raw (.bool (rightJ s))) rows := by
  refine (kCall_val (by simp [hasRefL, jD_ref]) (r := (.raw (.bool (rightJ s)), [])) ?_).trans ?_
  · rw [fRightJ, fn1_eq (rdOf_eq jD_inj s) rfl]
  · simp [shift, shiftRows]
theorem right_bd {s : JS} (h : rightJ s = true) : ∃ a t n : Nat, s.a = a ∧ s.t = (t : Int) - 1 ∧ s.n = n ∧ a ≤ 1 ∧ t ≤ 2 ∧ n ≤ 3 := by
  simp only [rightJ, slotB, Bool.and_eq_true, Bool.or_eq_true, decide_eq_true_eq] at h
  obtain ⟨⟨⟨h1, h2⟩, h3⟩, h4⟩ := h
  exact ⟨s.a.toNat, (s.t + 1).toNat, s.n.toNat, by omega, by omega, by omega, by omega, by omega, by omega⟩
def bctl : List (BitVec 8) := [66#8, 67#8, 84#8, 76#8]
def tailJ (s : JS) : List (BitVec 8) := [BitVec.ofInt 8 s.a, BitVec.ofInt 8 (s.t + 1), BitVec.ofInt 8 s.n, 0#8]
def preJ (s : JS) : List (BitVec 8) := bctl ++ (wordB s.q ++ tailJ s)
def bytesJ (s : JS) : List (BitVec 8) := preJ s ++ (sumS (preJ s)).take 20
theorem pre_len (s : JS) : (preJ s).length = 12 := rfl
theorem s20_len (p : List (BitVec 8)) : ((sumS p).take 20).length = 20 := by rw [List.length_take, sumS_len]; rfl
theorem bytes_len (s : JS) : (bytesJ s).length = 32 := by rw [bytesJ, List.length_append, pre_len, s20_len]
noncomputable def fBytesJ : Fn := fn1 (rdOf jD) (fun _ => true) fun s => bif rightJ s then outBs (bytesJ s) false else (.raw (.slice none 0 0), [])
theorem bytesj_ok (C : Ctx) (hC : CtxOK C P) (hr : C.fn 12 = some fRightJ) (hs : C.fn 28 = some fSum) : Meets C.glob P 10 (Fn.run fBytesJ) := by
  refine fn_meets (m_journal_State_Bytes C hC) fun ds rows r h => ?_
  obtain ⟨d, s, rfl, rfl, hd, hp, rfl⟩ := fn1_some h
  cases rdOf_some hd
  refine ⟨rfl, afun_mk rfl ?_⟩
  clear h hd hp
  unfold a_journal_State_Bytes r_journal_State_Bytes
  have kr := fun rows k => kRightJ rows k s
  cases hk : rightJ s
  · rw [hk] at kr
    simp only [↓amD, amU, Nat.reduceBEq, Nat.reduceAdd, Nat.reduceSub, Nat.reduceMul, Nat.reduceMod, Nat.reducePow, Nat.reduceLT, Nat.reduceDiv, Int.reduceToNat, BitVec.reduceToNat, zipEnv, Int.reduceLE, Int.reduceLT, Int.reduceNeg, BitVec.reduceEq, Int.reduceAdd, Int.reduceSub, Int.reduceMul, Nat.reduceLeDiff, Int.reduceEq, jD_fits, hr, kr, cond_false]
    exact .val _ rfl
  · rw [hk] at kr
    obtain ⟨a, t, n, ha, ht, hn, b1, b2, b3⟩ := right_bd hk
    have w : wz (s.t + 1) = s.t + 1 := wz_id (by omega)
    simp only [↓amD, amU, Nat.reduceBEq, Nat.reduceAdd, Nat.reduceSub, Nat.reduceMul, Nat.reduceMod, Nat.reducePow, Nat.reduceLT, Nat.reduceDiv, Int.reduceToNat, BitVec.reduceToNat, zipEnv, Int.reduceLE, Int.reduceLT, Int.reduceNeg, BitVec.reduceEq, Int.reduceAdd, Int.reduceSub, Int.reduceMul, Nat.reduceLeDiff, Int.reduceEq, lv_app0, lv_appk, set_app0, set_appk, List.append_assoc, List.append_nil, Nat.add_assoc, jD_fits, jD_g0, jD_g1, jD_g2, jD_g3, w, hr, kr, cond_true]
    have hpre : [D.raw (u8 66#8), D.raw (u8 67#8), D.raw (u8 84#8), D.raw (u8 76#8), .raw (u8 ((s.q >>> 24).setWidth 8)), .raw (u8 ((s.q >>> 16).setWidth 8)), .raw (u8 ((s.q >>> 8).setWidth 8)), .raw (u8 (s.q.setWidth 8)), .raw (u8 (BitVec.ofInt 8 s.a)), .raw (u8 (BitVec.ofInt 8 (s.t + 1))), .raw (u8 (BitVec.ofInt 8 s.n)), .raw (u8 0#8)] = bs (preJ s) := rfl
    rw [hpre]
    have pl : (bs (preJ s)).length = 12 := rfl
    have hfl : [preJ s].flatten = preJ s := by simp
    simp only [hs]
    refine Eq.mpr (kSum _ _ 4 1 _ _ [preJ s] rfl rfl (.cons (BsIn.own (l := preJ s) rfl 12 rfl) .nil) (by simp) (by rw [hfl, pre_len]; omega)) ?_
    rw [hfl]
    have hsl : (bs (sumS (preJ s))).length = 32 := by rw [bs_len, sumS_len]
    have hfin : bytesJ s = preJ s ++ (sumS (preJ s)).take 20 := rfl
    have hbl := bytes_len s
    have hp0 := pre_len s
    generalize bytesJ s = B at hfin hbl ⊢
    generalize preJ s = p at hfin hsl pl hp0 ⊢
    have e20 : (bs ((sumS p).take 20)).length = 20 := by rw [bs_len, s20_len]
    have t12 : p.take 12 = p := List.take_of_length_le (by omega)
    simp only [↓amD, amU, Nat.reduceBEq, Nat.reduceAdd, Nat.reduceSub, Nat.reduceMul, Nat.reduceMod, Nat.reducePow, Nat.reduceLT, Nat.reduceDiv, Int.reduceToNat, BitVec.reduceToNat, zipEnv, Int.reduceLE, Int.reduceLT, Int.reduceNeg, BitVec.reduceEq, Int.reduceAdd, Int.reduceSub, Int.reduceMul, Nat.reduceLeDiff, Int.reduceEq, hsl, el_sp, aggO_agg, List.drop_zero, bs_take, e20, t12, pl]
    rw [bs_app, ← hfin]
    have hO : outBs B false = (.sl L8 0 [] 0 32 false, [some ⟨L8, bs B⟩]) := by rw [outBs, hbl]
    rw [hO]
    exact .own L8 6 0 32 false false _ rfl rfl id
theorem kBytesJ (rows : Rows) (k : D → Rows → Prop) (s : JS) (h : rightJ s = true) : kCall fBytesJ rows k [jD s] = k (.sl L8 (0 + rows.length) [] 0 32 false) (rows ++ [some ⟨L8, bs (bytesJ s)⟩]) := by
  refine (kCall_val (by simp [hasRefL, jD_ref]) (r := outBs (bytesJ s) false) ?_).trans ?_
  · rw [fBytesJ, fn1_eq (rdOf_eq jD_inj s) rfl, h]; rfl
  · simp [outBs, shift, shiftRows, bytes_len, Sh.pure]
theorem kBytesN (rows : Rows) (k : D → Rows → Prop) (s : JS) (h : rightJ s = false) : kCall fBytesJ rows k [jD s] = k (.raw (.slice none 0 0)) rows := by
  refine (kCall_val (by simp [hasRefL, jD_ref]) (r := (.raw (.slice none 0 0), [])) ?_).trans ?_
  · rw [fBytesJ, fn1_eq (rdOf_eq jD_inj s) rfl, h]; rfl
  · simp [shift, shiftRows]
end Job
end Go.Am
