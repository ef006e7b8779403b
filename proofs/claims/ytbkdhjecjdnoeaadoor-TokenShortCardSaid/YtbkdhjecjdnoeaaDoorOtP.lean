/- LM-OTS: types -/
import Derived.Test.YtbkdhjecjdnoeaaDoorCom
import Derived.Test.YtbkdhjecjdnoeaaDoorRd
import Derived.Test.YtbkdhjecjdnoeaaDoorRd5
namespace Go.Am
set_option linter.unusedSimpArgs false
set_option linter.unusedVariables false
attribute [local congr] bnd_congr kCond_congr kGd_congr kPick_congr kCall_congr kIdx_congr kSlice_congr kLoop_congr cond_congr' aBin_congr aBounds_congr aApp_congr aCopy_congr kFn_congr
namespace Job
open Go.Am.F
set_option maxRecDepth 10000
abbrev SPar : Sh := .cons LI (.cons LI (.cons LI .nil))
theorem u32_inj {x y : BitVec 32} (h : u32 x = u32 y) : x = y := by
  injection h with _ h
  exact BitVec.eq_of_toNat_eq (by omega)
theorem rdIn_d32 {rows : Rows} (x : List (BitVec 8)) : RdIn rows (rdOf d32D) (.agg (.ar 32 L8) (bs x)) x := RdIn.agg rfl (rdOf_eq d32D_inj x)
def wT (t : Nat) : Nat := if t = 1 then 1 else if t = 2 then 2 else if t = 3 then 4 else if t = 4 then 8 else 0
def pT (t : Nat) : Nat := if t = 1 then 265 else if t = 2 then 133 else if t = 3 then 67 else if t = 4 then 34 else 0
def lT (t : Nat) : Nat := if t = 1 then 7 else if t = 2 then 6 else if t = 3 then 4 else 0
def okT (t : Nat) : Bool := decide (1 ≤ t) && decide (t ≤ 4)
theorem okT_cases {t : BitVec 32} (h : okT t.toNat = true) : t = 1#32 ∨ t = 2#32 ∨ t = 3#32 ∨ t = 4#32 := by
  simp only [okT, Bool.and_eq_true, decide_eq_true_eq] at h
  have : t.toNat = 1 ∨ t.toNat = 2 ∨ t.toNat = 3 ∨ t.toNat = 4 := by omega
  rcases this with h | h | h | h
  · exact .inl (BitVec.eq_of_toNat_eq h)
  · exact .inr (.inl (BitVec.eq_of_toNat_eq h))
  · exact .inr (.inr (.inl (BitVec.eq_of_toNat_eq h)))
  · exact .inr (.inr (.inr (BitVec.eq_of_toNat_eq h)))
theorem okT_not {t : Nat} (h : okT t = false) : wT t = 0 ∧ pT t = 0 ∧ lT t = 0 := by
  simp only [okT, Bool.and_eq_false_iff, decide_eq_false_iff_not] at h
  refine ⟨?_, ?_, ?_⟩ <;> simp only [wT, pT, lT] <;> (repeat' split) <;> omega
structure Par where
  w : Nat
  p : Nat
  l : Nat
def parD (x : Par) : D := .agg SPar [.raw (it (x.w : Int)), .raw (it (x.p : Int)), .raw (it (x.l : Int))]
theorem it_injN {x y : Nat} (h : it (x : Int) = it (y : Int)) : x = y := by
  injection h with _ h; omega
theorem parD_inj (x y : Par) (h : parD x = parD y) : x = y := by
  obtain ⟨a, b, c⟩ := x
  obtain ⟨d, e, f⟩ := y
  simp only [parD, D.agg.injEq, List.cons.injEq, D.raw.injEq, true_and, and_true] at h
  rw [it_injN h.1, it_injN h.2.1, it_injN h.2.2]
theorem par_fits (x : Par) : (parD x).fits SPar = true := rfl
def parT (t : Nat) : Par := ⟨wT t, pT t, lT t⟩
theorem rdIn_par {rows : Rows} (x : Par) : RdIn rows (rdOf parD) (parD x) x := RdIn.agg rfl (rdOf_eq parD_inj x)
def typesD : D := .agg (.ar 4 SPar) [parD ⟨1, 265, 7⟩, parD ⟨2, 133, 6⟩, parD ⟨4, 67, 4⟩, parD ⟨8, 34, 0⟩]
def fParams : Fn := fn1 rd32 (fun _ => true) fun t => (.tup [parD (parT t.toNat), .raw (.bool (okT t.toNat))], [])
theorem params_ok (C : Ctx) (hC : CtxOK C P) (hg : C.glob 0 = some typesD) : Meets C.glob P 24 (Fn.run fParams) := by
  refine fn_meets (m_ots_Params C hC) fun ds rows r h => ?_
  obtain ⟨d, t, rfl, rfl, hd, hp, rfl⟩ := fn1_some h
  cases rd32_some hd
  refine ⟨rfl, afun_mk rfl ?_⟩
  clear h hd
  unfold a_ots_Params r_ots_Params
  have hz : D.agg SPar [.raw (it 0), .raw (it 0), .raw (it 0)] = parD ⟨0, 0, 0⟩ := rfl
  simp only [hz]
  cases hk : okT t.toNat
  · obtain ⟨hw, hp, hl⟩ := okT_not hk
    have e : parT t.toNat = ⟨0, 0, 0⟩ := by rw [parT, hw, hp, hl]
    rw [e]
    simp only [okT, Bool.and_eq_false_iff, decide_eq_false_iff_not] at hk
    have h32 := t.isLt
    by_cases c : t < 1#32
    · have c1 : (t < 1#32) = True := eq_true c
      simp only [↓amD, amU, Nat.reduceBEq, Nat.reduceAdd, Nat.reduceSub, Nat.reduceMul, Nat.reduceMod, Nat.reducePow, Nat.reduceLT, Nat.reduceDiv, Int.reduceToNat, BitVec.reduceToNat, zipEnv, Int.reduceLE, Int.reduceLT, Int.reduceNeg, BitVec.reduceEq, Int.reduceAdd, Int.reduceSub, Int.reduceMul, Nat.reduceLeDiff, Int.reduceEq, lv_app0, lv_appk, set_app0, set_appk, List.append_assoc, List.append_nil, Nat.add_assoc, par_fits, c1, decide_true]
      exact .val _ rfl
    · have c1 : (t < 1#32) = False := eq_false c
      have c2 : (4#32 < t) = True := eq_true (by
        rw [BitVec.lt_def] at c ⊢
        have e1 : (1#32).toNat = 1 := rfl
        have e4 : (4#32).toNat = 4 := rfl
        omega)
      simp only [↓amD, amU, Nat.reduceBEq, Nat.reduceAdd, Nat.reduceSub, Nat.reduceMul, Nat.reduceMod, Nat.reducePow, Nat.reduceLT, Nat.reduceDiv, Int.reduceToNat, BitVec.reduceToNat, zipEnv, Int.reduceLE, Int.reduceLT, Int.reduceNeg, BitVec.reduceEq, Int.reduceAdd, Int.reduceSub, Int.reduceMul, Nat.reduceLeDiff, Int.reduceEq, lv_app0, lv_appk, set_app0, set_appk, List.append_assoc, List.append_nil, Nat.add_assoc, par_fits, c1, c2, decide_true, decide_false]
      exact .val _ rfl
  · rcases okT_cases hk with rfl | rfl | rfl | rfl
    · simp only [↓amD, amU, Nat.reduceBEq, Nat.reduceAdd, Nat.reduceSub, Nat.reduceMul, Nat.reduceMod, Nat.reducePow, Nat.reduceLT, Nat.reduceDiv, Int.reduceToNat, BitVec.reduceToNat, zipEnv, Int.reduceLE, Int.reduceLT, Int.reduceNeg, BitVec.reduceEq, Int.reduceAdd, Int.reduceSub, Int.reduceMul, Nat.reduceLeDiff, Int.reduceEq, lv_app0, lv_appk, set_app0, set_appk, List.append_assoc, List.append_nil, Nat.add_assoc, par_fits, hg, typesD, BitVec.reduceLT, BitVec.reduceSub, BitVec.reduceToNat, decide_true, decide_false]
      exact .val _ rfl
    · simp only [↓amD, amU, Nat.reduceBEq, Nat.reduceAdd, Nat.reduceSub, Nat.reduceMul, Nat.reduceMod, Nat.reducePow, Nat.reduceLT, Nat.reduceDiv, Int.reduceToNat, BitVec.reduceToNat, zipEnv, Int.reduceLE, Int.reduceLT, Int.reduceNeg, BitVec.reduceEq, Int.reduceAdd, Int.reduceSub, Int.reduceMul, Nat.reduceLeDiff, Int.reduceEq, lv_app0, lv_appk, set_app0, set_appk, List.append_assoc, List.append_nil, Nat.add_assoc, par_fits, hg, typesD, BitVec.reduceLT, BitVec.reduceSub, BitVec.reduceToNat, decide_true, decide_false]
      exact .val _ rfl
    · simp only [↓amD, amU, Nat.reduceBEq, Nat.reduceAdd, Nat.reduceSub, Nat.reduceMul, Nat.reduceMod, Nat.reducePow, Nat.reduceLT, Nat.reduceDiv, Int.reduceToNat, BitVec.reduceToNat, zipEnv, Int.reduceLE, Int.reduceLT, Int.reduceNeg, BitVec.reduceEq, Int.reduceAdd, Int.reduceSub, Int.reduceMul, Nat.reduceLeDiff, Int.reduceEq, lv_app0, lv_appk, set_app0, set_appk, List.append_assoc, List.append_nil, Nat.add_assoc, par_fits, hg, typesD, BitVec.reduceLT, BitVec.reduceSub, BitVec.reduceToNat, decide_true, decide_false]
      exact .val _ rfl
    · simp only [↓amD, amU, Nat.reduceBEq, Nat.reduceAdd, Nat.reduceSub, Nat.reduceMul, Nat.reduceMod, Nat.reducePow, Nat.reduceLT, Nat.reduceDiv, Int.reduceToNat, BitVec.reduceToNat, zipEnv, Int.reduceLE, Int.reduceLT, Int.reduceNeg, BitVec.reduceEq, Int.reduceAdd, Int.reduceSub, Int.reduceMul, Nat.reduceLeDiff, Int.reduceEq, lv_app0, lv_appk, set_app0, set_appk, List.append_assoc, List.append_nil, Nat.add_assoc, par_fits, hg, typesD, BitVec.reduceLT, BitVec.reduceSub, BitVec.reduceToNat, decide_true, decide_false]
      exact .val _ rfl
theorem kParams (rows : Rows) (k : D → Rows → Prop) (t : BitVec 32) : kCall fParams rows k [.raw (u32 t)] = k (.tup [parD (parT t.toNat), .raw (.bool (okT t.toNat))]) rows := by
  refine (kCall_rd1 (RdIn.raw (rd32_eq t)) rfl rfl k).trans ?_
  simp [parD, shift, shiftL, shiftRows, Sh.pure]
end Job
end Go.Am
