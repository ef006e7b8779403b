/- the journal: what a flash tells -/
import Derived.Test.YtmicfjeedofokaaDoorFlA
import Derived.Test.YtmicfjeedofokaaDoorJn2
namespace Go.Am
set_option linter.unusedSimpArgs false
set_option linter.unusedVariables false
attribute [local congr] bnd_congr kCond_congr kGd_congr kPick_congr kCall_congr kIdx_congr kSlice_congr kLoop_congr cond_congr' aBin_congr aBounds_congr aApp_congr aCopy_congr kFn_congr
namespace Job
open Go.Am.F
set_option maxRecDepth 10000
def firstJ : JS := ⟨0#32, 0, -1, 0⟩
noncomputable def fFirst : Fn
  | [], [] => some (jD firstJ, [])
  | _, _ => none
theorem first_ok (C : Ctx) (hC : CtxOK C P) : Meets C.glob P 19 (Fn.run fFirst) := by
  refine fn_meets (m_journal_First C hC) fun ds rows r h => ?_
  unfold fFirst at h
  split at h
  · cases h
    refine ⟨rfl, afun_mk rfl ?_⟩
    unfold a_journal_First r_journal_First
    simp only [↓amD, amU, Nat.reduceBEq, Nat.reduceAdd, Nat.reduceSub, Nat.reduceMul, Nat.reduceMod, Nat.reducePow, Nat.reduceLT, Nat.reduceDiv, Int.reduceToNat, BitVec.reduceToNat, zipEnv, Int.reduceLE, Int.reduceLT, Int.reduceNeg, BitVec.reduceEq, Int.reduceAdd, Int.reduceSub, Int.reduceMul, Nat.reduceLeDiff, Int.reduceEq]
    exact .val _ rfl
  · cases h
theorem kFirst (rows : Rows) (k : D → Rows → Prop) : kCall fFirst rows k [] = k (jD firstJ) rows := by
  refine (kCall_val rfl (r := (jD firstJ, [])) rfl).trans ?_
  simp [jD_shift, shiftRows]
/-- one page more is read -/
def stepJ (K : FV) (i : Nat) (s : JS × Int) : JS × Int :=
  if errW K ((256 * i : Nat) : Int) 32 = 0 then
    (bif (parseJ (sub (flDat K) (256 * i) 32)).2 && (decide (s.2 = -1) || decide (s.1.q < (parseJ (sub (flDat K) (256 * i) 32)).1.q)) then ((parseJ (sub (flDat K) (256 * i) 32)).1, (i : Int)) else s)
  else s
def readJ (K : FV) : JS × Int := stepJ K 33 (stepJ K 32 (firstJ, -1))
noncomputable def fReadJ : Fn := fn1 (rdOf flD) (fun K => decide (flLen K ≤ 1048576)) fun K => (.tup [jD (readJ K).1, .raw (it (readJ K).2)], [])
def atJ (K : FV) : Nat → JS × Int
  | 0 => (firstJ, -1)
  | 1 => stepJ K 32 (firstJ, -1)
  | _ => readJ K
theorem u32_gt (x y : BitVec 32) (k : D → Prop) : aBin .gtr (u32 x) (u32 y) k = k (.raw (.bool (decide (y < x)))) := by
  have : (x.toNat : Int) > (y.toNat : Int) ↔ y < x := by rw [BitVec.lt_def]; omega
  simp only [aBin, u32]
  by_cases h : y < x
  · have := this.2 h
    simp [h, BitVec.lt_def.1 h]
  · have h2 : ¬ y.toNat < x.toNat := fun e => h (BitVec.lt_def.2 e)
    simp [h, h2]
set_option maxHeartbeats 2000000 in
theorem readj_ok (C : Ctx) (hC : CtxOK C P) (hf : C.fn 19 = some fFirst) (hr : C.fn 36 = some fRead) (hp : C.fn 16 = some fParseJ) : Meets C.glob P 22 (Fn.run fReadJ) := by
  refine fn_meets (m_journal_Read C hC) fun ds rows r h => ?_
  obtain ⟨d, K, rfl, rfl, hd, hp', rfl⟩ := fn1_some h
  cases rdOf_some hd
  simp only [decide_eq_true_eq] at hp'
  refine ⟨rfl, afun_mk rfl ?_⟩
  clear h hd
  unfold a_journal_Read r_journal_Read
  have hz : D.agg SJ [.raw (u32 0#32), .raw (it 0), .raw (it 0), .raw (it 0)] = jD zeroJ := rfl
  have hg : ∀ rs, FlIn rs (flD K) K := fun rs => flIn_c rs K
  have kr := fun rows (i : Nat) k => kRead (hg rows) hp' ((256 * i : Nat) : Int) 32 k
  generalize hkk : flD K = kk at kr ⊢
  simp only [↓amD, amU, Nat.reduceBEq, Nat.reduceAdd, Nat.reduceSub, Nat.reduceMul, Nat.reduceMod, Nat.reducePow, Nat.reduceLT, Nat.reduceDiv, Int.reduceToNat, BitVec.reduceToNat, zipEnv, Int.reduceLE, Int.reduceLT, Int.reduceNeg, BitVec.reduceEq, Int.reduceAdd, Int.reduceSub, Int.reduceMul, Nat.reduceLeDiff, Int.reduceEq, lv_app0, lv_appk, set_app0, set_appk, List.append_assoc, List.append_nil, Nat.add_assoc, hz, jD_fits, hf, kFirst]
  refine kLoop_up 2 (fun i env rows => has env [(6, .raw (it ((32 + i : Nat) : Int))), (5, .raw (it (atJ K i).2)), (4, .ptr SJ 1 [0]), (2, .ptr SJ 0 [0]), (0, kk)] ∧ live rows 1 = some ⟨SJ, [jD (atJ K i).1]⟩ ∧ ∃ x, live rows 0 = some ⟨SJ, [x]⟩) ?_ ?_ ?_
  · rintro i hi env rows ⟨hh, r1, ⟨x0, r0⟩⟩ R hR
    simp only [has] at hh
    have e0 : (((32 + i : Nat) : Int) < 34) = True := eq_true (by omega)
    have e1 : wz (256 * ((32 + i : Nat) : Int)) = ((256 * (32 + i) : Nat) : Int) := by rw [wz_id (by omega)]; omega
    have e2 : wz (((32 + i : Nat) : Int) + 1) = ((32 + (i + 1) : Nat) : Int) := by rw [wz_id (by omega)]; omega
    have hs : atJ K (i + 1) = stepJ K (32 + i) (atJ K i) := by
      have : i = 0 ∨ i = 1 := by omega
      rcases this with rfl | rfl <;> rfl
    have fin : ∀ env' rows', (has env' [(6, .raw (it ((32 + (i + 1) : Nat) : Int))), (5, .raw (it (atJ K (i + 1)).2)), (4, .ptr SJ 1 [0]), (2, .ptr SJ 0 [0]), (0, kk)] ∧ live rows' 1 = some ⟨SJ, [jD (atJ K (i + 1)).1]⟩ ∧ ∃ x, live rows' 0 = some ⟨SJ, [x]⟩) → R env' rows' := fun env' rows' h => hR env' rows' h
    rw [hs] at fin
    have kr' := kr rows (32 + i)
    by_cases c : errW K ((256 * (32 + i) : Nat) : Int) 32 = 0
    · rw [outR, if_pos c] at kr'
      have hsl : (sub (flDat K) (256 * (32 + i)) 32).length = 32 := by
        rcases K with _ | ⟨x, ex⟩
        · cases c
        · obtain ⟨b1, b2, b3, b4⟩ := errW_0 c
          exact sub_len (x := x) (by omega)
      have e32 : (32 : Int).toNat = 32 := rfl
      simp only [Int.toNat_natCast, e32, shift, shiftL, shiftRows, List.map_cons, List.map_nil, Sh.pure, cond_true, Nat.zero_add] at kr'
      simp only [stepJ, if_pos c] at fin
      generalize sub (flDat K) (256 * (32 + i)) 32 = p at kr' fin hsl
      generalize atJ K i = st at hh r1 fin
      have kp := fun k => kParseJ (rows ++ [some ⟨L8, bs p⟩]) k (.sl L8 rows.length [] 0 32 false) p (BsIn.own (by rw [lv_app0]; rfl) _ hsl.symm) (by omega)
      generalize parseJ p = qk at kp fin
      obtain ⟨q, ok⟩ := qk
      obtain ⟨s1, at1⟩ := st
      simp only at hh r1 fin kp
      have f1 := fun l => live_app r1 l
      have f0 := fun l => live_app r0 l
      have hw : ∀ rs, live rs 1 = some ⟨SJ, [jD s1]⟩ → live (rs.set 1 (some ⟨SJ, [jD q]⟩)) 1 = some ⟨SJ, [jD q]⟩ := fun rs h => live_set_eq h
      have hw0 : ∀ rs, live rs 0 = some ⟨SJ, [x0]⟩ → live (rs.set 1 (some ⟨SJ, [jD q]⟩)) 0 = some ⟨SJ, [x0]⟩ := fun rs h => live_set_o h (by decide)
      cases ok
      · simp only [Bool.false_and, cond_false] at fin
        simp only [↓amD, amU, Nat.reduceBEq, Nat.reduceAdd, Nat.reduceSub, Nat.reduceMul, Nat.reduceMod, Nat.reducePow, Nat.reduceLT, Nat.reduceDiv, Int.reduceToNat, BitVec.reduceToNat, zipEnv, Int.reduceLE, Int.reduceLT, Int.reduceNeg, BitVec.reduceEq, Int.reduceAdd, Int.reduceSub, Int.reduceMul, Nat.reduceLeDiff, Int.reduceEq, lv_app0, lv_appk, set_app0, set_appk, List.append_assoc, List.append_nil, Nat.add_assoc, hh, e0, e1, e2, hr, kr', hp, kp, jD_fits, f1]
        exact fin _ _ ⟨by simp only [has, ↓amD, amU, Nat.reduceBEq, Nat.reduceAdd, Nat.reduceSub, Nat.reduceMul, Nat.reduceMod, Nat.reducePow, Nat.reduceLT, Nat.reduceDiv, Int.reduceToNat, BitVec.reduceToNat, zipEnv, Int.reduceLE, Int.reduceLT, Int.reduceNeg, BitVec.reduceEq, Int.reduceAdd, Int.reduceSub, Int.reduceMul, Nat.reduceLeDiff, Int.reduceEq, hh], f1 _, _, f0 _⟩
      · simp only [Bool.true_and] at fin
        by_cases c2 : at1 = -1
        · have c3 : (at1 = -1) = True := eq_true c2
          simp only [c3, decide_true, Bool.true_or, cond_true] at fin
          simp only [↓amD, amU, Nat.reduceBEq, Nat.reduceAdd, Nat.reduceSub, Nat.reduceMul, Nat.reduceMod, Nat.reducePow, Nat.reduceLT, Nat.reduceDiv, Int.reduceToNat, BitVec.reduceToNat, zipEnv, Int.reduceLE, Int.reduceLT, Int.reduceNeg, BitVec.reduceEq, Int.reduceAdd, Int.reduceSub, Int.reduceMul, Nat.reduceLeDiff, Int.reduceEq, lv_app0, lv_appk, set_app0, set_appk, List.append_assoc, List.append_nil, Nat.add_assoc, hh, e0, e1, e2, hr, kr', hp, kp, jD_fits, f1, c3]
          exact fin _ _ ⟨by simp only [has, ↓amD, amU, Nat.reduceBEq, Nat.reduceAdd, Nat.reduceSub, Nat.reduceMul, Nat.reduceMod, Nat.reducePow, Nat.reduceLT, Nat.reduceDiv, Int.reduceToNat, BitVec.reduceToNat, zipEnv, Int.reduceLE, Int.reduceLT, Int.reduceNeg, BitVec.reduceEq, Int.reduceAdd, Int.reduceSub, Int.reduceMul, Nat.reduceLeDiff, Int.reduceEq, hh], hw _ (f1 _), _, hw0 _ (f0 _)⟩
        · have c3 : (at1 = -1) = False := eq_false c2
          by_cases c4 : s1.q < q.q
          · have c5 : (s1.q < q.q) = True := eq_true c4
            simp only [c3, c5, decide_true, decide_false, Bool.false_or, cond_true] at fin
            simp only [↓amD, amU, Nat.reduceBEq, Nat.reduceAdd, Nat.reduceSub, Nat.reduceMul, Nat.reduceMod, Nat.reducePow, Nat.reduceLT, Nat.reduceDiv, Int.reduceToNat, BitVec.reduceToNat, zipEnv, Int.reduceLE, Int.reduceLT, Int.reduceNeg, BitVec.reduceEq, Int.reduceAdd, Int.reduceSub, Int.reduceMul, Nat.reduceLeDiff, Int.reduceEq, lv_app0, lv_appk, set_app0, set_appk, List.append_assoc, List.append_nil, Nat.add_assoc, hh, e0, e1, e2, hr, kr', hp, kp, jD_fits, f1, c3, jD_g0, u32_gt, c5, decide_true]
            exact fin _ _ ⟨by simp only [has, ↓amD, amU, Nat.reduceBEq, Nat.reduceAdd, Nat.reduceSub, Nat.reduceMul, Nat.reduceMod, Nat.reducePow, Nat.reduceLT, Nat.reduceDiv, Int.reduceToNat, BitVec.reduceToNat, zipEnv, Int.reduceLE, Int.reduceLT, Int.reduceNeg, BitVec.reduceEq, Int.reduceAdd, Int.reduceSub, Int.reduceMul, Nat.reduceLeDiff, Int.reduceEq, hh], hw _ (f1 _), _, hw0 _ (f0 _)⟩
          · have c5 : (s1.q < q.q) = False := eq_false c4
            simp only [c3, c5, decide_false, Bool.false_or, cond_false] at fin
            simp only [↓amD, amU, Nat.reduceBEq, Nat.reduceAdd, Nat.reduceSub, Nat.reduceMul, Nat.reduceMod, Nat.reducePow, Nat.reduceLT, Nat.reduceDiv, Int.reduceToNat, BitVec.reduceToNat, zipEnv, Int.reduceLE, Int.reduceLT, Int.reduceNeg, BitVec.reduceEq, Int.reduceAdd, Int.reduceSub, Int.reduceMul, Nat.reduceLeDiff, Int.reduceEq, lv_app0, lv_appk, set_app0, set_appk, List.append_assoc, List.append_nil, Nat.add_assoc, hh, e0, e1, e2, hr, kr', hp, kp, jD_fits, f1, c3, jD_g0, u32_gt, c5, decide_false]
            exact fin _ _ ⟨by simp only [has, ↓amD, amU, Nat.reduceBEq, Nat.reduceAdd, Nat.reduceSub, Nat.reduceMul, Nat.reduceMod, Nat.reducePow, Nat.reduceLT, Nat.reduceDiv, Int.reduceToNat, BitVec.reduceToNat, zipEnv, Int.reduceLE, Int.reduceLT, Int.reduceNeg, BitVec.reduceEq, Int.reduceAdd, Int.reduceSub, Int.reduceMul, Nat.reduceLeDiff, Int.reduceEq, hh], f1 _, _, f0 _⟩
    · rw [outR, if_neg c] at kr'
      have c1 : (errW K ((256 * (32 + i) : Nat) : Int) 32 = 0) = False := eq_false c
      simp only [shift, shiftL, shiftRows] at kr'
      simp only [stepJ, if_neg c] at fin
      generalize atJ K i = st at hh r1 fin
      simp only [↓amD, amU, Nat.reduceBEq, Nat.reduceAdd, Nat.reduceSub, Nat.reduceMul, Nat.reduceMod, Nat.reducePow, Nat.reduceLT, Nat.reduceDiv, Int.reduceToNat, BitVec.reduceToNat, zipEnv, Int.reduceLE, Int.reduceLT, Int.reduceNeg, BitVec.reduceEq, Int.reduceAdd, Int.reduceSub, Int.reduceMul, Nat.reduceLeDiff, Int.reduceEq, lv_app0, lv_appk, set_app0, set_appk, List.append_assoc, List.append_nil, Nat.add_assoc, hh, e0, e1, e2, hr, kr', c1]
      exact fin _ _ ⟨by simp only [has, ↓amD, amU, Nat.reduceBEq, Nat.reduceAdd, Nat.reduceSub, Nat.reduceMul, Nat.reduceMod, Nat.reducePow, Nat.reduceLT, Nat.reduceDiv, Int.reduceToNat, BitVec.reduceToNat, zipEnv, Int.reduceLE, Int.reduceLT, Int.reduceNeg, BitVec.reduceEq, Int.reduceAdd, Int.reduceSub, Int.reduceMul, Nat.reduceLeDiff, Int.reduceEq, hh], r1, _, r0⟩
  · rintro env rows ⟨hh, r1, ⟨x0, r0⟩⟩ R
    simp only [has] at hh
    have hr2 : atJ K 2 = readJ K := rfl
    rw [hr2] at hh r1
    have e5 : live (rows.set 0 (some ⟨SJ, [jD (readJ K).1]⟩)) 0 = some ⟨SJ, [jD (readJ K).1]⟩ := live_set_eq r0
    simp only [↓amD, amU, Nat.reduceBEq, Nat.reduceAdd, Nat.reduceSub, Nat.reduceMul, Nat.reduceMod, Nat.reducePow, Nat.reduceLT, Nat.reduceDiv, Int.reduceToNat, BitVec.reduceToNat, zipEnv, Int.reduceLE, Int.reduceLT, Int.reduceNeg, BitVec.reduceEq, Int.reduceAdd, Int.reduceSub, Int.reduceMul, Nat.reduceLeDiff, Int.reduceEq, lv_app0, lv_appk, set_app0, set_appk, List.append_assoc, List.append_nil, Nat.add_assoc, hh, r1, r0, jD_fits, e5]
    exact .val _ rfl
  · have : atJ K 0 = (firstJ, -1) := rfl
    rw [this]
    exact ⟨by simp only [has, ↓amD, amU, Nat.reduceBEq, Nat.reduceAdd, Nat.reduceSub, Nat.reduceMul, Nat.reduceMod, Nat.reducePow, Nat.reduceLT, Nat.reduceDiv, Int.reduceToNat, BitVec.reduceToNat, zipEnv, Int.reduceLE, Int.reduceLT, Int.reduceNeg, BitVec.reduceEq, Int.reduceAdd, Int.reduceSub, Int.reduceMul, Nat.reduceLeDiff, Int.reduceEq], rfl, _, rfl⟩
theorem kReadJ {rows : Rows} {d : D} {K : FV} (h : FlIn rows d K) (hl : flLen K ≤ 1048576) (k : D → Rows → Prop) : kCall fReadJ rows k [d] = k (.tup [jD (readJ K).1, .raw (it (readJ K).2)]) rows := by
  refine (kCall_fl h (vs := []) rfl rfl (r := (.tup [jD (readJ K).1, .raw (it (readJ K).2)], [])) ?_ (by simp [jD, noLst, noLstL, noLstRows, Sh.pure]) k).trans ?_
  · simp only [fReadJ, fn1_ev, rdOf_eq flD_inj, Option.bind_some, hl, decide_true, cond_true]
  · simp [shift, shiftL, jD_shift, shiftRows]
/-- the document's -/
def refJ (x : List (BitVec 8)) : JS × Int :=
  if x.length < 8704 then (firstJ, -1) else
  bif (parseJ (sub x 8192 32)).2 && (!(parseJ (sub x 8448 32)).2 || decide ((parseJ (sub x 8448 32)).1.q ≤ (parseJ (sub x 8192 32)).1.q)) then ((parseJ (sub x 8192 32)).1, 32) else
  bif (parseJ (sub x 8448 32)).2 then ((parseJ (sub x 8448 32)).1, 33) else (firstJ, -1)
noncomputable def fRefJ : Fn := fn1 rdBs (fun p => Nat.ble p.length most) fun p => (.tup [jD (refJ p).1, .raw (it (refJ p).2)], [])
theorem u32_ge (x y : BitVec 32) (k : D → Prop) : aBin .geq (u32 x) (u32 y) k = k (.raw (.bool (decide (y ≤ x)))) := by
  simp only [aBin, u32]
  by_cases h : y ≤ x
  · simp [h, BitVec.le_def.1 h]
  · have h2 : ¬ y.toNat ≤ x.toNat := fun e => h (BitVec.le_def.2 e)
    simp [h, h2]
set_option maxHeartbeats 2000000 in
theorem refj_ok (C : Ctx) (hC : CtxOK C P) (hp : C.fn 17 = some fParseJ) : Meets C.glob P 25 (Fn.run fRefJ) := by
  refine fn_meetsN (m_ref22_Read C hC) fun ds rows r h => ?_
  obtain ⟨d, p, rfl, rfl, hd, hl, rfl⟩ := fn1_some h
  obtain ⟨x, hx⟩ := rdBs_nrm hd
  refine ⟨rfl, _, .cons hx .nil, afun_mk rfl ?_⟩
  simp only [Nat.ble_eq] at hl
  clear h hx hd
  unfold a_ref22_Read r_ref22_Read
  have hz : D.agg SJ [.raw (u32 0#32), .raw (it 0), .raw (it 0), .raw (it 0)] = jD zeroJ := rfl
  have hfst : D.agg SJ [.raw (u32 0#32), .raw (it 0), .raw (it (-1)), .raw (it 0)] = jD firstJ := rfl
  by_cases c : p.length < 8704
  · have c1 : ((p.length : Int) < 8704) = True := eq_true (by omega)
    have hr : refJ p = (firstJ, -1) := if_pos c
    rw [hr]
    simp only [↓amD, amU, Nat.reduceBEq, Nat.reduceAdd, Nat.reduceSub, Nat.reduceMul, Nat.reduceMod, Nat.reducePow, Nat.reduceLT, Nat.reduceDiv, Int.reduceToNat, BitVec.reduceToNat, zipEnv, Int.reduceLE, Int.reduceLT, Int.reduceNeg, BitVec.reduceEq, Int.reduceAdd, Int.reduceSub, Int.reduceMul, Nat.reduceLeDiff, Int.reduceEq, bs_len, c1, hz, hfst, jD_fits]
    exact .val _ rfl
  · have c1 : ((p.length : Int) < 8704) = False := eq_false (by omega)
    have c2 : (8224 : Int) ≤ (p.length : Int) := by omega
    have c3 : (8480 : Int) ≤ (p.length : Int) := by omega
    have hsa : ((p.drop 8192).take 32) = sub p 8192 32 := rfl
    have hsb : ((p.drop 8448).take 32) = sub p 8448 32 := rfl
    have la : (sub p 8192 32).length = 32 := sub_len (by omega)
    have lb : (sub p 8448 32).length = 32 := sub_len (by omega)
    have hr : refJ p = bif (parseJ (sub p 8192 32)).2 && (!(parseJ (sub p 8448 32)).2 || decide ((parseJ (sub p 8448 32)).1.q ≤ (parseJ (sub p 8192 32)).1.q)) then ((parseJ (sub p 8192 32)).1, 32) else
      bif (parseJ (sub p 8448 32)).2 then ((parseJ (sub p 8448 32)).1, 33) else (firstJ, -1) := if_neg c
    rw [hr]
    clear hr
    generalize sub p 8192 32 = pa at *
    generalize sub p 8448 32 = pb at *
    have ka := fun rows k e => kParseJ rows k (.lst L8 (bs pa) e) pa (IsBs.to (.inr ⟨e, rfl⟩)) (by omega)
    have kb := fun rows k e => kParseJ rows k (.lst L8 (bs pb) e) pb (IsBs.to (.inr ⟨e, rfl⟩)) (by omega)
    generalize parseJ pa = A at *
    generalize parseJ pb = B at *
    obtain ⟨a, x1⟩ := A
    obtain ⟨b, y1⟩ := B
    simp only at ka kb ⊢
    by_cases c5 : b.q ≤ a.q
    · have c6 : (b.q ≤ a.q) = True := eq_true c5
      cases x1 <;> cases y1 <;>
        (simp only [↓amD, amU, Nat.reduceBEq, Nat.reduceAdd, Nat.reduceSub, Nat.reduceMul, Nat.reduceMod, Nat.reducePow, Nat.reduceLT, Nat.reduceDiv, Int.reduceToNat, BitVec.reduceToNat, zipEnv, Int.reduceLE, Int.reduceLT, Int.reduceNeg, BitVec.reduceEq, Int.reduceAdd, Int.reduceSub, Int.reduceMul, Nat.reduceLeDiff, Int.reduceEq, bs_len, c1, c2, c3, bs_drop, bs_take, hsa, hsb, hz, hfst, jD_fits, hp, ka, kb, jD_g0, u32_ge, c6, decide_true]
         exact .val _ rfl)
    · have c6 : (b.q ≤ a.q) = False := eq_false c5
      cases x1 <;> cases y1 <;>
        (simp only [↓amD, amU, Nat.reduceBEq, Nat.reduceAdd, Nat.reduceSub, Nat.reduceMul, Nat.reduceMod, Nat.reducePow, Nat.reduceLT, Nat.reduceDiv, Int.reduceToNat, BitVec.reduceToNat, zipEnv, Int.reduceLE, Int.reduceLT, Int.reduceNeg, BitVec.reduceEq, Int.reduceAdd, Int.reduceSub, Int.reduceMul, Nat.reduceLeDiff, Int.reduceEq, bs_len, c1, c2, c3, bs_drop, bs_take, hsa, hsb, hz, hfst, jD_fits, hp, ka, kb, jD_g0, u32_ge, c6, decide_false]
         exact .val _ rfl)
theorem kRefJ (rows : Rows) (k : D → Rows → Prop) (d : D) (p : List (BitVec 8)) (h : BsIn rows d p) (hp : p.length ≤ 1099511627776) : kCall fRefJ rows k [d] = k (.tup [jD (refJ p).1, .raw (it (refJ p).2)]) rows := by
  refine (kCall_bs1 h (by simpa [most] using hp) ?_).trans ?_
  · simp [jD, noLst, noLstL, noLstRows, Sh.pure]
  · simp [shift, shiftL, jD_shift, shiftRows]
/-- of a flash that is there both tell the same -/
theorem read_ref (x : List (BitVec 8)) (e : Bool) (h : 8704 ≤ x.length) : readJ (some (x, e)) = refJ x := by
  have w1 : errW (some (x, e)) ((256 * 32 : Nat) : Int) 32 = 0 := by simp only [errW]; rw [if_neg (by omega)]
  have w2 : errW (some (x, e)) ((256 * 33 : Nat) : Int) 32 = 0 := by simp only [errW]; rw [if_neg (by omega)]
  unfold readJ stepJ refJ
  rw [if_pos w1, if_pos w2, if_neg (by omega)]
  show (bif (parseJ (sub x 8448 32)).2 && (decide ((bif (parseJ (sub x 8192 32)).2 && (decide ((-1 : Int) = -1) || decide (firstJ.q < (parseJ (sub x 8192 32)).1.q)) then ((parseJ (sub x 8192 32)).1, (32 : Int)) else (firstJ, -1)).2 = -1) || decide ((bif (parseJ (sub x 8192 32)).2 && (decide ((-1 : Int) = -1) || decide (firstJ.q < (parseJ (sub x 8192 32)).1.q)) then ((parseJ (sub x 8192 32)).1, (32 : Int)) else (firstJ, -1)).1.q < (parseJ (sub x 8448 32)).1.q)) then ((parseJ (sub x 8448 32)).1, (33 : Int)) else bif (parseJ (sub x 8192 32)).2 && (decide ((-1 : Int) = -1) || decide (firstJ.q < (parseJ (sub x 8192 32)).1.q)) then ((parseJ (sub x 8192 32)).1, (32 : Int)) else (firstJ, -1)) = _
  generalize parseJ (sub x 8192 32) = A
  generalize parseJ (sub x 8448 32) = B
  obtain ⟨a, x1⟩ := A
  obtain ⟨b, y1⟩ := B
  have hlt : decide (a.q < b.q) = !decide (b.q ≤ a.q) := by
    by_cases c : b.q ≤ a.q
    · rw [decide_eq_true c, decide_eq_false (by rw [BitVec.lt_def]; rw [BitVec.le_def] at c; omega)]; rfl
    · rw [decide_eq_false c, decide_eq_true (by rw [BitVec.lt_def]; rw [BitVec.le_def] at c; omega)]; rfl
  cases x1 <;> cases y1 <;> simp [hlt] <;> cases decide (b.q ≤ a.q) <;> simp
end Job
end Go.Am
