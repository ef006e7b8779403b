/- the journal: the law of torn pages -/
import Derived.Test.YtmicfjeedofokaaDoorJn10
namespace Go.Am
set_option linter.unusedSimpArgs false
set_option linter.unusedVariables false
attribute [local congr] bnd_congr kCond_congr kGd_congr kPick_congr kCall_congr kIdx_congr kSlice_congr kLoop_congr cond_congr' aBin_congr aBounds_congr aApp_congr aCopy_congr kFn_congr
namespace Job
open Go.Am.F
set_option maxRecDepth 10000
theorem opD_g1 (k : BitVec 8) (i : Nat) (d : D) : (opD k i d).get [1] = some (.raw (it (i : Int))) := rfl
theorem kPageJ {rows : Rows} {r m : Nat} {x : List (BitVec 8)} (h : FlAt rows r m x) (hx : x.length = 10240) (j : Nat) (hj : j < 40) {q : Nat} {ex : Bool} (hq : live rows q = some ⟨LI, [.raw (it (j : Int))]⟩) (k : D → Rows → Prop) :
    kCall fPages rows k [.ptr SF r [0], .sl LI q [] 0 1 ex] = k (.sl L8 rows.length [] 0 256 false) (rows ++ [some ⟨L8, bs (sub x (256 * j) 256)⟩]) := by
  obtain ⟨e, hv⟩ := h.view
  have := kPages hv (show x.length ≤ 1048576 by omega) (q := q) (ex := ex) (l := [(j : Int)]) hq (by simp) k
  have hP : errP (some (x, e)) (j : Int) = 0 := by simp only [errP]; rw [if_neg (by omega)]
  have hz : pgN (some (x, e)) [(j : Int)] [(j : Int)].length = sub x (256 * j) 256 := by
    show pgN (some (x, e)) [(j : Int)] (0 + 1) = _
    rw [pgN, List.getD_cons_zero, if_pos hP]
    simp [pgN, flDat]
  have hl : (sub x (256 * j) 256).length = 256 := sub_len (by omega)
  rw [hz, hl] at this
  simpa using this
theorem bytesAny {rows : Rows} (s : JS) {k : D → Rows → Prop} (h : ∀ d p L, Sl (rows ++ L) d p → p.length ≤ 32 → k d (rows ++ L)) : kCall fBytesJ rows k [jD s] := by
  cases hr : rightJ s
  · rw [kBytesN rows k s hr]
    have := h (.raw (.slice none 0 0)) [] [] (.inl (.inl ⟨rfl, rfl⟩)) (by simp)
    rwa [List.append_nil] at this
  · rw [kBytesJ rows k s hr]
    have hb := bytes_len s
    exact h _ (bytesJ s) _ (.inr ⟨_, _, by rw [hb], by rw [Nat.zero_add, lv_app0]; rfl⟩) (by omega)
theorem nextO_map (K : FV) (s : JS) (q : Nat) : (nextO K s q).map JO.D = [opD 1#8 (nextP K) (.raw (.slice none 0 0)), opD 2#8 (nextP K) (.sl L8 q [] 0 32 false)] := by
  rw [nextO]
  generalize nextP K = P
  generalize bytesJ (nextJ K s) = B
  rfl
theorem newX_keep {x : List (BitVec 8)} {P : Nat} (hi : 256 * P + 256 ≤ x.length) (p w : List (BitVec 8)) : (newX x P p w).length = x.length ∧ ∀ t, t < 256 * P ∨ 256 * P + 256 ≤ t → (newX x P p w).getD t 0#8 = x.getD t 0#8 :=
  ⟨newX_len _ _ _ _, fun t ht => newX_out x P p w hi t ht⟩
set_option maxHeartbeats 4000000 in
theorem torn_law (C0 C1 C : Ctx) (H : JR C0 C1 C) (hw : C.fn 8 = some fAwakeJ) (a b s : JS) (ms ws : List D) (hml : ms.length ≤ 9223372036854775807) (hms : ∀ d ∈ ms, ∃ b : List (BitVec 8), IsBs d b ∧ b.length ≤ 9223372036854775807) (hwl : ws.length ≤ 9223372036854775807) (hws : ∀ d ∈ ws, ∃ b : Bool, d = .raw (.bool b)) :
    afun C 5 r_law22_JournalTorn a_law22_JournalTorn [jD a, jD b, jD s, .lst .ref ms false, .lst (.leaf .bool) ws false] [] (fun d rows => d = .raw (.bool true)) := by
  refine afun_mk rfl ?_
  have hf := jD_fits
  unfold a_law22_JournalTorn r_law22_JournalTorn
  simp only [↓amD, amU, Nat.reduceBEq, Nat.reduceAdd, Nat.reduceSub, Nat.reduceMul, Nat.reduceMod, Nat.reducePow, Nat.reduceLT, Nat.reduceDiv, Int.reduceToNat, BitVec.reduceToNat, zipEnv, Int.reduceLE, Int.reduceLT, Int.reduceNeg, BitVec.reduceEq, Int.reduceAdd, Int.reduceSub, Int.reduceMul, Nat.reduceLeDiff, Int.reduceEq, lv_app0, lv_appk, set_app0, set_appk, List.append_assoc, List.append_nil, Nat.add_assoc, hw, kAwakeJ, hf, H.f.bytes]
  refine bytesAny a fun d p L1 s1 l1 => ?_
  simp only [↓amD, amU, Nat.reduceBEq, Nat.reduceAdd, Nat.reduceSub, Nat.reduceMul, Nat.reduceMod, Nat.reducePow, Nat.reduceLT, Nat.reduceDiv, Int.reduceToNat, BitVec.reduceToNat, zipEnv, Int.reduceLE, Int.reduceLT, Int.reduceNeg, BitVec.reduceEq, Int.reduceAdd, Int.reduceSub, Int.reduceMul, Nat.reduceLeDiff, Int.reduceEq, lv_app0, lv_appk, set_app0, set_appk, List.append_assoc, List.append_nil, Nat.add_assoc, hf, H.f.bytes]
  refine bytesAny b fun e q L2 s2 l2 => ?_
  have s1' := s1.keep (fun _ _ h => live_app h L2)
  simp only [↓amD, amU, Nat.reduceBEq, Nat.reduceAdd, Nat.reduceSub, Nat.reduceMul, Nat.reduceMod, Nat.reducePow, Nat.reduceLT, Nat.reduceDiv, Int.reduceToNat, BitVec.reduceToNat, zipEnv, Int.reduceLE, Int.reduceLT, Int.reduceNeg, BitVec.reduceEq, Int.reduceAdd, Int.reduceSub, Int.reduceMul, Nat.reduceLeDiff, Int.reduceEq, lv_app0, lv_appk, set_app0, set_appk, List.append_assoc, List.append_nil, Nat.add_assoc, hf, H.nl, H.rl]
  refine lay_run C0 H.l0 s1' s2 (by omega) (by omega) fun R1 r m x hx hM => ?_
  have h2 := hM.frame 2 ⟨SJ, [jD s]⟩ rfl
  have hm2 : 2 < m := by have := hM.hm; simp at this; omega
  have hF := hM.fl
  clear hM s1 s2 s1'
  simp only [↓amD, amU, Nat.reduceBEq, Nat.reduceAdd, Nat.reduceSub, Nat.reduceMul, Nat.reduceMod, Nat.reducePow, Nat.reduceLT, Nat.reduceDiv, Int.reduceToNat, BitVec.reduceToNat, zipEnv, Int.reduceLE, Int.reduceLT, Int.reduceNeg, BitVec.reduceEq, Int.reduceAdd, Int.reduceSub, Int.reduceMul, Nat.reduceLeDiff, Int.reduceEq, lv_app0, lv_appk, set_app0, set_appk, List.append_assoc, List.append_nil, Nat.add_assoc]
  refine kLoop_up ms.length (fun i env rows => has env [(34, .raw (it (i : Int))), (33, .raw (it (ms.length : Int))), (32, .lst .ref ms false), (4, .lst (.leaf .bool) ws false), (11, .ptr SF r [0]), (7, .ptr SJ 2 [0])] ∧ live rows 2 = some ⟨SJ, [jD s]⟩ ∧ ∃ x : List (BitVec 8), x.length = 10240 ∧ FlAt rows r m x) ?_ ?_ ⟨?_, h2, x, hx, hF⟩
  · clear hF hx h2 x
    rintro i hi env rows ⟨hh, h2, x, hx, hF⟩ R hR
    simp only [has] at hh
    have e0 : ((i : Int) < (ms.length : Int)) = True := eq_true (by omega)
    have e1 := wz_succ i (by omega)
    have b0 : ∀ n : Nat, ((0 : Int) ≤ (n : Int)) = True := fun n => eq_true (by omega)
    obtain ⟨d, hd⟩ : ∃ d, ms[i]? = some d := ⟨ms[i], List.getElem?_eq_getElem hi⟩
    obtain ⟨w0, hwb, hwl0⟩ := hms d (List.mem_of_getElem? hd)
    have hfit : d.fits .ref = true := by rcases hwb with ⟨rfl, _⟩ | ⟨e, rfl⟩ <;> rfl
    by_cases h8 : (8 : Int) ≤ (i : Int)
    · have e8 : ((8 : Int) ≤ (i : Int)) = True := eq_true h8
      simp only [↓amD, amU, Nat.reduceBEq, Nat.reduceAdd, Nat.reduceSub, Nat.reduceMul, Nat.reduceMod, Nat.reducePow, Nat.reduceLT, Nat.reduceDiv, Int.reduceToNat, BitVec.reduceToNat, zipEnv, Int.reduceLE, Int.reduceLT, Int.reduceNeg, BitVec.reduceEq, Int.reduceAdd, Int.reduceSub, Int.reduceMul, Nat.reduceLeDiff, Int.reduceEq, lv_app0, lv_appk, set_app0, set_appk, List.append_assoc, List.append_nil, Nat.add_assoc, hh, e0, e8, b0, hd, hfit]
    have e8 : ((8 : Int) ≤ (i : Int)) = False := eq_false h8
    have kb := fun k => kBytesF hF (by omega) k
    have kx := fun rs k r h => kRefJ rs k (.sl L8 r [] 0 x.length false) x (BsIn.own h _ rfl) (by omega)
    simp only [↓amD, amU, Nat.reduceBEq, Nat.reduceAdd, Nat.reduceSub, Nat.reduceMul, Nat.reduceMod, Nat.reducePow, Nat.reduceLT, Nat.reduceDiv, Int.reduceToNat, BitVec.reduceToNat, zipEnv, Int.reduceLE, Int.reduceLT, Int.reduceNeg, BitVec.reduceEq, Int.reduceAdd, Int.reduceSub, Int.reduceMul, Nat.reduceLeDiff, Int.reduceEq, lv_app0, lv_appk, set_app0, set_appk, List.append_assoc, List.append_nil, Nat.add_assoc, hh, e0, e1, e8, b0, hd, hfit, jD_mk, hf, H.f.bytesf, kb, H.f.rread]
    refine Eq.mpr (kx _ _ _ (by rw [lv_app0]; rfl)) ?_
    have h2A := fun L => live_app h2 L
    simp only [↓amD, amU, Nat.reduceBEq, Nat.reduceAdd, Nat.reduceSub, Nat.reduceMul, Nat.reduceMod, Nat.reducePow, Nat.reduceLT, Nat.reduceDiv, Int.reduceToNat, BitVec.reduceToNat, zipEnv, Int.reduceLE, Int.reduceLT, Int.reduceNeg, BitVec.reduceEq, Int.reduceAdd, Int.reduceSub, Int.reduceMul, Nat.reduceLeDiff, Int.reduceEq, lv_app0, lv_appk, set_app0, set_appk, List.append_assoc, List.append_nil, Nat.add_assoc, hh, jD_mk, hf, h2A, H.nn, H.rn]
    have hF2 := hF.push [some ⟨L8, bs x⟩, some ⟨SJ, [jD (refJ x).1]⟩]
    have l14 : live (rows ++ [some ⟨L8, bs x⟩, some ⟨SJ, [jD (refJ x).1]⟩]) (rows.length + 1) = some ⟨SJ, [jD (refJ x).1]⟩ := by rw [lv_appk]; rfl
    have l2 := h2A [some ⟨L8, bs x⟩, some ⟨SJ, [jD (refJ x).1]⟩]
    have lt1 := hF.lt
    generalize rows ++ [some ⟨L8, bs x⟩, some ⟨SJ, [jD (refJ x).1]⟩] = R2 at hF2 l14 l2 ⊢
    generalize rows.length = n1 at *
    refine nextA H hF2 (by omega) (by omega) s (fun h L => ?_) (fun h L ro q hro hq g1 g2 => ?_)
    · simp only [↓amD, amU, Nat.reduceBEq, Nat.reduceAdd, Nat.reduceSub, Nat.reduceMul, Nat.reduceMod, Nat.reducePow, Nat.reduceLT, Nat.reduceDiv, Int.reduceToNat, BitVec.reduceToNat, zipEnv, Int.reduceLE, Int.reduceLT, Int.reduceNeg, BitVec.reduceEq, Int.reduceAdd, Int.reduceSub, Int.reduceMul, Nat.reduceLeDiff, Int.reduceEq, lv_app0, lv_appk, set_app0, set_appk, List.append_assoc, List.append_nil, Nat.add_assoc, hh]
    · have l14' := live_app l14 L
      have l2' := live_app l2 L
      have lt2 := hF2.lt
      have l2A := fun L => live_app l2' L
      have l14A := fun L => live_app l14' L
      have kc := fun rows k => kCut rows k d w0 256 hwb hwl0 (by rw [List.length_take]; omega)
      have hwl1 : (w0.take (256 : Int).toNat).length ≤ 256 := by rw [List.length_take]; exact Nat.min_le_left _ _
      generalize w0.take (256 : Int).toNat = w1 at kc hwl1
      have e2 : ((2 : Int) = 2) = True := eq_true rfl
      have g1' : live (R2 ++ L) ro = some ⟨SOP, [opD 1#8 (nextP (K0 x)) (.raw (.slice none 0 0)), opD 2#8 (nextP (K0 x)) (.sl L8 q [] 0 32 false)]⟩ := by rw [← nextO_map (K0 x) s q]; exact g1
      have hi : 256 * nextP (K0 x) + 256 ≤ x.length := by rcases nextP_or (K0 x) with h | h <;> rw [h] <;> omega
      have h40 : nextP (K0 x) < 40 := by rcases nextP_or (K0 x) with h | h <;> rw [h] <;> omega
      have hjn := nextJ_ref (x := x) (by omega) s
      have hb := bytes_len (nextJ (K0 x) s)
      have hT := fun y => torn_pick (x := x) (y := y) (by omega)
      generalize bytesJ (nextJ (K0 x) s) = B at g2 hb
      generalize nextP (K0 x) = P at *
      have lP := fun L => live_app g1' L
      have lB := fun L => live_app g2 L
      generalize hR0 : R2 ++ L = R4 at *
      have hF4 : FlAt R4 r m x := by rw [← hR0]; exact hF2.push L
      have n4 : R2.length ≤ R4.length := by rw [← hR0, List.length_append]; omega
      have g1lt := live_lt g1'
      have g2lt := live_lt g2
      have l2lt := live_lt l2'
      have l14lt := live_lt l14'
      simp only [↓amD, amU, Nat.reduceBEq, Nat.reduceAdd, Nat.reduceSub, Nat.reduceMul, Nat.reduceMod, Nat.reducePow, Nat.reduceLT, Nat.reduceDiv, Int.reduceToNat, BitVec.reduceToNat, zipEnv, Int.reduceLE, Int.reduceLT, Int.reduceNeg, BitVec.reduceEq, Int.reduceAdd, Int.reduceSub, Int.reduceMul, Nat.reduceLeDiff, Int.reduceEq, lv_app0, lv_appk, set_app0, set_appk, List.append_assoc, List.append_nil, Nat.add_assoc, hh, e2, hf, l2', l14', l2A, l14A, jD_g0, jD_s0, H.f.cut, kc]
      -- the new state, and the mask
      have hF5 := hF4.push [some ⟨SJ, [jD ⟨(refJ x).1.q + 1#32, s.a, s.t, s.n⟩]⟩, some ⟨L8, bs w1⟩]
      have z17 : live (R4 ++ [some ⟨SJ, [jD ⟨(refJ x).1.q + 1#32, s.a, s.t, s.n⟩]⟩, some ⟨L8, bs w1⟩]) R4.length = some ⟨SJ, [jD ⟨(refJ x).1.q + 1#32, s.a, s.t, s.n⟩]⟩ := by rw [lv_app0]; rfl
      have z13 : live (R4 ++ [some ⟨SJ, [jD ⟨(refJ x).1.q + 1#32, s.a, s.t, s.n⟩]⟩, some ⟨L8, bs w1⟩]) (R4.length + 1) = some ⟨L8, bs w1⟩ := by rw [lv_appk]; rfl
      have z2 := l2A [some ⟨SJ, [jD ⟨(refJ x).1.q + 1#32, s.a, s.t, s.n⟩]⟩, some ⟨L8, bs w1⟩]
      have z14 := l14A [some ⟨SJ, [jD ⟨(refJ x).1.q + 1#32, s.a, s.t, s.n⟩]⟩, some ⟨L8, bs w1⟩]
      have zP := lP [some ⟨SJ, [jD ⟨(refJ x).1.q + 1#32, s.a, s.t, s.n⟩]⟩, some ⟨L8, bs w1⟩]
      have zB := lB [some ⟨SJ, [jD ⟨(refJ x).1.q + 1#32, s.a, s.t, s.n⟩]⟩, some ⟨L8, bs w1⟩]
      have lt5 := hF4.lt
      generalize R4 ++ [some ⟨SJ, [jD ⟨(refJ x).1.q + 1#32, s.a, s.t, s.n⟩]⟩, some ⟨L8, bs w1⟩] = R5 at *
      by_cases c : (i : Int) < (ws.length : Int)
      · have c1 : ((i : Int) < (ws.length : Int)) = True := eq_true c
        obtain ⟨bd, hbd⟩ : ∃ bd, ws[i]? = some bd := ⟨ws[i]'(by omega), List.getElem?_eq_getElem (by omega)⟩
        obtain ⟨dn, rfl⟩ := hws bd (List.mem_of_getElem? hbd)
        cases dn
        · simp only [↓amD, amU, Nat.reduceBEq, Nat.reduceAdd, Nat.reduceSub, Nat.reduceMul, Nat.reduceMod, Nat.reducePow, Nat.reduceLT, Nat.reduceDiv, Int.reduceToNat, BitVec.reduceToNat, zipEnv, Int.reduceLE, Int.reduceLT, Int.reduceNeg, BitVec.reduceEq, Int.reduceAdd, Int.reduceSub, Int.reduceMul, Nat.reduceLeDiff, Int.reduceEq, lv_app0, lv_appk, set_app0, set_appk, List.append_assoc, List.append_nil, Nat.add_assoc, hh, c1, b0, hbd, zP, H.nt, H.rt]
          obtain ⟨hyl, hout⟩ := newX_keep hi [] w1
          have hko : OpB R5 m 1#8 (.raw (.slice none 0 0)) [] := .er
          refine jtear_run C0 (w := w1) hF5 (by omega) (by omega) hko z13 (by omega) (by omega) (err_nil hi) H.f0.after H.f0.nT H.f0.rT fun R9 U9 => ?_
          have y2 := U9.frame _ _ z2 (by omega)
          have y14 := U9.frame _ _ z14 (by omega)
          have y17 := U9.frame _ _ z17 (by omega)
          have yP := U9.frame _ _ zP (by omega)
          have hF9 := U9.fl
          clear U9
          generalize newX x P [] w1 = y at hF9 hyl hout
          have hyT := hT y hyl hout
          have kb9 := fun k => kBytesF hF9 (by omega) k
          have kx9 := fun rs k r h => kRefJ rs k (.sl L8 r [] 0 y.length false) y (BsIn.own h _ rfl) (by omega)
          simp only [↓amD, amU, Nat.reduceBEq, Nat.reduceAdd, Nat.reduceSub, Nat.reduceMul, Nat.reduceMod, Nat.reducePow, Nat.reduceLT, Nat.reduceDiv, Int.reduceToNat, BitVec.reduceToNat, zipEnv, Int.reduceLE, Int.reduceLT, Int.reduceNeg, BitVec.reduceEq, Int.reduceAdd, Int.reduceSub, Int.reduceMul, Nat.reduceLeDiff, Int.reduceEq, lv_app0, lv_appk, set_app0, set_appk, List.append_assoc, List.append_nil, Nat.add_assoc, hh, jD_mk, hf, H.f.bytesf, kb9, H.f.rread]
          refine Eq.mpr (kx9 _ _ _ (by rw [lv_app0]; rfl)) ?_
          have y2A := fun L => live_app y2 L
          have y14A := fun L => live_app y14 L
          have y17A := fun L => live_app y17 L
          have yPA := fun L => live_app yP L
          have hF9A := fun L => hF9.push L
          by_cases d1 : (refJ y).1 = (refJ x).1
          · have d1' := decide_eq_true d1
            simp only [↓amD, amU, Nat.reduceBEq, Nat.reduceAdd, Nat.reduceSub, Nat.reduceMul, Nat.reduceMod, Nat.reducePow, Nat.reduceLT, Nat.reduceDiv, Int.reduceToNat, BitVec.reduceToNat, zipEnv, Int.reduceLE, Int.reduceLT, Int.reduceNeg, BitVec.reduceEq, Int.reduceAdd, Int.reduceSub, Int.reduceMul, Nat.reduceLeDiff, Int.reduceEq, lv_app0, lv_appk, set_app0, set_appk, List.append_assoc, List.append_nil, Nat.add_assoc, hh, jD_mk, hf, y14A, y17A, eqA_jD, d1']
            exact hR _ _ ⟨by simp only [has, ↓amD, amU, Nat.reduceBEq, Nat.reduceAdd, Nat.reduceSub, Nat.reduceMul, Nat.reduceMod, Nat.reducePow, Nat.reduceLT, Nat.reduceDiv, Int.reduceToNat, BitVec.reduceToNat, zipEnv, Int.reduceLE, Int.reduceLT, Int.reduceNeg, BitVec.reduceEq, Int.reduceAdd, Int.reduceSub, Int.reduceMul, Nat.reduceLeDiff, Int.reduceEq, hh, e1], y2A _, y, by omega, hF9A _⟩
          · have d1' := decide_eq_false d1
            by_cases d2 : (refJ y).1 = ⟨(refJ x).1.q + 1#32, s.a, s.t, s.n⟩
            · have d2' := decide_eq_true d2
              simp only [↓amD, amU, Nat.reduceBEq, Nat.reduceAdd, Nat.reduceSub, Nat.reduceMul, Nat.reduceMod, Nat.reducePow, Nat.reduceLT, Nat.reduceDiv, Int.reduceToNat, BitVec.reduceToNat, zipEnv, Int.reduceLE, Int.reduceLT, Int.reduceNeg, BitVec.reduceEq, Int.reduceAdd, Int.reduceSub, Int.reduceMul, Nat.reduceLeDiff, Int.reduceEq, lv_app0, lv_appk, set_app0, set_appk, List.append_assoc, List.append_nil, Nat.add_assoc, hh, jD_mk, hf, y14A, y17A, eqA_jD, d1', d2']
              exact hR _ _ ⟨by simp only [has, ↓amD, amU, Nat.reduceBEq, Nat.reduceAdd, Nat.reduceSub, Nat.reduceMul, Nat.reduceMod, Nat.reducePow, Nat.reduceLT, Nat.reduceDiv, Int.reduceToNat, BitVec.reduceToNat, zipEnv, Int.reduceLE, Int.reduceLT, Int.reduceNeg, BitVec.reduceEq, Int.reduceAdd, Int.reduceSub, Int.reduceMul, Nat.reduceLeDiff, Int.reduceEq, hh, e1], y2A _, y, by omega, hF9A _⟩
            · have d2' := decide_eq_false d2
              rcases hyT with ⟨hPn, hc | hc⟩
              · exact absurd hc d1
              have kpg := fun L q ex h k => kPageJ (hF9A L) (by omega) P h40 (q := q) (ex := ex) h k
              simp only [↓amD, amU, Nat.reduceBEq, Nat.reduceAdd, Nat.reduceSub, Nat.reduceMul, Nat.reduceMod, Nat.reducePow, Nat.reduceLT, Nat.reduceDiv, Int.reduceToNat, BitVec.reduceToNat, zipEnv, Int.reduceLE, Int.reduceLT, Int.reduceNeg, BitVec.reduceEq, Int.reduceAdd, Int.reduceSub, Int.reduceMul, Nat.reduceLeDiff, Int.reduceEq, lv_app0, lv_appk, set_app0, set_appk, List.append_assoc, List.append_nil, Nat.add_assoc, hh, jD_mk, hf, y14A, y17A, yPA, opD_g1, eqA_jD, d1', d2', H.f.pages]
              refine Eq.mpr (kpg _ _ _ (by rw [lv_appk]; rfl) _) ?_
              have hsl : (sub y (256 * P) 256).length = 256 := sub_len (by omega)
              have kp := fun rs q ex (h : live rs q = some ⟨L8, bs (sub y (256 * P) 256)⟩) k => kParseJ rs k (.sl L8 q [] 0 32 ex) (sub y (256 * P) 32) (by
                have := BsIn.sub (off := 0) (len := 32) (ex := ex) h (by omega)
                rw [List.drop_zero, ← sub_take _ _ _ _ (by omega)] at this
                exact this) (by rw [sub_len (by omega)]; omega)
              simp only [↓amD, amU, Nat.reduceBEq, Nat.reduceAdd, Nat.reduceSub, Nat.reduceMul, Nat.reduceMod, Nat.reducePow, Nat.reduceLT, Nat.reduceDiv, Int.reduceToNat, BitVec.reduceToNat, zipEnv, Int.reduceLE, Int.reduceLT, Int.reduceNeg, BitVec.reduceEq, Int.reduceAdd, Int.reduceSub, Int.reduceMul, Nat.reduceLeDiff, Int.reduceEq, lv_app0, lv_appk, set_app0, set_appk, List.append_assoc, List.append_nil, Nat.add_assoc, hh, hsl, H.f.rparse]
              refine Eq.mpr (kp _ _ _ (by rw [lv_appk]; rfl) _) ?_
              have hPn' : ((P : Int) = (refJ x).2) = False := eq_false hPn
              simp only [↓amD, amU, Nat.reduceBEq, Nat.reduceAdd, Nat.reduceSub, Nat.reduceMul, Nat.reduceMod, Nat.reducePow, Nat.reduceLT, Nat.reduceDiv, Int.reduceToNat, BitVec.reduceToNat, zipEnv, Int.reduceLE, Int.reduceLT, Int.reduceNeg, BitVec.reduceEq, Int.reduceAdd, Int.reduceSub, Int.reduceMul, Nat.reduceLeDiff, Int.reduceEq, lv_app0, lv_appk, set_app0, set_appk, List.append_assoc, List.append_nil, Nat.add_assoc, hh, jD_mk, hf, y14A, y17A, yPA, opD_g1, hc, eqA_j, hPn']
        · have hfo : (opD 1#8 P (.raw (.slice none 0 0))).fits SOP = true := OpB.fits (rows := []) (m := 0) .er P
          simp only [↓amD, amU, Nat.reduceBEq, Nat.reduceAdd, Nat.reduceSub, Nat.reduceMul, Nat.reduceMod, Nat.reducePow, Nat.reduceLT, Nat.reduceDiv, Int.reduceToNat, BitVec.reduceToNat, zipEnv, Int.reduceLE, Int.reduceLT, Int.reduceNeg, BitVec.reduceEq, Int.reduceAdd, Int.reduceSub, Int.reduceMul, Nat.reduceLeDiff, Int.reduceEq, lv_app0, lv_appk, set_app0, set_appk, List.append_assoc, List.append_nil, Nat.add_assoc, hh, c1, b0, hbd, zP, hfo, H.nd, H.rd]
          have lt5b := hF5.lt
          refine do_run C1 C0 (n := 1) (ops := [⟨1#8, P, .raw (.slice none 0 0), []⟩]) (hF5.push _) (by omega) (by rw [lv_app0]; rfl) (by omega) rfl (by omega) (fun j o ho => ?_) H.f0.after H.f0.nT H.f0.rT H.f1.all H.n1 H.r1 fun R6 U6 => ?_
          · match j with
            | 0 => cases ho; exact ⟨.er, hi, err_nil hi⟩
            | j + 1 => cases ho
          have hF6 : FlAt R6 r m (newX x P [] ff256) := U6.fl
          obtain ⟨hxl6, hout6⟩ := newX_keep hi [] ff256
          have her := erased hi
          have z2_ := U6.frame _ _ (live_app z2 _) (by omega)
          have z13_ := U6.frame _ _ (live_app z13 _) (by omega)
          have z14_ := U6.frame _ _ (live_app z14 _) (by omega)
          have z17_ := U6.frame _ _ (live_app z17 _) (by omega)
          have zP_ := U6.frame _ _ (live_app zP _) (by omega)
          have zB_ := U6.frame _ _ (live_app zB _) (by omega)
          clear U6
          generalize newX x P [] ff256 = x1 at hF6 hxl6 hout6 her
          obtain ⟨hyl1, hout1⟩ := newX_keep (x := x1) (P := P) (by omega) B w1
          have hyl := hyl1.trans hxl6
          have hout := fun t ht => (hout1 t ht).trans (hout6 t ht)
          simp only [↓amD, amU, Nat.reduceBEq, Nat.reduceAdd, Nat.reduceSub, Nat.reduceMul, Nat.reduceMod, Nat.reducePow, Nat.reduceLT, Nat.reduceDiv, Int.reduceToNat, BitVec.reduceToNat, zipEnv, Int.reduceLE, Int.reduceLT, Int.reduceNeg, BitVec.reduceEq, Int.reduceAdd, Int.reduceSub, Int.reduceMul, Nat.reduceLeDiff, Int.reduceEq, lv_app0, lv_appk, set_app0, set_appk, List.append_assoc, List.append_nil, Nat.add_assoc, hh, zP_, H.nt, H.rt]
          have hko : OpB R6 m 2#8 (.sl L8 q [] 0 32 false) B := by have h := OpB.wr (rows := R6) (m := m) q B false zB_ (by omega) (by omega) (by omega); rwa [hb] at h
          refine jtear_run C0 (w := w1) hF6 (by omega) (by omega) hko z13_ (by omega) (by omega) (err_wr (by omega) (by omega) her) H.f0.after H.f0.nT H.f0.rT fun R9 U9 => ?_
          have y2 := U9.frame _ _ z2_ (by omega)
          have y14 := U9.frame _ _ z14_ (by omega)
          have y17 := U9.frame _ _ z17_ (by omega)
          have yP := U9.frame _ _ zP_ (by omega)
          have hF9 := U9.fl
          clear U9
          generalize newX x1 P B w1 = y at hF9 hyl hout
          have hyT := hT y hyl hout
          have kb9 := fun k => kBytesF hF9 (by omega) k
          have kx9 := fun rs k r h => kRefJ rs k (.sl L8 r [] 0 y.length false) y (BsIn.own h _ rfl) (by omega)
          simp only [↓amD, amU, Nat.reduceBEq, Nat.reduceAdd, Nat.reduceSub, Nat.reduceMul, Nat.reduceMod, Nat.reducePow, Nat.reduceLT, Nat.reduceDiv, Int.reduceToNat, BitVec.reduceToNat, zipEnv, Int.reduceLE, Int.reduceLT, Int.reduceNeg, BitVec.reduceEq, Int.reduceAdd, Int.reduceSub, Int.reduceMul, Nat.reduceLeDiff, Int.reduceEq, lv_app0, lv_appk, set_app0, set_appk, List.append_assoc, List.append_nil, Nat.add_assoc, hh, jD_mk, hf, H.f.bytesf, kb9, H.f.rread]
          refine Eq.mpr (kx9 _ _ _ (by rw [lv_app0]; rfl)) ?_
          have y2A := fun L => live_app y2 L
          have y14A := fun L => live_app y14 L
          have y17A := fun L => live_app y17 L
          have yPA := fun L => live_app yP L
          have hF9A := fun L => hF9.push L
          by_cases d1 : (refJ y).1 = (refJ x).1
          · have d1' := decide_eq_true d1
            simp only [↓amD, amU, Nat.reduceBEq, Nat.reduceAdd, Nat.reduceSub, Nat.reduceMul, Nat.reduceMod, Nat.reducePow, Nat.reduceLT, Nat.reduceDiv, Int.reduceToNat, BitVec.reduceToNat, zipEnv, Int.reduceLE, Int.reduceLT, Int.reduceNeg, BitVec.reduceEq, Int.reduceAdd, Int.reduceSub, Int.reduceMul, Nat.reduceLeDiff, Int.reduceEq, lv_app0, lv_appk, set_app0, set_appk, List.append_assoc, List.append_nil, Nat.add_assoc, hh, jD_mk, hf, y14A, y17A, eqA_jD, d1']
            exact hR _ _ ⟨by simp only [has, ↓amD, amU, Nat.reduceBEq, Nat.reduceAdd, Nat.reduceSub, Nat.reduceMul, Nat.reduceMod, Nat.reducePow, Nat.reduceLT, Nat.reduceDiv, Int.reduceToNat, BitVec.reduceToNat, zipEnv, Int.reduceLE, Int.reduceLT, Int.reduceNeg, BitVec.reduceEq, Int.reduceAdd, Int.reduceSub, Int.reduceMul, Nat.reduceLeDiff, Int.reduceEq, hh, e1], y2A _, y, by omega, hF9A _⟩
          · have d1' := decide_eq_false d1
            by_cases d2 : (refJ y).1 = ⟨(refJ x).1.q + 1#32, s.a, s.t, s.n⟩
            · have d2' := decide_eq_true d2
              simp only [↓amD, amU, Nat.reduceBEq, Nat.reduceAdd, Nat.reduceSub, Nat.reduceMul, Nat.reduceMod, Nat.reducePow, Nat.reduceLT, Nat.reduceDiv, Int.reduceToNat, BitVec.reduceToNat, zipEnv, Int.reduceLE, Int.reduceLT, Int.reduceNeg, BitVec.reduceEq, Int.reduceAdd, Int.reduceSub, Int.reduceMul, Nat.reduceLeDiff, Int.reduceEq, lv_app0, lv_appk, set_app0, set_appk, List.append_assoc, List.append_nil, Nat.add_assoc, hh, jD_mk, hf, y14A, y17A, eqA_jD, d1', d2']
              exact hR _ _ ⟨by simp only [has, ↓amD, amU, Nat.reduceBEq, Nat.reduceAdd, Nat.reduceSub, Nat.reduceMul, Nat.reduceMod, Nat.reducePow, Nat.reduceLT, Nat.reduceDiv, Int.reduceToNat, BitVec.reduceToNat, zipEnv, Int.reduceLE, Int.reduceLT, Int.reduceNeg, BitVec.reduceEq, Int.reduceAdd, Int.reduceSub, Int.reduceMul, Nat.reduceLeDiff, Int.reduceEq, hh, e1], y2A _, y, by omega, hF9A _⟩
            · have d2' := decide_eq_false d2
              rcases hyT with ⟨hPn, hc | hc⟩
              · exact absurd hc d1
              have kpg := fun L q ex h k => kPageJ (hF9A L) (by omega) P h40 (q := q) (ex := ex) h k
              simp only [↓amD, amU, Nat.reduceBEq, Nat.reduceAdd, Nat.reduceSub, Nat.reduceMul, Nat.reduceMod, Nat.reducePow, Nat.reduceLT, Nat.reduceDiv, Int.reduceToNat, BitVec.reduceToNat, zipEnv, Int.reduceLE, Int.reduceLT, Int.reduceNeg, BitVec.reduceEq, Int.reduceAdd, Int.reduceSub, Int.reduceMul, Nat.reduceLeDiff, Int.reduceEq, lv_app0, lv_appk, set_app0, set_appk, List.append_assoc, List.append_nil, Nat.add_assoc, hh, jD_mk, hf, y14A, y17A, yPA, opD_g1, eqA_jD, d1', d2', H.f.pages]
              refine Eq.mpr (kpg _ _ _ (by rw [lv_appk]; rfl) _) ?_
              have hsl : (sub y (256 * P) 256).length = 256 := sub_len (by omega)
              have kp := fun rs q ex (h : live rs q = some ⟨L8, bs (sub y (256 * P) 256)⟩) k => kParseJ rs k (.sl L8 q [] 0 32 ex) (sub y (256 * P) 32) (by
                have := BsIn.sub (off := 0) (len := 32) (ex := ex) h (by omega)
                rw [List.drop_zero, ← sub_take _ _ _ _ (by omega)] at this
                exact this) (by rw [sub_len (by omega)]; omega)
              simp only [↓amD, amU, Nat.reduceBEq, Nat.reduceAdd, Nat.reduceSub, Nat.reduceMul, Nat.reduceMod, Nat.reducePow, Nat.reduceLT, Nat.reduceDiv, Int.reduceToNat, BitVec.reduceToNat, zipEnv, Int.reduceLE, Int.reduceLT, Int.reduceNeg, BitVec.reduceEq, Int.reduceAdd, Int.reduceSub, Int.reduceMul, Nat.reduceLeDiff, Int.reduceEq, lv_app0, lv_appk, set_app0, set_appk, List.append_assoc, List.append_nil, Nat.add_assoc, hh, hsl, H.f.rparse]
              refine Eq.mpr (kp _ _ _ (by rw [lv_appk]; rfl) _) ?_
              have hPn' : ((P : Int) = (refJ x).2) = False := eq_false hPn
              simp only [↓amD, amU, Nat.reduceBEq, Nat.reduceAdd, Nat.reduceSub, Nat.reduceMul, Nat.reduceMod, Nat.reducePow, Nat.reduceLT, Nat.reduceDiv, Int.reduceToNat, BitVec.reduceToNat, zipEnv, Int.reduceLE, Int.reduceLT, Int.reduceNeg, BitVec.reduceEq, Int.reduceAdd, Int.reduceSub, Int.reduceMul, Nat.reduceLeDiff, Int.reduceEq, lv_app0, lv_appk, set_app0, set_appk, List.append_assoc, List.append_nil, Nat.add_assoc, hh, jD_mk, hf, y14A, y17A, yPA, opD_g1, hc, eqA_j, hPn']
      · have c1 : ((i : Int) < (ws.length : Int)) = False := eq_false c
        simp only [↓amD, amU, Nat.reduceBEq, Nat.reduceAdd, Nat.reduceSub, Nat.reduceMul, Nat.reduceMod, Nat.reducePow, Nat.reduceLT, Nat.reduceDiv, Int.reduceToNat, BitVec.reduceToNat, zipEnv, Int.reduceLE, Int.reduceLT, Int.reduceNeg, BitVec.reduceEq, Int.reduceAdd, Int.reduceSub, Int.reduceMul, Nat.reduceLeDiff, Int.reduceEq, lv_app0, lv_appk, set_app0, set_appk, List.append_assoc, List.append_nil, Nat.add_assoc, hh, c1, b0, zP, H.nt, H.rt]
        obtain ⟨hyl, hout⟩ := newX_keep hi [] w1
        have hko : OpB R5 m 1#8 (.raw (.slice none 0 0)) [] := .er
        refine jtear_run C0 (w := w1) hF5 (by omega) (by omega) hko z13 (by omega) (by omega) (err_nil hi) H.f0.after H.f0.nT H.f0.rT fun R9 U9 => ?_
        have y2 := U9.frame _ _ z2 (by omega)
        have y14 := U9.frame _ _ z14 (by omega)
        have y17 := U9.frame _ _ z17 (by omega)
        have yP := U9.frame _ _ zP (by omega)
        have hF9 := U9.fl
        clear U9
        generalize newX x P [] w1 = y at hF9 hyl hout
        have hyT := hT y hyl hout
        have kb9 := fun k => kBytesF hF9 (by omega) k
        have kx9 := fun rs k r h => kRefJ rs k (.sl L8 r [] 0 y.length false) y (BsIn.own h _ rfl) (by omega)
        simp only [↓amD, amU, Nat.reduceBEq, Nat.reduceAdd, Nat.reduceSub, Nat.reduceMul, Nat.reduceMod, Nat.reducePow, Nat.reduceLT, Nat.reduceDiv, Int.reduceToNat, BitVec.reduceToNat, zipEnv, Int.reduceLE, Int.reduceLT, Int.reduceNeg, BitVec.reduceEq, Int.reduceAdd, Int.reduceSub, Int.reduceMul, Nat.reduceLeDiff, Int.reduceEq, lv_app0, lv_appk, set_app0, set_appk, List.append_assoc, List.append_nil, Nat.add_assoc, hh, jD_mk, hf, H.f.bytesf, kb9, H.f.rread]
        refine Eq.mpr (kx9 _ _ _ (by rw [lv_app0]; rfl)) ?_
        have y2A := fun L => live_app y2 L
        have y14A := fun L => live_app y14 L
        have y17A := fun L => live_app y17 L
        have yPA := fun L => live_app yP L
        have hF9A := fun L => hF9.push L
        by_cases d1 : (refJ y).1 = (refJ x).1
        · have d1' := decide_eq_true d1
          simp only [↓amD, amU, Nat.reduceBEq, Nat.reduceAdd, Nat.reduceSub, Nat.reduceMul, Nat.reduceMod, Nat.reducePow, Nat.reduceLT, Nat.reduceDiv, Int.reduceToNat, BitVec.reduceToNat, zipEnv, Int.reduceLE, Int.reduceLT, Int.reduceNeg, BitVec.reduceEq, Int.reduceAdd, Int.reduceSub, Int.reduceMul, Nat.reduceLeDiff, Int.reduceEq, lv_app0, lv_appk, set_app0, set_appk, List.append_assoc, List.append_nil, Nat.add_assoc, hh, jD_mk, hf, y14A, y17A, eqA_jD, d1']
          exact hR _ _ ⟨by simp only [has, ↓amD, amU, Nat.reduceBEq, Nat.reduceAdd, Nat.reduceSub, Nat.reduceMul, Nat.reduceMod, Nat.reducePow, Nat.reduceLT, Nat.reduceDiv, Int.reduceToNat, BitVec.reduceToNat, zipEnv, Int.reduceLE, Int.reduceLT, Int.reduceNeg, BitVec.reduceEq, Int.reduceAdd, Int.reduceSub, Int.reduceMul, Nat.reduceLeDiff, Int.reduceEq, hh, e1], y2A _, y, by omega, hF9A _⟩
        · have d1' := decide_eq_false d1
          by_cases d2 : (refJ y).1 = ⟨(refJ x).1.q + 1#32, s.a, s.t, s.n⟩
          · have d2' := decide_eq_true d2
            simp only [↓amD, amU, Nat.reduceBEq, Nat.reduceAdd, Nat.reduceSub, Nat.reduceMul, Nat.reduceMod, Nat.reducePow, Nat.reduceLT, Nat.reduceDiv, Int.reduceToNat, BitVec.reduceToNat, zipEnv, Int.reduceLE, Int.reduceLT, Int.reduceNeg, BitVec.reduceEq, Int.reduceAdd, Int.reduceSub, Int.reduceMul, Nat.reduceLeDiff, Int.reduceEq, lv_app0, lv_appk, set_app0, set_appk, List.append_assoc, List.append_nil, Nat.add_assoc, hh, jD_mk, hf, y14A, y17A, eqA_jD, d1', d2']
            exact hR _ _ ⟨by simp only [has, ↓amD, amU, Nat.reduceBEq, Nat.reduceAdd, Nat.reduceSub, Nat.reduceMul, Nat.reduceMod, Nat.reducePow, Nat.reduceLT, Nat.reduceDiv, Int.reduceToNat, BitVec.reduceToNat, zipEnv, Int.reduceLE, Int.reduceLT, Int.reduceNeg, BitVec.reduceEq, Int.reduceAdd, Int.reduceSub, Int.reduceMul, Nat.reduceLeDiff, Int.reduceEq, hh, e1], y2A _, y, by omega, hF9A _⟩
          · have d2' := decide_eq_false d2
            rcases hyT with ⟨hPn, hc | hc⟩
            · exact absurd hc d1
            have kpg := fun L q ex h k => kPageJ (hF9A L) (by omega) P h40 (q := q) (ex := ex) h k
            simp only [↓amD, amU, Nat.reduceBEq, Nat.reduceAdd, Nat.reduceSub, Nat.reduceMul, Nat.reduceMod, Nat.reducePow, Nat.reduceLT, Nat.reduceDiv, Int.reduceToNat, BitVec.reduceToNat, zipEnv, Int.reduceLE, Int.reduceLT, Int.reduceNeg, BitVec.reduceEq, Int.reduceAdd, Int.reduceSub, Int.reduceMul, Nat.reduceLeDiff, Int.reduceEq, lv_app0, lv_appk, set_app0, set_appk, List.append_assoc, List.append_nil, Nat.add_assoc, hh, jD_mk, hf, y14A, y17A, yPA, opD_g1, eqA_jD, d1', d2', H.f.pages]
            refine Eq.mpr (kpg _ _ _ (by rw [lv_appk]; rfl) _) ?_
            have hsl : (sub y (256 * P) 256).length = 256 := sub_len (by omega)
            have kp := fun rs q ex (h : live rs q = some ⟨L8, bs (sub y (256 * P) 256)⟩) k => kParseJ rs k (.sl L8 q [] 0 32 ex) (sub y (256 * P) 32) (by
              have := BsIn.sub (off := 0) (len := 32) (ex := ex) h (by omega)
              rw [List.drop_zero, ← sub_take _ _ _ _ (by omega)] at this
              exact this) (by rw [sub_len (by omega)]; omega)
            simp only [↓amD, amU, Nat.reduceBEq, Nat.reduceAdd, Nat.reduceSub, Nat.reduceMul, Nat.reduceMod, Nat.reducePow, Nat.reduceLT, Nat.reduceDiv, Int.reduceToNat, BitVec.reduceToNat, zipEnv, Int.reduceLE, Int.reduceLT, Int.reduceNeg, BitVec.reduceEq, Int.reduceAdd, Int.reduceSub, Int.reduceMul, Nat.reduceLeDiff, Int.reduceEq, lv_app0, lv_appk, set_app0, set_appk, List.append_assoc, List.append_nil, Nat.add_assoc, hh, hsl, H.f.rparse]
            refine Eq.mpr (kp _ _ _ (by rw [lv_appk]; rfl) _) ?_
            have hPn' : ((P : Int) = (refJ x).2) = False := eq_false hPn
            simp only [↓amD, amU, Nat.reduceBEq, Nat.reduceAdd, Nat.reduceSub, Nat.reduceMul, Nat.reduceMod, Nat.reducePow, Nat.reduceLT, Nat.reduceDiv, Int.reduceToNat, BitVec.reduceToNat, zipEnv, Int.reduceLE, Int.reduceLT, Int.reduceNeg, BitVec.reduceEq, Int.reduceAdd, Int.reduceSub, Int.reduceMul, Nat.reduceLeDiff, Int.reduceEq, lv_app0, lv_appk, set_app0, set_appk, List.append_assoc, List.append_nil, Nat.add_assoc, hh, jD_mk, hf, y14A, y17A, yPA, opD_g1, hc, eqA_j, hPn']
  · rintro env rows ⟨hh, -⟩ R
    simp only [has] at hh
    have e0 : ((ms.length : Int) < (ms.length : Int)) = False := eq_false (by omega)
    simp only [↓amD, amU, Nat.reduceBEq, Nat.reduceAdd, Nat.reduceSub, Nat.reduceMul, Nat.reduceMod, Nat.reducePow, Nat.reduceLT, Nat.reduceDiv, Int.reduceToNat, BitVec.reduceToNat, zipEnv, Int.reduceLE, Int.reduceLT, Int.reduceNeg, BitVec.reduceEq, Int.reduceAdd, Int.reduceSub, Int.reduceMul, Nat.reduceLeDiff, Int.reduceEq, lv_app0, lv_appk, set_app0, set_appk, List.append_assoc, List.append_nil, Nat.add_assoc, hh, e0]
  · simp only [has, ↓amD, amU, Nat.reduceBEq, Nat.reduceAdd, Nat.reduceSub, Nat.reduceMul, Nat.reduceMod, Nat.reducePow, Nat.reduceLT, Nat.reduceDiv, Int.reduceToNat, BitVec.reduceToNat, zipEnv, Int.reduceLE, Int.reduceLT, Int.reduceNeg, BitVec.reduceEq, Int.reduceAdd, Int.reduceSub, Int.reduceMul, Nat.reduceLeDiff, Int.reduceEq]
end Job
end Go.Am
