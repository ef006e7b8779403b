/- the journal: the law of the next state -/
import Derived.Test.YtmicfjeedofokaaDoorJn9
namespace Go.Am
set_option linter.unusedSimpArgs false
set_option linter.unusedVariables false
attribute [local congr] bnd_congr kCond_congr kGd_congr kPick_congr kCall_congr kIdx_congr kSlice_congr kLoop_congr cond_congr' aBin_congr aBounds_congr aApp_congr aCopy_congr kFn_congr
namespace Job
open Go.Am.F
set_option maxRecDepth 10000
theorem kSameEq {R : Rows} {qa qb off len : Nat} {x y : List (BitVec 8)} (hx : live R qa = some ⟨L8, bs x⟩) (hy : live R qb = some ⟨L8, bs y⟩) (hle : off + len ≤ x.length) (hl : y.length = x.length) (hs : x.length ≤ 1099511627776) (h : ∀ t, off ≤ t → t < off + len → y.getD t 0#8 = x.getD t 0#8) (e1 e2 : Bool) (k : D → Rows → Prop) :
    kCall fSame R k [.sl L8 qa [] off len e1, .sl L8 qb [] off len e2] = k (.raw (.bool true)) R := by
  have e := sub_congr off len hl h
  have hlen : (sub x off len).length ≤ 1099511627776 := by simp only [sub, List.length_take, List.length_drop]; omega
  rw [kSame R k _ _ (sub x off len) (sub y off len) (BsIn.sub hx hle) (BsIn.sub hy (by omega)) hlen (by rw [e]; exact hlen), e, decide_eq_true rfl]
set_option maxHeartbeats 4000000 in
theorem next_law (C0 C1 C : Ctx) (H : JR C0 C1 C) (hw : C.fn 8 = some fAwakeJ) (dp : D) (p0 : List (BitVec 8)) (hp : IsBs dp p0) (lp : p0.length ≤ 9223372036854775807) (a b s : JS) (have_ : BitVec 8) :
    afun C 5 r_law22_JournalNext a_law22_JournalNext [dp, jD a, jD b, jD s, .raw (u8 have_)] [] (fun d rows => d = .raw (.bool true)) := by
  refine afun_mk rfl ?_
  have hf := jD_fits
  -- behind both pages' bytes
  have key : ∀ env rows, (∃ d e p q, has env [(0, d), (11, e), (8, .ptr SJ 2 [0])] ∧ live rows 2 = some ⟨SJ, [jD s]⟩ ∧ Sl rows d p ∧ Sl rows e q ∧ p.length ≤ 9223372036854775807 ∧ q.length ≤ 9223372036854775807) →
      aw C (sndA (sndA (sndA (sndA (sndA a_law22_JournalNext))))) (kFin r_law22_JournalNext fun d rows => d = .raw (.bool true)) env rows := by
    rintro env rows ⟨d, e, p, q, hh, hs, s1, s2, l1, l2⟩
    simp only [has] at hh
    unfold a_law22_JournalNext r_law22_JournalNext
    simp only [sndA_seq]
    simp only [↓amD, amU, Nat.reduceBEq, Nat.reduceAdd, Nat.reduceSub, Nat.reduceMul, Nat.reduceMod, Nat.reducePow, Nat.reduceLT, Nat.reduceDiv, Int.reduceToNat, BitVec.reduceToNat, zipEnv, Int.reduceLE, Int.reduceLT, Int.reduceNeg, BitVec.reduceEq, Int.reduceAdd, Int.reduceSub, Int.reduceMul, Nat.reduceLeDiff, Int.reduceEq, lv_app0, lv_appk, set_app0, set_appk, List.append_assoc, List.append_nil, Nat.add_assoc, hh, H.nl, H.rl]
    refine lay_run C0 H.l0 s1 s2 l1 l2 fun R1 r m x hx hM => ?_
    have n20 := live_lt hs
    have ls := hM.frame 2 _ hs
    have lsA := fun L => live_app ls L
    have kb := fun k => kBytesF hM.fl (by omega) k
    have kx := fun rs k r h => kRefJ rs k (.sl L8 r [] 0 x.length false) x (BsIn.own h _ rfl) (by omega)
    simp only [↓amD, amU, Nat.reduceBEq, Nat.reduceAdd, Nat.reduceSub, Nat.reduceMul, Nat.reduceMod, Nat.reducePow, Nat.reduceLT, Nat.reduceDiv, Int.reduceToNat, BitVec.reduceToNat, zipEnv, Int.reduceLE, Int.reduceLT, Int.reduceNeg, BitVec.reduceEq, Int.reduceAdd, Int.reduceSub, Int.reduceMul, Nat.reduceLeDiff, Int.reduceEq, lv_app0, lv_appk, set_app0, set_appk, List.append_assoc, List.append_nil, Nat.add_assoc, jD_mk, hf, H.f.bytesf, kb, H.f.rread]
    refine Eq.mpr (kx _ _ _ (by rw [lv_app0]; rfl)) ?_
    simp only [↓amD, amU, Nat.reduceBEq, Nat.reduceAdd, Nat.reduceSub, Nat.reduceMul, Nat.reduceMod, Nat.reducePow, Nat.reduceLT, Nat.reduceDiv, Int.reduceToNat, BitVec.reduceToNat, zipEnv, Int.reduceLE, Int.reduceLT, Int.reduceNeg, BitVec.reduceEq, Int.reduceAdd, Int.reduceSub, Int.reduceMul, Nat.reduceLeDiff, Int.reduceEq, lv_app0, lv_appk, set_app0, set_appk, List.append_assoc, List.append_nil, Nat.add_assoc, hh, jD_mk, hf, lsA, H.nn, H.rn, List.append_assoc, List.cons_append, List.nil_append]
    have hF2 := hM.fl.push [some ⟨L8, bs x⟩, some ⟨SJ, [jD (refJ x).1]⟩]
    have l13 : live (R1 ++ [some ⟨L8, bs x⟩, some ⟨SJ, [jD (refJ x).1]⟩]) R1.length = some ⟨L8, bs x⟩ := by rw [lv_app0]; rfl
    have l14 : live (R1 ++ [some ⟨L8, bs x⟩, some ⟨SJ, [jD (refJ x).1]⟩]) (R1.length + 1) = some ⟨SJ, [jD (refJ x).1]⟩ := by rw [lv_appk]; rfl
    have l8 := lsA [some ⟨L8, bs x⟩, some ⟨SJ, [jD (refJ x).1]⟩]
    have lt1 := hM.fl.lt
    generalize R1 ++ [some ⟨L8, bs x⟩, some ⟨SJ, [jD (refJ x).1]⟩] = R2 at hF2 l13 l14 l8 ⊢
    generalize R1.length = n1 at *
    have kR := fun rows k => kRightJ rows k s
    have hB := nextB_ref (x := x) (by omega) s
    refine nextA H hF2 (by omega) (by omega) s (fun h L => ?_) (fun h L ro q hro hq g1 g2 => ?_)
    · have hB2 := hB.symm.trans h
      have l14' := live_app l14 L
      have l8' := live_app l8 L
      cases hr : rightJ s
      · rw [hr] at kR
        simp only [↓amD, amU, Nat.reduceBEq, Nat.reduceAdd, Nat.reduceSub, Nat.reduceMul, Nat.reduceMod, Nat.reducePow, Nat.reduceLT, Nat.reduceDiv, Int.reduceToNat, BitVec.reduceToNat, zipEnv, Int.reduceLE, Int.reduceLT, Int.reduceNeg, BitVec.reduceEq, Int.reduceAdd, Int.reduceSub, Int.reduceMul, Nat.reduceLeDiff, Int.reduceEq, lv_app0, lv_appk, set_app0, set_appk, List.append_assoc, List.append_nil, Nat.add_assoc, hh, hf, jD_g0, l8', l14', H.f.rright, kR]
      · rw [hr] at kR hB2
        have hq : (refJ x).1.q = 4294967295#32 := by
          by_cases c : (refJ x).1.q = 4294967295#32
          · exact c
          · rw [decide_eq_false c] at hB2; cases hB2
        have kq : ((refJ x).1.q = 4294967295#32) = True := eq_true hq
        simp only [↓amD, amU, Nat.reduceBEq, Nat.reduceAdd, Nat.reduceSub, Nat.reduceMul, Nat.reduceMod, Nat.reducePow, Nat.reduceLT, Nat.reduceDiv, Int.reduceToNat, BitVec.reduceToNat, zipEnv, Int.reduceLE, Int.reduceLT, Int.reduceNeg, BitVec.reduceEq, Int.reduceAdd, Int.reduceSub, Int.reduceMul, Nat.reduceLeDiff, Int.reduceEq, lv_app0, lv_appk, set_app0, set_appk, List.append_assoc, List.append_nil, Nat.add_assoc, hh, hf, jD_g0, l8', l14', H.f.rright, kR, u32_eq, kq, decide_true]
    · have hB2 := hB.symm.trans h
      have l14' := live_app l14 L
      have l13' := live_app l13 L
      have l8' := live_app l8 L
      have hr : rightJ s = true := by
        cases hr : rightJ s
        · rw [hr, Bool.and_false] at hB2; cases hB2
        · rfl
      have hq : ¬ (refJ x).1.q = 4294967295#32 := fun c => by rw [decide_eq_true c] at hB2; cases hB2
      have kq : ((refJ x).1.q = 4294967295#32) = False := eq_false hq
      rw [hr] at kR
      simp only [↓amD, amU, Nat.reduceBEq, Nat.reduceAdd, Nat.reduceSub, Nat.reduceMul, Nat.reduceMod, Nat.reducePow, Nat.reduceLT, Nat.reduceDiv, Int.reduceToNat, BitVec.reduceToNat, zipEnv, Int.reduceLE, Int.reduceLT, Int.reduceNeg, BitVec.reduceEq, Int.reduceAdd, Int.reduceSub, Int.reduceMul, Nat.reduceLeDiff, Int.reduceEq, lv_app0, lv_appk, set_app0, set_appk, List.append_assoc, List.append_nil, Nat.add_assoc, hh, hf, jD_g0, l8', l14', H.f.rright, kR, u32_eq, kq, decide_false, H.nd, H.rd]
      have lt2 := hF2.lt
      refine doA H s (hF2.push L) (by omega) (by omega) g1 (by omega) g2 (by omega) fun R3 U => ?_
      have l8'' := U.frame 2 _ l8' (by have := live_lt hs; have := hM.hm; omega)
      have l13'' := U.frame n1 _ l13' (by omega)
      have l14'' := U.frame (n1 + 1) _ l14' (by omega)
      have hy := next_ref (x := x) (e := false) (s := s) (q := q) (by omega) h
      have hyl := doX_len x (nextO (K0 x) s q)
      have hout := fun t => next_out (x := x) (K := K0 x) (s := s) (q := q) (by omega) t
      have hPr := nextP_ref (x := x) (by omega)
      rw [nextJ_ref (x := x) (by omega)] at hy
      have hF3 := U.fl
      generalize doX x (nextO (K0 x) s q) = y at hF3 hy hyl hout
      have kb2 := fun k => kBytesF hF3 (by omega) k
      have kx2 := fun rs k r h => kRefJ rs k (.sl L8 r [] 0 y.length false) y (BsIn.own h _ rfl) (by omega)
      simp only [↓amD, amU, Nat.reduceBEq, Nat.reduceAdd, Nat.reduceSub, Nat.reduceMul, Nat.reduceMod, Nat.reducePow, Nat.reduceLT, Nat.reduceDiv, Int.reduceToNat, BitVec.reduceToNat, zipEnv, Int.reduceLE, Int.reduceLT, Int.reduceNeg, BitVec.reduceEq, Int.reduceAdd, Int.reduceSub, Int.reduceMul, Nat.reduceLeDiff, Int.reduceEq, lv_app0, lv_appk, set_app0, set_appk, List.append_assoc, List.append_nil, Nat.add_assoc, hh, jD_mk, hf, H.f.bytesf, kb2, H.f.rread]
      refine Eq.mpr (kx2 _ _ _ (by rw [lv_app0]; rfl)) ?_
      rw [hy]
      have l8A := fun L => live_app l8'' L
      have l14A := fun L => live_app l14'' L
      simp only [↓amD, amU, Nat.reduceBEq, Nat.reduceAdd, Nat.reduceSub, Nat.reduceMul, Nat.reduceMod, Nat.reducePow, Nat.reduceLT, Nat.reduceDiv, Int.reduceToNat, BitVec.reduceToNat, zipEnv, Int.reduceLE, Int.reduceLT, Int.reduceNeg, BitVec.reduceEq, Int.reduceAdd, Int.reduceSub, Int.reduceMul, Nat.reduceLeDiff, Int.reduceEq, lv_app0, lv_appk, set_app0, set_appk, List.append_assoc, List.append_nil, Nat.add_assoc, hh, hf, jD_g0, jD_s0, l8A, l14A, jD_mk]
      have hlt3 := live_lt l8''
      have hlt4 := live_lt l13''
      obtain ⟨js, hjs⟩ : ∃ js : JS, js = ⟨(refJ x).1.q + 1#32, s.a, s.t, s.n⟩ := ⟨_, rfl⟩
      obtain ⟨Rz, hRz⟩ : ∃ Rz : Rows, Rz = R3 ++ [some ⟨L8, bs y⟩, some ⟨SJ, [jD js]⟩] := ⟨_, rfl⟩
      have z17 : live Rz R3.length = some ⟨L8, bs y⟩ := by rw [hRz, lv_app0]; rfl
      have z18 : live Rz (R3.length + 1) = some ⟨SJ, [jD js]⟩ := by rw [hRz, lv_appk]; rfl
      have z13 : live Rz n1 = some ⟨L8, bs x⟩ := by rw [hRz]; exact live_app l13'' _
      have z8 : live Rz 2 = some ⟨SJ, [jD s]⟩ := by rw [hRz]; exact live_app l8'' _
      have n21 : 2 ≠ n1 := by have := hM.hm; omega
      have r8 := live_set_eq (y := ⟨SJ, [jD js]⟩) z8
      have r13 := live_set_o (y := ⟨SJ, [jD js]⟩) z13 n21
      have r17 := live_set_o (y := ⟨SJ, [jD js]⟩) z17 (q := 2) (by omega)
      have r18 := live_set_o (y := ⟨SJ, [jD js]⟩) z18 (q := 2) (by omega)
      rw [← hjs, ← hRz]
      generalize Rz.set 2 (some ⟨SJ, [jD js]⟩) = R4 at *
      generalize R3.length = n3 at *
      by_cases c : (refJ x).2 = 32
      · have c1 : ((refJ x).2 = 32) = True := eq_true c
        have hP : nextP (K0 x) = 33 := by rw [hPr, if_pos c]
        rw [hP] at hout ⊢
        have ks1 := fun e1 e2 k => kSameEq (off := 0) (len := 8192) r13 r17 (by omega) hyl (by omega) (fun t _ h => hout t (by omega)) e1 e2 k
        have ks2 := fun e1 e2 k => kSameEq (off := 8704) (len := 1536) r13 r17 (by omega) hyl (by omega) (fun t h _ => hout t (by omega)) e1 e2 k
        have ks3 := fun e1 e2 k => kSameEq (off := 8192) (len := 256) r13 r17 (by omega) hyl (by omega) (fun t h h' => hout t (by omega)) e1 e2 k
        have hyl2 := hyl.trans hx
        have z1 : ((0 : Int) < 10240) = True := eq_true (by decide)
        simp only [↓amD, amU, Nat.reduceBEq, Nat.reduceAdd, Nat.reduceSub, Nat.reduceMul, Nat.reduceMod, Nat.reducePow, Nat.reduceLT, Nat.reduceDiv, Int.reduceToNat, BitVec.reduceToNat, zipEnv, Int.reduceLE, Int.reduceLT, Int.reduceNeg, BitVec.reduceEq, Int.reduceAdd, Int.reduceSub, Int.reduceMul, Nat.reduceLeDiff, Int.reduceEq, lv_app0, lv_appk, set_app0, set_appk, List.append_assoc, List.append_nil, Nat.add_assoc, hh, hf, r8, r13, r17, r18, eqA_j, c1, jD_mk, hx, hyl2, H.f.same, ks1, ks2, ks3]
      · have c1 : ((refJ x).2 = 32) = False := eq_false c
        have hP : nextP (K0 x) = 32 := by rw [hPr, if_neg c]
        rw [hP] at hout ⊢
        have ks1 := fun e1 e2 k => kSameEq (off := 0) (len := 8192) r13 r17 (by omega) hyl (by omega) (fun t _ h => hout t (by omega)) e1 e2 k
        have ks2 := fun e1 e2 k => kSameEq (off := 8704) (len := 1536) r13 r17 (by omega) hyl (by omega) (fun t h _ => hout t (by omega)) e1 e2 k
        have ks3 := fun e1 e2 k => kSameEq (off := 8448) (len := 256) r13 r17 (by omega) hyl (by omega) (fun t h h' => hout t (by omega)) e1 e2 k
        have hyl2 := hyl.trans hx
        have z1 : ((0 : Int) < 10240) = True := eq_true (by decide)
        simp only [↓amD, amU, Nat.reduceBEq, Nat.reduceAdd, Nat.reduceSub, Nat.reduceMul, Nat.reduceMod, Nat.reducePow, Nat.reduceLT, Nat.reduceDiv, Int.reduceToNat, BitVec.reduceToNat, zipEnv, Int.reduceLE, Int.reduceLT, Int.reduceNeg, BitVec.reduceEq, Int.reduceAdd, Int.reduceSub, Int.reduceMul, Nat.reduceLeDiff, Int.reduceEq, lv_app0, lv_appk, set_app0, set_appk, List.append_assoc, List.append_nil, Nat.add_assoc, hh, hf, r8, r13, r17, r18, eqA_j, c1, jD_mk, hx, hyl2, H.f.same, ks1, ks2, ks3]
  obtain ⟨c, hc⟩ : ∃ c, c = sndA (sndA (sndA (sndA (sndA a_law22_JournalNext)))) := ⟨_, rfl⟩
  rw [← hc] at key
  have ha : a_law22_JournalNext = .seq (fstA a_law22_JournalNext) (.seq (fstA (sndA a_law22_JournalNext)) (.seq (fstA (sndA (sndA a_law22_JournalNext))) (.seq (fstA (sndA (sndA (sndA a_law22_JournalNext)))) (.seq (fstA (sndA (sndA (sndA (sndA a_law22_JournalNext))))) c)))) := by rw [hc]; rfl
  rw [ha]
  clear ha hc
  unfold a_law22_JournalNext
  simp only [fstA_seq, sndA_seq]
  have ja := bytes_len a
  have jb := bytes_len b
  by_cases c1 : have_ % 2#8 = 1#8
  · have c1' : (have_ % 2#8 = 1#8) = True := eq_true c1
    cases ha : rightJ a
    · have kb := fun rows k => kBytesN rows k a ha
      simp only [↓amD, amU, Nat.reduceBEq, Nat.reduceAdd, Nat.reduceSub, Nat.reduceMul, Nat.reduceMod, Nat.reducePow, Nat.reduceLT, Nat.reduceDiv, Int.reduceToNat, BitVec.reduceToNat, zipEnv, Int.reduceLE, Int.reduceLT, Int.reduceNeg, BitVec.reduceEq, Int.reduceAdd, Int.reduceSub, Int.reduceMul, Nat.reduceLeDiff, Int.reduceEq, hw, kAwakeJ, c1', hf, H.f.bytes, kb]
      by_cases c2 : have_ / 2#8 % 2#8 = 1#8
      · have c2' : (have_ / 2#8 % 2#8 = 1#8) = True := eq_true c2
        cases hb : rightJ b
        · have kb := fun rows k => kBytesN rows k b hb
          simp only [↓amD, amU, Nat.reduceBEq, Nat.reduceAdd, Nat.reduceSub, Nat.reduceMul, Nat.reduceMod, Nat.reducePow, Nat.reduceLT, Nat.reduceDiv, Int.reduceToNat, BitVec.reduceToNat, zipEnv, Int.reduceLE, Int.reduceLT, Int.reduceNeg, BitVec.reduceEq, Int.reduceAdd, Int.reduceSub, Int.reduceMul, Nat.reduceLeDiff, Int.reduceEq, c2', hf, H.f.bytes, kb]
          exact key _ _ ⟨_, _, [], [], ⟨rfl, rfl, rfl, trivial⟩, rfl, .inl (.inl ⟨rfl, rfl⟩), .inl (.inl ⟨rfl, rfl⟩), by simp, by simp⟩
        · have kb := fun rows k => kBytesJ rows k b hb
          simp only [↓amD, amU, Nat.reduceBEq, Nat.reduceAdd, Nat.reduceSub, Nat.reduceMul, Nat.reduceMod, Nat.reducePow, Nat.reduceLT, Nat.reduceDiv, Int.reduceToNat, BitVec.reduceToNat, zipEnv, Int.reduceLE, Int.reduceLT, Int.reduceNeg, BitVec.reduceEq, Int.reduceAdd, Int.reduceSub, Int.reduceMul, Nat.reduceLeDiff, Int.reduceEq, c2', hf, H.f.bytes, kb]
          exact key _ _ ⟨_, _, [], bytesJ b, ⟨rfl, rfl, rfl, trivial⟩, rfl, .inl (.inl ⟨rfl, rfl⟩), .inr ⟨_, _, by rw [jb], rfl⟩, by simp, by omega⟩
      · have c2' : (have_ / 2#8 % 2#8 = 1#8) = False := eq_false c2
        simp only [↓amD, amU, Nat.reduceBEq, Nat.reduceAdd, Nat.reduceSub, Nat.reduceMul, Nat.reduceMod, Nat.reducePow, Nat.reduceLT, Nat.reduceDiv, Int.reduceToNat, BitVec.reduceToNat, zipEnv, Int.reduceLE, Int.reduceLT, Int.reduceNeg, BitVec.reduceEq, Int.reduceAdd, Int.reduceSub, Int.reduceMul, Nat.reduceLeDiff, Int.reduceEq, c2', hf]
        exact key _ _ ⟨_, _, [], [], ⟨rfl, rfl, rfl, trivial⟩, rfl, .inl (.inl ⟨rfl, rfl⟩), .inl (.inl ⟨rfl, rfl⟩), by simp, by simp⟩
    · have kb := fun rows k => kBytesJ rows k a ha
      simp only [↓amD, amU, Nat.reduceBEq, Nat.reduceAdd, Nat.reduceSub, Nat.reduceMul, Nat.reduceMod, Nat.reducePow, Nat.reduceLT, Nat.reduceDiv, Int.reduceToNat, BitVec.reduceToNat, zipEnv, Int.reduceLE, Int.reduceLT, Int.reduceNeg, BitVec.reduceEq, Int.reduceAdd, Int.reduceSub, Int.reduceMul, Nat.reduceLeDiff, Int.reduceEq, hw, kAwakeJ, c1', hf, H.f.bytes, kb]
      by_cases c2 : have_ / 2#8 % 2#8 = 1#8
      · have c2' : (have_ / 2#8 % 2#8 = 1#8) = True := eq_true c2
        cases hb : rightJ b
        · have kb := fun rows k => kBytesN rows k b hb
          simp only [↓amD, amU, Nat.reduceBEq, Nat.reduceAdd, Nat.reduceSub, Nat.reduceMul, Nat.reduceMod, Nat.reducePow, Nat.reduceLT, Nat.reduceDiv, Int.reduceToNat, BitVec.reduceToNat, zipEnv, Int.reduceLE, Int.reduceLT, Int.reduceNeg, BitVec.reduceEq, Int.reduceAdd, Int.reduceSub, Int.reduceMul, Nat.reduceLeDiff, Int.reduceEq, c2', hf, H.f.bytes, kb]
          exact key _ _ ⟨_, _, bytesJ a, [], ⟨rfl, rfl, rfl, trivial⟩, rfl, .inr ⟨_, _, by rw [ja], rfl⟩, .inl (.inl ⟨rfl, rfl⟩), by omega, by simp⟩
        · have kb := fun rows k => kBytesJ rows k b hb
          simp only [↓amD, amU, Nat.reduceBEq, Nat.reduceAdd, Nat.reduceSub, Nat.reduceMul, Nat.reduceMod, Nat.reducePow, Nat.reduceLT, Nat.reduceDiv, Int.reduceToNat, BitVec.reduceToNat, zipEnv, Int.reduceLE, Int.reduceLT, Int.reduceNeg, BitVec.reduceEq, Int.reduceAdd, Int.reduceSub, Int.reduceMul, Nat.reduceLeDiff, Int.reduceEq, c2', hf, H.f.bytes, kb]
          exact key _ _ ⟨_, _, bytesJ a, bytesJ b, ⟨rfl, rfl, rfl, trivial⟩, rfl, .inr ⟨_, _, by rw [ja], rfl⟩, .inr ⟨_, _, by rw [jb], rfl⟩, by omega, by omega⟩
      · have c2' : (have_ / 2#8 % 2#8 = 1#8) = False := eq_false c2
        simp only [↓amD, amU, Nat.reduceBEq, Nat.reduceAdd, Nat.reduceSub, Nat.reduceMul, Nat.reduceMod, Nat.reducePow, Nat.reduceLT, Nat.reduceDiv, Int.reduceToNat, BitVec.reduceToNat, zipEnv, Int.reduceLE, Int.reduceLT, Int.reduceNeg, BitVec.reduceEq, Int.reduceAdd, Int.reduceSub, Int.reduceMul, Nat.reduceLeDiff, Int.reduceEq, c2', hf]
        exact key _ _ ⟨_, _, bytesJ a, [], ⟨rfl, rfl, rfl, trivial⟩, rfl, .inr ⟨_, _, by rw [ja], rfl⟩, .inl (.inl ⟨rfl, rfl⟩), by omega, by simp⟩
  · have c1' : (have_ % 2#8 = 1#8) = False := eq_false c1
    simp only [↓amD, amU, Nat.reduceBEq, Nat.reduceAdd, Nat.reduceSub, Nat.reduceMul, Nat.reduceMod, Nat.reducePow, Nat.reduceLT, Nat.reduceDiv, Int.reduceToNat, BitVec.reduceToNat, zipEnv, Int.reduceLE, Int.reduceLT, Int.reduceNeg, BitVec.reduceEq, Int.reduceAdd, Int.reduceSub, Int.reduceMul, Nat.reduceLeDiff, Int.reduceEq, hw, kAwakeJ, c1', hf]
    by_cases c2 : have_ / 2#8 % 2#8 = 1#8
    · have c2' : (have_ / 2#8 % 2#8 = 1#8) = True := eq_true c2
      cases hb : rightJ b
      · have kb := fun rows k => kBytesN rows k b hb
        simp only [↓amD, amU, Nat.reduceBEq, Nat.reduceAdd, Nat.reduceSub, Nat.reduceMul, Nat.reduceMod, Nat.reducePow, Nat.reduceLT, Nat.reduceDiv, Int.reduceToNat, BitVec.reduceToNat, zipEnv, Int.reduceLE, Int.reduceLT, Int.reduceNeg, BitVec.reduceEq, Int.reduceAdd, Int.reduceSub, Int.reduceMul, Nat.reduceLeDiff, Int.reduceEq, c2', hf, H.f.bytes, kb]
        exact key _ _ ⟨_, _, p0, [], ⟨rfl, rfl, rfl, trivial⟩, rfl, .inl hp, .inl (.inl ⟨rfl, rfl⟩), lp, by simp⟩
      · have kb := fun rows k => kBytesJ rows k b hb
        simp only [↓amD, amU, Nat.reduceBEq, Nat.reduceAdd, Nat.reduceSub, Nat.reduceMul, Nat.reduceMod, Nat.reducePow, Nat.reduceLT, Nat.reduceDiv, Int.reduceToNat, BitVec.reduceToNat, zipEnv, Int.reduceLE, Int.reduceLT, Int.reduceNeg, BitVec.reduceEq, Int.reduceAdd, Int.reduceSub, Int.reduceMul, Nat.reduceLeDiff, Int.reduceEq, c2', hf, H.f.bytes, kb]
        exact key _ _ ⟨_, _, p0, bytesJ b, ⟨rfl, rfl, rfl, trivial⟩, rfl, .inl hp, .inr ⟨_, _, by rw [jb], rfl⟩, lp, by omega⟩
    · have c2' : (have_ / 2#8 % 2#8 = 1#8) = False := eq_false c2
      simp only [↓amD, amU, Nat.reduceBEq, Nat.reduceAdd, Nat.reduceSub, Nat.reduceMul, Nat.reduceMod, Nat.reducePow, Nat.reduceLT, Nat.reduceDiv, Int.reduceToNat, BitVec.reduceToNat, zipEnv, Int.reduceLE, Int.reduceLT, Int.reduceNeg, BitVec.reduceEq, Int.reduceAdd, Int.reduceSub, Int.reduceMul, Nat.reduceLeDiff, Int.reduceEq, c2', hf]
      exact key _ _ ⟨_, _, p0, [], ⟨rfl, rfl, rfl, trivial⟩, rfl, .inl hp, .inl (.inl ⟨rfl, rfl⟩), lp, by simp⟩
end Job
end Go.Am
