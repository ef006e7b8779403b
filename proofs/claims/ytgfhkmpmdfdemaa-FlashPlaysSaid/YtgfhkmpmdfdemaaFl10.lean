/- the flash: the law of what is written -/
import Derived.Test.YtgfhkmpmdfdemaaFl9
namespace Go.Am
set_option linter.unusedSimpArgs false
set_option linter.unusedVariables false
attribute [local congr] bnd_congr kCond_congr kGd_congr kPick_congr kCall_congr kIdx_congr kSlice_congr kLoop_congr cond_congr' aBin_congr aBounds_congr aApp_congr aCopy_congr kFn_congr
namespace Job
open Go.Am.F
set_option maxRecDepth 10000
theorem cl_succ (x q : List (BitVec 8)) (m i : Nat) : clB x q m (i + 1) ↔ clB x q m i ∧ q.getD i 0#8 &&& x.getD (m + i) 0#8 = q.getD i 0#8 := by
  constructor
  · exact fun h => ⟨fun j hj => h j (by omega), h i (by omega)⟩
  · rintro ⟨h1, h2⟩ j hj
    rcases Nat.lt_or_ge j i with h | h
    · exact h1 j h
    · obtain rfl : j = i := by omega
      exact h2
/-- the tail of the law: the copy is torn -/
theorem after_part {rows : Rows} {r m2 : Nat} {x : List (BitVec 8)} (h : FlAt rows r m2 x) (hx : x.length = 768) (m : Nat) (hm : m < 400) (part : List (BitVec 8)) (hp : part.length ≤ 256 - m % 256) {q : Nat} {ex : Bool} (hq : live rows q = some ⟨L8, bs part⟩) (k : D → Rows → Prop)
    (h0 : part = [] → k (.tup [.sl L8 rows.length [] 0 256 false, .raw (it 0)]) (rows ++ [some ⟨L8, bs (List.replicate 256 255#8)⟩]))
    (h1 : part ≠ [] → k (.tup [.raw (.slice none 0 0), .raw (it 14)]) rows)
    (h2 : part ≠ [] → k (.tup [.sl L8 rows.length [] 0 256 false, .raw (it 0)]) (rows ++ [some ⟨L8, bs (splice (sub x (256 * (m / 256)) 256) (m % 256) part)⟩])) :
    kCall fAfter rows k [.ptr SF r [0], .raw (it ((m / 256 : Nat) : Int)), .raw (it ((m % 256 : Nat) : Int)), .sl L8 q [] 0 part.length ex] := by
  obtain ⟨e, hv⟩ := h.view
  rw [kAfter hv (show x.length ≤ 1048576 by omega) _ _ hq (by omega)]
  have hP : errP (some (x, e)) ((m / 256 : Nat) : Int) = 0 := by
    simp only [errP]; rw [if_neg (by omega)]
  by_cases hn : part = []
  · have hA : errA (some (x, e)) ((m / 256 : Nat) : Int) ((m % 256 : Nat) : Int) part = 0 := by rw [errA, if_neg (by rw [hP]; simp), if_pos hn]
    have hD : datA (some (x, e)) ((m / 256 : Nat) : Int) ((m % 256 : Nat) : Int) part = List.replicate 256 255#8 := by rw [datA, if_pos hn]
    rw [outA, if_pos hA, hD]
    have := h0 hn
    simpa only [shift, shiftL, shiftRows, Sh.pure, cond_true, Nat.zero_add] using this
  · have hD : datA (some (x, e)) ((m / 256 : Nat) : Int) ((m % 256 : Nat) : Int) part = splice (sub x (256 * (m / 256)) 256) (m % 256) part := by rw [datA, if_neg hn]; rfl
    have hA : errA (some (x, e)) ((m / 256 : Nat) : Int) ((m % 256 : Nat) : Int) part = 0 ∨ errA (some (x, e)) ((m / 256 : Nat) : Int) ((m % 256 : Nat) : Int) part = 14 := by
      rw [errA, if_neg (by rw [hP]; simp), if_neg hn, if_neg (by omega)]
      split
      · exact .inl rfl
      · exact .inr rfl
    rcases hA with hA | hA
    · rw [outA, if_pos hA, hD]
      have := h2 hn
      simpa only [shift, shiftL, shiftRows, Sh.pure, cond_true, Nat.zero_add] using this
    · rw [outA, if_neg (by rw [hA]; decide), hA]
      have := h1 hn
      simpa only [shift, shiftL, shiftRows, List.append_nil] using this
set_option maxHeartbeats 2000000 in
theorem writes_law (C : Ctx) (h : FlC C) (ha : C.fn 8 = some fAwake) (haf : C.fn 19 = some fAfter) (hrn : C.fn 21 = some fRNew) (p q : List (BitVec 8)) (at_ more : BitVec 16) (hp : p.length ≤ maxLen) (hq : q.length ≤ maxLen) :
    afun C 4 r_law12_FlashWrites a_law12_FlashWrites [.lst L8 (bs p) false, .lst L8 (bs q) false, .raw (u16 at_), .raw (u16 more)] [] (fun d _ => d = .raw (.bool true)) := by
  refine afun_mk rfl ?_
  unfold a_law12_FlashWrites r_law12_FlashWrites
  unfold maxLen at hp hq
  have kaw := fun rows k => kAwake rows k (F := fAwake) rfl
  have h300 : Int.toNat 300 = 300 := rfl
  have k1 := fun rows k => kCutI rows k (.lst L8 (bs p) false) p 300 (IsBs.to (.inr ⟨false, rfl⟩)) (by omega) (by simp; omega)
  have k2 := fun rows k => kCutI rows k (.lst L8 (bs q) false) q 300 (IsBs.to (.inr ⟨false, rfl⟩)) (by omega) (by simp; omega)
  simp only [h300] at k1 k2
  have hpl : (p.take 300).length ≤ 300 := by simp; omega
  have hql : (q.take 300).length ≤ 300 := by simp; omega
  obtain ⟨k, hk⟩ : ∃ k, k = (at_ % 400#16).toNat := ⟨_, rfl⟩
  obtain ⟨m, hm⟩ : ∃ m, m = (more % 400#16).toNat := ⟨_, rfl⟩
  have hk2 : k < 400 := by rw [hk, BitVec.toNat_umod]; exact Nat.mod_lt _ (by decide)
  have hm2 : m < 400 := by rw [hm, BitVec.toNat_umod]; exact Nat.mod_lt _ (by decide)
  simp only [↓amD, amU, Nat.reduceBEq, Nat.reduceAdd, Nat.reduceSub, Nat.reduceMul, Nat.reduceMod, Nat.reducePow, Nat.reduceLT, Nat.reduceDiv, Int.reduceToNat, BitVec.reduceToNat, zipEnv, Int.reduceLE, Int.reduceLT, Int.reduceNeg, BitVec.reduceEq, Int.reduceAdd, Int.reduceSub, Int.reduceMul, Nat.reduceLeDiff, Int.reduceEq, ha, kaw, h.n9, h.r9]
  refine newA (rows := []) 3 (by omega) fun R0 r mf hM => ?_
  have hF : FlAt R0 r mf (List.replicate 768 255#8) := hM.fl
  have lt0 := hF.lt
  simp only [↓amD, amU, Nat.reduceBEq, Nat.reduceAdd, Nat.reduceSub, Nat.reduceMul, Nat.reduceMod, Nat.reducePow, Nat.reduceLT, Nat.reduceDiv, Int.reduceToNat, BitVec.reduceToNat, zipEnv, Int.reduceLE, Int.reduceLT, Int.reduceNeg, BitVec.reduceEq, Int.reduceAdd, Int.reduceSub, Int.reduceMul, Nat.reduceLeDiff, Int.reduceEq, lv_app0, lv_appk, set_app0, set_appk, List.append_assoc, List.append_nil, Nat.add_assoc, h.cut, k1, k2, ← hk, ← hm, h.n14, h.r14]
  generalize p.take 300 = p at *
  generalize q.take 300 = q at *
  have hF1 := hF.push [some ⟨L8, bs p⟩, some ⟨L8, bs q⟩]
  have lp : live (R0 ++ [some ⟨L8, bs p⟩, some ⟨L8, bs q⟩]) R0.length = some ⟨L8, bs p⟩ := by rw [lv_app0]; rfl
  have lq : live (R0 ++ [some ⟨L8, bs p⟩, some ⟨L8, bs q⟩]) (R0.length + 1) = some ⟨L8, bs q⟩ := by rw [lv_appk]; rfl
  have hw := wr_ok (x := List.replicate 768 255#8) (a := k) (p := p) (by simp; omega) (by rw [drop_rep]; exact clears_rep _ p (by omega))
  generalize hqp : R0.length = qp at *
  generalize R0 ++ [some ⟨L8, bs p⟩, some ⟨L8, bs q⟩] = R1 at *
  refine writeA hF1 lp (by simp) (by omega) (k : Int) fun R2 U2 => ?_
  have hF2 := U2.fl
  have hxl := wrX_len (List.replicate 768 255#8) (k : Int) p
  rw [List.length_replicate] at hxl
  rw [hw.1]
  have lq2 := U2.frame _ _ lq (by omega)
  generalize wrX (List.replicate 768 255#8) (k : Int) p = x at *
  have kr1 := fun K => kRead_ok hF2 (by omega) 0 768 (by omega) K
  rw [show ((0 : Nat) : Int) = 0 from rfl, show ((768 : Nat) : Int) = 768 from rfl] at kr1
  have hsx : sub x 0 768 = x := by rw [sub, List.drop_zero, List.take_of_length_le (by omega)]
  rw [hsx] at kr1
  simp only [↓amD, amU, Nat.reduceBEq, Nat.reduceAdd, Nat.reduceSub, Nat.reduceMul, Nat.reduceMod, Nat.reducePow, Nat.reduceLT, Nat.reduceDiv, Int.reduceToNat, BitVec.reduceToNat, zipEnv, Int.reduceLE, Int.reduceLT, Int.reduceNeg, BitVec.reduceEq, Int.reduceAdd, Int.reduceSub, Int.reduceMul, Nat.reduceLeDiff, Int.reduceEq, h.rd, kr1]
  have lt2 := hF2.lt
  have bq2 := live_lt lq2
  have hF3 := hF2.push [some ⟨L8, bs x⟩]
  have lq3 := live_app lq2 [some ⟨L8, bs x⟩]
  have lx3 : live (R2 ++ [some ⟨L8, bs x⟩]) R2.length = some ⟨L8, bs x⟩ := by rw [lv_app0]; rfl
  generalize R2 ++ [some ⟨L8, bs x⟩] = R3 at *
  classical
  refine kLoop_up q.length (fun i env rows => has env [(56, .raw (it (i : Int))), (55, .raw (it (q.length : Int))), (54, .sl L8 (qp + 1) [] 0 q.length false), (1, .sl L8 (qp + 1) [] 0 q.length false), (13, .sl L8 R2.length [] 0 768 false), (12, .raw (it (m : Int))), (15, .raw (.bool (decide (clB x q m i)))), (9, .ptr SF r [0])] ∧ rows = R3) ?_ ?_ ⟨?_, rfl⟩
  · rintro i hi env rows ⟨hh, rfl⟩ R hR
    simp only [has] at hh
    obtain ⟨h56, h55, h54, h1, h13, h12, h15, h9, -⟩ := hh
    have e0 : ((i : Int) < (q.length : Int)) = True := eq_true (by omega)
    have b0 : ∀ n : Nat, ((0 : Int) ≤ (n : Int)) = True := fun n => eq_true (by omega)
    have e2 := wz_succ i (by omega)
    have e3 : wz ((m : Int) + (i : Int)) = ((m + i : Nat) : Int) := by rw [wz_id (by omega)]; omega
    have e4 : (((m + i : Nat) : Int) < 768) = True := eq_true (by omega)
    have t1 : (bs q)[i]? = some (.raw (u8 (q.getD i 0#8))) := bs_get hi
    have t2 : (bs x)[m + i]? = some (.raw (u8 (x.getD (m + i) 0#8))) := bs_get (by omega)
    have hs := cl_succ x q m i
    by_cases hc : clB x q m i
    · have h15' : look env 15 = some (.raw (.bool true)) := by rw [h15]; simp [hc]
      have hd : decide (clB x q m (i + 1)) = decide (q.getD i 0#8 &&& x.getD (m + i) 0#8 = q.getD i 0#8) := by
        rw [decide_eq_decide, hs]; simp [hc]
      simp only [↓amD, amU, Nat.reduceBEq, Nat.reduceAdd, Nat.reduceSub, Nat.reduceMul, Nat.reduceMod, Nat.reducePow, Nat.reduceLT, Nat.reduceDiv, Int.reduceToNat, BitVec.reduceToNat, zipEnv, Int.reduceLE, Int.reduceLT, Int.reduceNeg, BitVec.reduceEq, Int.reduceAdd, Int.reduceSub, Int.reduceMul, Nat.reduceLeDiff, Int.reduceEq, h56, h55, h54, h1, h13, h12, h15', h9, e0, b0, e2, e3, e4, lq3, lx3, t1, t2, decide_true]
      exact hR _ _ ⟨by simp only [has, ↓amD, amU, Nat.reduceBEq, Nat.reduceAdd, Nat.reduceSub, Nat.reduceMul, Nat.reduceMod, Nat.reducePow, Nat.reduceLT, Nat.reduceDiv, Int.reduceToNat, BitVec.reduceToNat, zipEnv, Int.reduceLE, Int.reduceLT, Int.reduceNeg, BitVec.reduceEq, Int.reduceAdd, Int.reduceSub, Int.reduceMul, Nat.reduceLeDiff, Int.reduceEq, h55, h54, h1, h13, h12, h9, hd], rfl⟩
    · have h15' : look env 15 = some (.raw (.bool false)) := by rw [h15]; simp [hc]
      have hd : decide (clB x q m (i + 1)) = false := by
        rw [decide_eq_false_iff_not, hs]; exact fun h => hc h.1
      simp only [↓amD, amU, Nat.reduceBEq, Nat.reduceAdd, Nat.reduceSub, Nat.reduceMul, Nat.reduceMod, Nat.reducePow, Nat.reduceLT, Nat.reduceDiv, Int.reduceToNat, BitVec.reduceToNat, zipEnv, Int.reduceLE, Int.reduceLT, Int.reduceNeg, BitVec.reduceEq, Int.reduceAdd, Int.reduceSub, Int.reduceMul, Nat.reduceLeDiff, Int.reduceEq, h56, h55, h54, h1, h13, h12, h15', h9, e0, b0, e2, e3, e4, lq3, lx3, t1, t2, decide_true]
      exact hR _ _ ⟨by simp only [has, ↓amD, amU, Nat.reduceBEq, Nat.reduceAdd, Nat.reduceSub, Nat.reduceMul, Nat.reduceMod, Nat.reducePow, Nat.reduceLT, Nat.reduceDiv, Int.reduceToNat, BitVec.reduceToNat, zipEnv, Int.reduceLE, Int.reduceLT, Int.reduceNeg, BitVec.reduceEq, Int.reduceAdd, Int.reduceSub, Int.reduceMul, Nat.reduceLeDiff, Int.reduceEq, h55, h54, h1, h13, h12, h9, hd], rfl⟩
  · rintro env rows ⟨hh, rfl⟩ R
    simp only [has] at hh
    obtain ⟨h56, h55, h54, h1, h13, h12, h15, h9, -⟩ := hh
    have e0 : ((q.length : Int) < (q.length : Int)) = False := eq_false (by omega)
    have lt3 := hF3.lt
    have e5 : (m : Int).tdiv 256 = ((m / 256 : Nat) : Int) := rfl
    have e6 : wz ((m / 256 : Nat) : Int) = ((m / 256 : Nat) : Int) := wz_id (by omega)
    have e7 : (m : Int).tmod 256 = ((m % 256 : Nat) : Int) := rfl
    have e8 : wz (256 - ((m % 256 : Nat) : Int)) = ((256 - m % 256 : Nat) : Int) := by rw [wz_id (by omega)]; omega
    have hm0 : (0 : Int) ≤ (m : Int) := by omega
    simp only [↓amD, amU, Nat.reduceBEq, Nat.reduceAdd, Nat.reduceSub, Nat.reduceMul, Nat.reduceMod, Nat.reducePow, Nat.reduceLT, Nat.reduceDiv, Int.reduceToNat, BitVec.reduceToNat, zipEnv, Int.reduceLE, Int.reduceLT, Int.reduceNeg, BitVec.reduceEq, Int.reduceAdd, Int.reduceSub, Int.reduceMul, Nat.reduceLeDiff, Int.reduceEq, h56, h55, h54, h1, h13, h12, h15, h9, e0, h.n12, h.r12, decide_false]
    refine copyA hF3 (by omega) fun R4 rg mg MG => ?_
    have hF4 := hF3.made MG
    have hG4 := MG.fl
    have hgr := MG.hr
    have hgm := MG.hm
    have lq4 := MG.frame _ _ lq3
    have bq4 := live_lt lq3
    simp only [↓amD, amU, Nat.reduceBEq, Nat.reduceAdd, Nat.reduceSub, Nat.reduceMul, Nat.reduceMod, Nat.reducePow, Nat.reduceLT, Nat.reduceDiv, Int.reduceToNat, BitVec.reduceToNat, zipEnv, Int.reduceLE, Int.reduceLT, Int.reduceNeg, BitVec.reduceEq, Int.reduceAdd, Int.reduceSub, Int.reduceMul, Nat.reduceLeDiff, Int.reduceEq, h1, h12, h9, h15, h.n14, h.r14]
    refine writeA hF4 lq4 (by omega) (by omega) (m : Int) fun R5 U5 => ?_
    have hF5 := U5.fl
    have hG5 := hG4.keep U5 (by omega) (by omega)
    have lq5 := U5.frame _ _ lq4 (by omega)
    have hcd : clB x q m q.length ↔ clears (x.drop m) q := clB_iff x q m
    have hrest : True := trivial
    by_cases hc : clB x q m q.length
    · have hw2 := wr_ok (x := x) (a := m) (p := q) (by omega) (hcd.1 hc)
      have hcl : decide (clB x q m q.length) = true := decide_eq_true hc
      rw [hw2.1]
      rw [hw2.2] at hF5
      rw [hcl] at h15
      have hl2 := splice_len x m q (by omega)
      have hss := sub_splice x q m (by omega)
      have kr3 := fun K => kRead_ok hF5 (by omega) m q.length (by omega) K
      rw [hss] at kr3
      have ksm := fun K => kSame (R5 ++ [some ⟨L8, bs q⟩]) K (.sl L8 R5.length [] 0 q.length false) (.sl L8 (qp + 1) [] 0 q.length false) q q (BsIn.own (by rw [lv_app0]; rfl) _ rfl) (BsIn.own (live_push lq5) _ rfl) (by omega) (by omega)
      simp only [↓amD, amU, Nat.reduceBEq, Nat.reduceAdd, Nat.reduceSub, Nat.reduceMul, Nat.reduceMod, Nat.reducePow, Nat.reduceLT, Nat.reduceDiv, Int.reduceToNat, BitVec.reduceToNat, zipEnv, Int.reduceLE, Int.reduceLT, Int.reduceNeg, BitVec.reduceEq, Int.reduceAdd, Int.reduceSub, Int.reduceMul, Nat.reduceLeDiff, Int.reduceEq, h1, h12, h9, h15, hcl, h.rd, kr3, h.same, ksm, e5, e6, e7, e8, beq_self_eq_true, decide_true, decide_false]
      have kct := fun K => kCutI (R5 ++ [some ⟨L8, bs q⟩]) K (.sl L8 (qp + 1) [] 0 q.length false) q ((256 - m % 256 : Nat) : Int) (BsIn.own (live_push lq5) _ rfl) (by omega) (by simp; omega)
      rw [Int.toNat_natCast] at kct
      have hptl : (q.take (256 - m % 256)).length ≤ 256 - m % 256 := by rw [List.length_take]; omega
      have hpq : (q.take (256 - m % 256)).length ≤ q.length := by rw [List.length_take]; omega
      simp only [↓amD, amU, Nat.reduceBEq, Nat.reduceAdd, Nat.reduceSub, Nat.reduceMul, Nat.reduceMod, Nat.reducePow, Nat.reduceLT, Nat.reduceDiv, Int.reduceToNat, BitVec.reduceToNat, zipEnv, Int.reduceLE, Int.reduceLT, Int.reduceNeg, BitVec.reduceEq, Int.reduceAdd, Int.reduceSub, Int.reduceMul, Nat.reduceLeDiff, Int.reduceEq, lv_app0, lv_appk, set_app0, set_appk, List.append_assoc, List.append_nil, Nat.add_assoc, h1, h12, h9, h15, h.cut, kct, e5, e6, e7, e8, haf]
      generalize q.take (256 - m % 256) = part at *
      have hG6 := hG5.push [some ⟨L8, bs q⟩, some ⟨L8, bs part⟩]
      have lpt : live (R5 ++ [some ⟨L8, bs q⟩, some ⟨L8, bs part⟩]) (R5.length + 1) = some ⟨L8, bs part⟩ := by rw [lv_appk]; rfl
      have lt5 := hG5.lt
      refine after_part hG6 (by omega) m hm2 part hptl lpt _ (fun hn => ?_) (fun hn => ?_) (fun hn => ?_)
      · have hpl0 : (part.length : Int) = 0 := by rw [hn]; rfl
        simp only [↓amD, amU, Nat.reduceBEq, Nat.reduceAdd, Nat.reduceSub, Nat.reduceMul, Nat.reduceMod, Nat.reducePow, Nat.reduceLT, Nat.reduceDiv, Int.reduceToNat, BitVec.reduceToNat, zipEnv, Int.reduceLE, Int.reduceLT, Int.reduceNeg, BitVec.reduceEq, Int.reduceAdd, Int.reduceSub, Int.reduceMul, Nat.reduceLeDiff, Int.reduceEq, lv_app0, lv_appk, set_app0, set_appk, List.append_assoc, List.append_nil, Nat.add_assoc, hpl0, decide_true]
      · have hpl0 : ((part.length : Int) = 0) = False := eq_false (by have : part.length ≠ 0 := fun h => hn (List.eq_nil_of_length_eq_zero h); omega)
        simp only [↓amD, amU, Nat.reduceBEq, Nat.reduceAdd, Nat.reduceSub, Nat.reduceMul, Nat.reduceMod, Nat.reducePow, Nat.reduceLT, Nat.reduceDiv, Int.reduceToNat, BitVec.reduceToNat, zipEnv, Int.reduceLE, Int.reduceLT, Int.reduceNeg, BitVec.reduceEq, Int.reduceAdd, Int.reduceSub, Int.reduceMul, Nat.reduceLeDiff, Int.reduceEq, lv_app0, lv_appk, set_app0, set_appk, List.append_assoc, List.append_nil, Nat.add_assoc, hpl0, decide_false]
      · have hpl0 : ((part.length : Int) = 0) = False := eq_false (by have : part.length ≠ 0 := fun h => hn (List.eq_nil_of_length_eq_zero h); omega)
        have hwl : (splice (sub x (256 * (m / 256)) 256) (m % 256) part).length = 256 := by
          rw [splice_len _ _ _ (by rw [sub_len (by omega)]; omega), sub_len (by omega)]
        have htr := fun w hw hs => tear_all x w (m / 256) m 0 part (by omega) hw (m % 256) (by omega) (by omega) hs
        have htr := htr _ hwl rfl
        generalize splice (sub x (256 * (m / 256)) 256) (m % 256) part = w at *
        have knw := fun R K => kRNew R K 1 (by omega)
        rw [show ((1 : Nat) : Int) = 1 from rfl, show 256 * 1 = 256 from rfl] at knw
        have hG7 := hG6.push [some ⟨L8, bs w⟩, some ⟨L8, bs (List.replicate 256 255#8)⟩]
        simp only [List.append_assoc, List.cons_append, List.nil_append] at hG7
        have lw : live (R5 ++ [some ⟨L8, bs q⟩, some ⟨L8, bs part⟩, some ⟨L8, bs w⟩, some ⟨L8, bs (List.replicate 256 255#8)⟩]) (R5.length + 2) = some ⟨L8, bs w⟩ := by rw [lv_appk]; rfl
        have lk : live (R5 ++ [some ⟨L8, bs q⟩, some ⟨L8, bs part⟩, some ⟨L8, bs w⟩, some ⟨L8, bs (List.replicate 256 255#8)⟩]) (R5.length + 3) = some ⟨L8, bs (List.replicate 256 255#8)⟩ := by rw [lv_appk]; rfl
        have lpt2 : live (R5 ++ [some ⟨L8, bs q⟩, some ⟨L8, bs part⟩, some ⟨L8, bs w⟩, some ⟨L8, bs (List.replicate 256 255#8)⟩]) (R5.length + 1) = some ⟨L8, bs part⟩ := by rw [lv_appk]; rfl
        have hkl : (List.replicate 256 255#8).length = 256 := List.length_replicate
        generalize List.replicate 256 255#8 = kk at *
        simp only [↓amD, amU, Nat.reduceBEq, Nat.reduceAdd, Nat.reduceSub, Nat.reduceMul, Nat.reduceMod, Nat.reducePow, Nat.reduceLT, Nat.reduceDiv, Int.reduceToNat, BitVec.reduceToNat, zipEnv, Int.reduceLE, Int.reduceLT, Int.reduceNeg, BitVec.reduceEq, Int.reduceAdd, Int.reduceSub, Int.reduceMul, Nat.reduceLeDiff, Int.reduceEq, lv_app0, lv_appk, set_app0, set_appk, List.append_assoc, List.append_nil, Nat.add_assoc, hpl0, hrn, knw, h.n20, h.r20, decide_false]
        have hta := fun K => tearA (K := K) (ex1 := false) (ex2 := false) hG7 (by omega) lw lk (by omega) (by omega) (by omega) (by omega) ((m / 256 : Nat) : Int)
        rw [hwl, hkl] at hta
        refine hta _ fun R8 U8 => ?_
        have hG8 := U8.fl
        have htl := teX_len x ((m / 256 : Nat) : Int) w kk
        have lp8 := U8.frame _ _ lpt2 (by omega)
        have kr4 := fun K => kRead_ok hG8 (by omega) m part.length (by omega) K
        rw [htr] at kr4
        have ksm4 := fun K => kSame (R8 ++ [some ⟨L8, bs part⟩]) K (.sl L8 R8.length [] 0 part.length false) (.sl L8 (R5.length + 1) [] 0 part.length false) part part (BsIn.own (by rw [lv_app0]; rfl) _ rfl) (BsIn.own (live_push lp8) _ rfl) (by omega) (by omega)
        simp only [↓amD, amU, Nat.reduceBEq, Nat.reduceAdd, Nat.reduceSub, Nat.reduceMul, Nat.reduceMod, Nat.reducePow, Nat.reduceLT, Nat.reduceDiv, Int.reduceToNat, BitVec.reduceToNat, zipEnv, Int.reduceLE, Int.reduceLT, Int.reduceNeg, BitVec.reduceEq, Int.reduceAdd, Int.reduceSub, Int.reduceMul, Nat.reduceLeDiff, Int.reduceEq, lv_app0, lv_appk, set_app0, set_appk, List.append_assoc, List.append_nil, Nat.add_assoc, h12, h.rd, kr4, h.same, ksm4, decide_true]
    · have hw2 := wr_no (x := x) (a := m) (p := q) (by omega) (fun h => hc (hcd.2 h))
      have hcl : decide (clB x q m q.length) = false := decide_eq_false hc
      rw [hw2.1]
      rw [hw2.2] at hF5
      rw [hcl] at h15
      have kr3 := fun K => kRead_ok hF5 (by omega) m q.length (by omega) K
      have hbf : (false == false) = true := rfl
      have hsql : (sub x m q.length).length = q.length := sub_len (by omega)
      simp only [↓amD, amU, Nat.reduceBEq, Nat.reduceAdd, Nat.reduceSub, Nat.reduceMul, Nat.reduceMod, Nat.reducePow, Nat.reduceLT, Nat.reduceDiv, Int.reduceToNat, BitVec.reduceToNat, zipEnv, Int.reduceLE, Int.reduceLT, Int.reduceNeg, BitVec.reduceEq, Int.reduceAdd, Int.reduceSub, Int.reduceMul, Nat.reduceLeDiff, Int.reduceEq, h1, h12, h9, h15, hcl, h.rd, kr3, h.same, e5, e6, e7, e8, beq_self_eq_true, hbf, decide_true, decide_false]
      have kct := fun K => kCutI (R5 ++ [some ⟨L8, bs (sub x m q.length)⟩]) K (.sl L8 (qp + 1) [] 0 q.length false) q ((256 - m % 256 : Nat) : Int) (BsIn.own (live_push lq5) _ rfl) (by omega) (by simp; omega)
      rw [Int.toNat_natCast] at kct
      have hptl : (q.take (256 - m % 256)).length ≤ 256 - m % 256 := by rw [List.length_take]; omega
      have hpq : (q.take (256 - m % 256)).length ≤ q.length := by rw [List.length_take]; omega
      simp only [↓amD, amU, Nat.reduceBEq, Nat.reduceAdd, Nat.reduceSub, Nat.reduceMul, Nat.reduceMod, Nat.reducePow, Nat.reduceLT, Nat.reduceDiv, Int.reduceToNat, BitVec.reduceToNat, zipEnv, Int.reduceLE, Int.reduceLT, Int.reduceNeg, BitVec.reduceEq, Int.reduceAdd, Int.reduceSub, Int.reduceMul, Nat.reduceLeDiff, Int.reduceEq, lv_app0, lv_appk, set_app0, set_appk, List.append_assoc, List.append_nil, Nat.add_assoc, h1, h12, h9, h15, h.cut, kct, e5, e6, e7, e8, haf]
      generalize q.take (256 - m % 256) = part at *
      have hG6 := hG5.push [some ⟨L8, bs (sub x m q.length)⟩, some ⟨L8, bs part⟩]
      have lpt : live (R5 ++ [some ⟨L8, bs (sub x m q.length)⟩, some ⟨L8, bs part⟩]) (R5.length + 1) = some ⟨L8, bs part⟩ := by rw [lv_appk]; rfl
      have lt5 := hG5.lt
      refine after_part hG6 (by omega) m hm2 part hptl lpt _ (fun hn => ?_) (fun hn => ?_) (fun hn => ?_)
      · have hpl0 : (part.length : Int) = 0 := by rw [hn]; rfl
        simp only [↓amD, amU, Nat.reduceBEq, Nat.reduceAdd, Nat.reduceSub, Nat.reduceMul, Nat.reduceMod, Nat.reducePow, Nat.reduceLT, Nat.reduceDiv, Int.reduceToNat, BitVec.reduceToNat, zipEnv, Int.reduceLE, Int.reduceLT, Int.reduceNeg, BitVec.reduceEq, Int.reduceAdd, Int.reduceSub, Int.reduceMul, Nat.reduceLeDiff, Int.reduceEq, lv_app0, lv_appk, set_app0, set_appk, List.append_assoc, List.append_nil, Nat.add_assoc, hpl0, decide_true]
      · have hpl0 : ((part.length : Int) = 0) = False := eq_false (by have : part.length ≠ 0 := fun h => hn (List.eq_nil_of_length_eq_zero h); omega)
        simp only [↓amD, amU, Nat.reduceBEq, Nat.reduceAdd, Nat.reduceSub, Nat.reduceMul, Nat.reduceMod, Nat.reducePow, Nat.reduceLT, Nat.reduceDiv, Int.reduceToNat, BitVec.reduceToNat, zipEnv, Int.reduceLE, Int.reduceLT, Int.reduceNeg, BitVec.reduceEq, Int.reduceAdd, Int.reduceSub, Int.reduceMul, Nat.reduceLeDiff, Int.reduceEq, lv_app0, lv_appk, set_app0, set_appk, List.append_assoc, List.append_nil, Nat.add_assoc, hpl0, decide_false]
      · have hpl0 : ((part.length : Int) = 0) = False := eq_false (by have : part.length ≠ 0 := fun h => hn (List.eq_nil_of_length_eq_zero h); omega)
        have hwl : (splice (sub x (256 * (m / 256)) 256) (m % 256) part).length = 256 := by
          rw [splice_len _ _ _ (by rw [sub_len (by omega)]; omega), sub_len (by omega)]
        have htr := fun w hw hs => tear_all x w (m / 256) m 0 part (by omega) hw (m % 256) (by omega) (by omega) hs
        have htr := htr _ hwl rfl
        generalize splice (sub x (256 * (m / 256)) 256) (m % 256) part = w at *
        have knw := fun R K => kRNew R K 1 (by omega)
        rw [show ((1 : Nat) : Int) = 1 from rfl, show 256 * 1 = 256 from rfl] at knw
        have hG7 := hG6.push [some ⟨L8, bs w⟩, some ⟨L8, bs (List.replicate 256 255#8)⟩]
        simp only [List.append_assoc, List.cons_append, List.nil_append] at hG7
        have lw : live (R5 ++ [some ⟨L8, bs (sub x m q.length)⟩, some ⟨L8, bs part⟩, some ⟨L8, bs w⟩, some ⟨L8, bs (List.replicate 256 255#8)⟩]) (R5.length + 2) = some ⟨L8, bs w⟩ := by rw [lv_appk]; rfl
        have lk : live (R5 ++ [some ⟨L8, bs (sub x m q.length)⟩, some ⟨L8, bs part⟩, some ⟨L8, bs w⟩, some ⟨L8, bs (List.replicate 256 255#8)⟩]) (R5.length + 3) = some ⟨L8, bs (List.replicate 256 255#8)⟩ := by rw [lv_appk]; rfl
        have lpt2 : live (R5 ++ [some ⟨L8, bs (sub x m q.length)⟩, some ⟨L8, bs part⟩, some ⟨L8, bs w⟩, some ⟨L8, bs (List.replicate 256 255#8)⟩]) (R5.length + 1) = some ⟨L8, bs part⟩ := by rw [lv_appk]; rfl
        have hkl : (List.replicate 256 255#8).length = 256 := List.length_replicate
        generalize List.replicate 256 255#8 = kk at *
        simp only [↓amD, amU, Nat.reduceBEq, Nat.reduceAdd, Nat.reduceSub, Nat.reduceMul, Nat.reduceMod, Nat.reducePow, Nat.reduceLT, Nat.reduceDiv, Int.reduceToNat, BitVec.reduceToNat, zipEnv, Int.reduceLE, Int.reduceLT, Int.reduceNeg, BitVec.reduceEq, Int.reduceAdd, Int.reduceSub, Int.reduceMul, Nat.reduceLeDiff, Int.reduceEq, lv_app0, lv_appk, set_app0, set_appk, List.append_assoc, List.append_nil, Nat.add_assoc, hpl0, hrn, knw, h.n20, h.r20, decide_false]
        have hta := fun K => tearA (K := K) (ex1 := false) (ex2 := false) hG7 (by omega) lw lk (by omega) (by omega) (by omega) (by omega) ((m / 256 : Nat) : Int)
        rw [hwl, hkl] at hta
        refine hta _ fun R8 U8 => ?_
        have hG8 := U8.fl
        have htl := teX_len x ((m / 256 : Nat) : Int) w kk
        have lp8 := U8.frame _ _ lpt2 (by omega)
        have kr4 := fun K => kRead_ok hG8 (by omega) m part.length (by omega) K
        rw [htr] at kr4
        have ksm4 := fun K => kSame (R8 ++ [some ⟨L8, bs part⟩]) K (.sl L8 R8.length [] 0 part.length false) (.sl L8 (R5.length + 1) [] 0 part.length false) part part (BsIn.own (by rw [lv_app0]; rfl) _ rfl) (BsIn.own (live_push lp8) _ rfl) (by omega) (by omega)
        simp only [↓amD, amU, Nat.reduceBEq, Nat.reduceAdd, Nat.reduceSub, Nat.reduceMul, Nat.reduceMod, Nat.reducePow, Nat.reduceLT, Nat.reduceDiv, Int.reduceToNat, BitVec.reduceToNat, zipEnv, Int.reduceLE, Int.reduceLT, Int.reduceNeg, BitVec.reduceEq, Int.reduceAdd, Int.reduceSub, Int.reduceMul, Nat.reduceLeDiff, Int.reduceEq, lv_app0, lv_appk, set_app0, set_appk, List.append_assoc, List.append_nil, Nat.add_assoc, h12, h.rd, kr4, h.same, ksm4, decide_true]
  · have : decide (clB x q m 0) = true := decide_eq_true (fun j hj => by omega)
    simp only [has, ↓amD, amU, Nat.reduceBEq, Nat.reduceAdd, Nat.reduceSub, Nat.reduceMul, Nat.reduceMod, Nat.reducePow, Nat.reduceLT, Nat.reduceDiv, Int.reduceToNat, BitVec.reduceToNat, zipEnv, Int.reduceLE, Int.reduceLT, Int.reduceNeg, BitVec.reduceEq, Int.reduceAdd, Int.reduceSub, Int.reduceMul, Nat.reduceLeDiff, Int.reduceEq, this]
end Job
end Go.Am
