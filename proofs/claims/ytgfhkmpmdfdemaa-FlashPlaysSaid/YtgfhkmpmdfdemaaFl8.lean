/- the flash: of none nothing; the law of the arguments -/
import Derived.Test.YtgfhkmpmdfdemaaFl7
namespace Go.Am
set_option linter.unusedSimpArgs false
set_option linter.unusedVariables false
attribute [local congr] bnd_congr kCond_congr kGd_congr kPick_congr kCall_congr kIdx_congr kSlice_congr kLoop_congr cond_congr' aBin_congr aBounds_congr aApp_congr aCopy_congr kFn_congr
namespace Job
open Go.Am.F
set_option maxRecDepth 10000
theorem eraseN {rows : Rows} (i : Int) {K : D → Rows → Prop} (hk : K (.raw (it 3)) rows) : afun CF 2 r_flash_Flash_Erase a_flash_Flash_Erase [.raw (.pointer none), .raw (it i)] rows K := by
  have kw := fun rows k => kPageE (flNil rows) (Nat.zero_le _) i k
  simp only [errP] at kw
  simp only [q_afun]
  unfold a_flash_Flash_Erase r_flash_Flash_Erase
  simp only [↓amD, amU, Nat.reduceBEq, Nat.reduceAdd, Nat.reduceSub, Nat.reduceMul, Nat.reduceMod, Nat.reducePow, Nat.reduceLT, Nat.reduceDiv, Int.reduceToNat, BitVec.reduceToNat, zipEnv, Int.reduceLE, Int.reduceLT, Int.reduceNeg, BitVec.reduceEq, Int.reduceAdd, Int.reduceSub, Int.reduceMul, Nat.reduceLeDiff, Int.reduceEq, f_page, kw]
  exact hk
theorem writeN {rows : Rows} (a : Int) {d : D} {n : Nat} (hd : slen d = some n) {K : D → Rows → Prop} (hk : K (.raw (it 3)) rows) : afun CF 3 r_flash_Flash_Write a_flash_Flash_Write [.raw (.pointer none), .raw (it a), d] rows K := by
  have kw := fun rows k => kWithin (flNil rows) (Nat.zero_le _) a n k
  simp only [errW] at kw
  simp only [q_afun]
  unfold a_flash_Flash_Write r_flash_Flash_Write
  simp only [↓amD, amU, Nat.reduceBEq, Nat.reduceAdd, Nat.reduceSub, Nat.reduceMul, Nat.reduceMod, Nat.reducePow, Nat.reduceLT, Nat.reduceDiv, Int.reduceToNat, BitVec.reduceToNat, zipEnv, Int.reduceLE, Int.reduceLT, Int.reduceNeg, BitVec.reduceEq, Int.reduceAdd, Int.reduceSub, Int.reduceMul, Nat.reduceLeDiff, Int.reduceEq, f_within, hd, kw]
  exact hk
theorem turnN {rows : Rows} (a : Int) (b : BitVec 8) {K : D → Rows → Prop} (hk : K (.raw (it 3)) rows) : afun CF 3 r_flash_Flash_Turn a_flash_Flash_Turn [.raw (.pointer none), .raw (it a), .raw (u8 b)] rows K := by
  have kw := fun rows k => kWithin (flNil rows) (Nat.zero_le _) a 1 k
  simp only [errW] at kw
  simp only [q_afun]
  unfold a_flash_Flash_Turn r_flash_Flash_Turn
  simp only [↓amD, amU, Nat.reduceBEq, Nat.reduceAdd, Nat.reduceSub, Nat.reduceMul, Nat.reduceMod, Nat.reducePow, Nat.reduceLT, Nat.reduceDiv, Int.reduceToNat, BitVec.reduceToNat, zipEnv, Int.reduceLE, Int.reduceLT, Int.reduceNeg, BitVec.reduceEq, Int.reduceAdd, Int.reduceSub, Int.reduceMul, Nat.reduceLeDiff, Int.reduceEq, f_within, kw]
  exact hk
theorem tearN {rows : Rows} (i : Int) {d e : D} {K : D → Rows → Prop} (hk : K (.raw (it 3)) rows) : afun CF 4 r_flash_Flash_Tear a_flash_Flash_Tear [.raw (.pointer none), .raw (it i), d, e] rows K := by
  have kw := fun rows k => kPageE (flNil rows) (Nat.zero_le _) i k
  simp only [errP] at kw
  simp only [q_afun]
  unfold a_flash_Flash_Tear r_flash_Flash_Tear
  simp only [↓amD, amU, Nat.reduceBEq, Nat.reduceAdd, Nat.reduceSub, Nat.reduceMul, Nat.reduceMod, Nat.reducePow, Nat.reduceLT, Nat.reduceDiv, Int.reduceToNat, BitVec.reduceToNat, zipEnv, Int.reduceLE, Int.reduceLT, Int.reduceNeg, BitVec.reduceEq, Int.reduceAdd, Int.reduceSub, Int.reduceMul, Nat.reduceLeDiff, Int.reduceEq, f_page, kw]
  exact hk
theorem copyN {rows : Rows} {K : D → Rows → Prop} (hk : K (.raw (.pointer none)) rows) : afun CF 1 r_flash_Flash_Copy a_flash_Flash_Copy [.raw (.pointer none)] rows K := by
  simp only [q_afun]
  unfold a_flash_Flash_Copy r_flash_Flash_Copy
  simp only [↓amD, amU, Nat.reduceBEq, Nat.reduceAdd, Nat.reduceSub, Nat.reduceMul, Nat.reduceMod, Nat.reducePow, Nat.reduceLT, Nat.reduceDiv, Int.reduceToNat, BitVec.reduceToNat, zipEnv, Int.reduceLE, Int.reduceLT, Int.reduceNeg, BitVec.reduceEq, Int.reduceAdd, Int.reduceSub, Int.reduceMul, Nat.reduceLeDiff, Int.reduceEq]
  exact hk
theorem clears_rep (n : Nat) (p : List (BitVec 8)) (h : p.length ≤ n) : clears (List.replicate n 255#8) p := by
  intro i hi
  unfold clr1
  rw [rep255 _ _ (by omega)]
  have : ∀ b : BitVec 8, b &&& ~~~255#8 = 0#8 := by decide +kernel
  exact this _
theorem sub_splice (x p : List (BitVec 8)) (a : Nat) (h : a + p.length ≤ x.length) : sub (splice x a p) a p.length = p := by
  unfold sub splice
  rw [List.append_assoc, List.drop_left' (by simp; omega), List.take_left' rfl]
theorem pages_len (x : List (BitVec 8)) (e : Bool) (hx : x.length = 256) : (pgN (some (x, e)) [-1, 1, 7] 3).length = 0 ∧ (pgN (some (x, e)) [0, 0] 2).length = 512 := by
  have s : (sub x (256 * 0) 256).length = 256 := sub_len (by omega)
  have h : x.length / 256 = 1 := by omega
  constructor
  · simp [pgN, errP, h]
  · simp [pgN, errP, h, flDat, List.length_append]
    simpa using by have := s; simp at this; omega
set_option maxHeartbeats 2000000 in
theorem fargs_law (C : Ctx) (h : FlC C) (ha : C.fn 8 = some fAwake) (hpg : C.fn 22 = some fPages) (haf : C.fn 19 = some fAfter) (n i j : Int) (p : List (BitVec 8)) (hp : p.length ≤ maxLen) :
    afun C 4 r_law12_FlashArgs a_law12_FlashArgs [.raw (it n), .raw (it i), .raw (it j), .lst L8 (bs p) false] [] (fun d _ => d = .raw (.bool true)) := by
  refine afun_mk rfl ?_
  unfold a_law12_FlashArgs r_law12_FlashArgs
  unfold maxLen at hp
  have kaw := fun rows k => kAwake rows k (F := fAwake) rfl
  have k1 := fun rows k => kCutI rows k (.lst L8 (bs p) false) p 50 (IsBs.to (.inr ⟨false, rfl⟩)) (by omega) (by simp; omega)
  have h50 : Int.toNat 50 = 50 := rfl
  simp only [h50] at k1
  have hl50 : (p.take 50).length ≤ 50 := by simp; omega
  have hcc : (p.take 50).take 50 = p.take 50 := List.take_of_length_le hl50
  simp only [↓amD, amU, Nat.reduceBEq, Nat.reduceAdd, Nat.reduceSub, Nat.reduceMul, Nat.reduceMod, Nat.reducePow, Nat.reduceLT, Nat.reduceDiv, Int.reduceToNat, BitVec.reduceToNat, zipEnv, Int.reduceLE, Int.reduceLT, Int.reduceNeg, BitVec.reduceEq, Int.reduceAdd, Int.reduceSub, Int.reduceMul, Nat.reduceLeDiff, Int.reduceEq, ha, kaw, h.cut, k1]
  generalize p.take 50 = pp at *
  have main : ∀ (R : Rows), R = [some ⟨L8, bs pp⟩] → True := fun _ _ => trivial
  have hc : (n < 0 ∨ 1024 < n) ∨ ((n < 0) = False ∧ (1024 < n) = False) := by
    by_cases h1 : n < 0
    · exact .inl (.inl h1)
    · by_cases h2 : 1024 < n
      · exact .inl (.inr h2)
      · exact .inr ⟨eq_false h1, eq_false h2⟩
  have hgo : True := trivial
  rcases hc with hb | ⟨c1, c2⟩
  · by_cases c1 : n < 0
    · simp only [↓amD, amU, Nat.reduceBEq, Nat.reduceAdd, Nat.reduceSub, Nat.reduceMul, Nat.reduceMod, Nat.reducePow, Nat.reduceLT, Nat.reduceDiv, Int.reduceToNat, BitVec.reduceToNat, zipEnv, Int.reduceLE, Int.reduceLT, Int.reduceNeg, BitVec.reduceEq, Int.reduceAdd, Int.reduceSub, Int.reduceMul, Nat.reduceLeDiff, Int.reduceEq, c1, decide_true, h.n9, h.r9]
      refine fnew_bad n hb ?_
      simp only [↓amD, amU, Nat.reduceBEq, Nat.reduceAdd, Nat.reduceSub, Nat.reduceMul, Nat.reduceMod, Nat.reducePow, Nat.reduceLT, Nat.reduceDiv, Int.reduceToNat, BitVec.reduceToNat, zipEnv, Int.reduceLE, Int.reduceLT, Int.reduceNeg, BitVec.reduceEq, Int.reduceAdd, Int.reduceSub, Int.reduceMul, Nat.reduceLeDiff, Int.reduceEq, h.n9, h.r9]
      refine newA 1 (by omega) fun R0 r m hM => ?_
      have hF : FlAt R0 r m (List.replicate 256 255#8) := hM.fl
      have l0 : live R0 0 = some ⟨L8, bs pp⟩ := hM.frame 0 _ rfl
      have k2 := kCutI R0 (d := .sl L8 0 [] 0 pp.length false) (p := pp) (n := 50) (h := BsIn.own l0 _ rfl) (hp := by omega) (hp2 := by simp; omega)
      simp only [h50, hcc] at k2
      have b0 := live_lt l0
      simp only [↓amD, amU, Nat.reduceBEq, Nat.reduceAdd, Nat.reduceSub, Nat.reduceMul, Nat.reduceMod, Nat.reducePow, Nat.reduceLT, Nat.reduceDiv, Int.reduceToNat, BitVec.reduceToNat, zipEnv, Int.reduceLE, Int.reduceLT, Int.reduceNeg, BitVec.reduceEq, Int.reduceAdd, Int.reduceSub, Int.reduceMul, Nat.reduceLeDiff, Int.reduceEq, h.cut, k2, h.n14, h.r14]
      have hF1 := hF.push [some ⟨L8, bs pp⟩]
      have l0' := live_app l0 [some ⟨L8, bs pp⟩]
      have lm : live (R0 ++ [some ⟨L8, bs pp⟩]) R0.length = some ⟨L8, bs pp⟩ := by rw [lv_app0]; rfl
      have lt0 := hF.lt
      have hr0 := hM.hr
      have hm0 := hM.hm
      have hl1 : ([some ⟨L8, bs pp⟩] : Rows).length = 1 := rfl
      generalize hqm : R0.length = qm at *
      generalize R0 ++ [some ⟨L8, bs pp⟩] = R1 at *
      have hw := wr_ok (x := List.replicate 256 255#8) (a := 0) (p := pp) (by simp; omega) (clears_rep 256 pp (by omega))
      rw [show ((0 : Nat) : Int) = 0 from rfl] at hw
      refine writeA hF1 lm (by simp) (by omega) 0 fun R2 U2 => ?_
      have hF2 := U2.fl
      have hxl := wrX_len (List.replicate 256 255#8) 0 pp
      rw [hw.2] at hF2 hxl
      have hsub := sub_splice (List.replicate 256 255#8) pp 0 (by simp; omega)
      rw [hw.1]
      have g0 := U2.frame _ _ l0' (by omega)
      have gm := U2.frame _ _ lm (by omega)
      rw [List.length_replicate] at hxl
      generalize splice (List.replicate 256 255#8) 0 pp = x at *
      have kr1 := fun K => kRead_ok hF2 (by omega) 0 pp.length (by omega) K
      rw [show ((0 : Nat) : Int) = 0 from rfl, hsub] at kr1
      simp only [↓amD, amU, Nat.reduceBEq, Nat.reduceAdd, Nat.reduceSub, Nat.reduceMul, Nat.reduceMod, Nat.reducePow, Nat.reduceLT, Nat.reduceDiv, Int.reduceToNat, BitVec.reduceToNat, zipEnv, Int.reduceLE, Int.reduceLT, Int.reduceNeg, BitVec.reduceEq, Int.reduceAdd, Int.reduceSub, Int.reduceMul, Nat.reduceLeDiff, Int.reduceEq, h.rd, kr1]
      have lt2 := hF2.lt
      have b2 := live_lt gm
      have hF3 := hF2.push [some ⟨L8, bs pp⟩]
      have g0' := live_app g0 [some ⟨L8, bs pp⟩]
      have gm' := live_app gm [some ⟨L8, bs pp⟩]
      have go' : live (R2 ++ [some ⟨L8, bs pp⟩]) R2.length = some ⟨L8, bs pp⟩ := by rw [lv_app0]; rfl
      generalize hqo : R2.length = qo at *
      generalize R2 ++ [some ⟨L8, bs pp⟩] = R3 at *
      refine kLoop_up pp.length (fun k env rows => has env [(59, .raw (it (k : Int))), (58, .raw (it (pp.length : Int))), (13, .sl L8 qm [] 0 pp.length false), (14, .sl L8 qo [] 0 pp.length false), (11, .ptr SF r [0]), (3, .sl L8 0 [] 0 pp.length false), (1, .raw (it i)), (2, .raw (it j))] ∧
        FlAt rows r m x ∧ live rows 0 = some ⟨L8, bs pp⟩ ∧ (∃ a : List (BitVec 8), a.length = pp.length ∧ live rows qm = some ⟨L8, bs a⟩) ∧ (∃ a : List (BitVec 8), a.length = pp.length ∧ live rows qo = some ⟨L8, bs a⟩)) ?_ ?_ ⟨?_, hF3, g0', ⟨pp, rfl, gm'⟩, ⟨pp, rfl, go'⟩⟩
      · rintro k hk env rows ⟨hh, hF, l0, ⟨a, hal, la⟩, ⟨b, hbl, lb⟩⟩ R hR
        simp only [has] at hh
        obtain ⟨h59, h58, h13, h14, h11, h3, h1, h2, -⟩ := hh
        have e0 : ((k : Int) < (pp.length : Int)) = True := eq_true (by omega)
        have e1 : ((0 : Int) ≤ (k : Int)) = True := eq_true (by omega)
        have e2 := wz_succ k (by omega)
        have t1 : (bs a)[k]? = some (.raw (u8 (a.getD k 0#8))) := bs_get (by omega)
        have t2 : (bs b)[k]? = some (.raw (u8 (b.getD k 0#8))) := bs_get (by omega)
        have lb' := live_set_o (y := ⟨L8, bs (a.set k (a.getD k 0#8 + 1#8))⟩) (q := qm) lb (by omega)
        simp only [↓amD, amU, Nat.reduceBEq, Nat.reduceAdd, Nat.reduceSub, Nat.reduceMul, Nat.reduceMod, Nat.reducePow, Nat.reduceLT, Nat.reduceDiv, Int.reduceToNat, BitVec.reduceToNat, zipEnv, Int.reduceLE, Int.reduceLT, Int.reduceNeg, BitVec.reduceEq, Int.reduceAdd, Int.reduceSub, Int.reduceMul, Nat.reduceLeDiff, Int.reduceEq, h59, h58, h13, h14, h11, h3, h1, h2, e0, e1, e2, la, t1, bs_set, lb', t2, decide_true]
        exact hR _ _ ⟨by simp only [has, ↓amD, amU, Nat.reduceBEq, Nat.reduceAdd, Nat.reduceSub, Nat.reduceMul, Nat.reduceMod, Nat.reducePow, Nat.reduceLT, Nat.reduceDiv, Int.reduceToNat, BitVec.reduceToNat, zipEnv, Int.reduceLE, Int.reduceLT, Int.reduceNeg, BitVec.reduceEq, Int.reduceAdd, Int.reduceSub, Int.reduceMul, Nat.reduceLeDiff, Int.reduceEq, h58, h13, h14, h11, h3, h1, h2], (hF.set (by omega) (by omega)).set (by omega) (by omega), live_set_o (live_set_o l0 (by omega)) (by omega),
          ⟨a.set k (a.getD k 0#8 + 1#8), by rw [List.length_set, hal], live_set_o (live_set_eq la) (by omega)⟩, ⟨b.set k (b.getD k 0#8 + 2#8), by rw [List.length_set, hbl], live_set_eq lb'⟩⟩
      · rintro env rows ⟨hh, hF, l0, -, -⟩ R
        simp only [has] at hh
        obtain ⟨h59, h58, h13, h14, h11, h3, h1, h2, -⟩ := hh
        have e0 : ((pp.length : Int) < (pp.length : Int)) = False := eq_false (by omega)
        have kr2 := fun K => kRead_ok hF (by omega) 0 pp.length (by omega) K
        rw [show ((0 : Nat) : Int) = 0 from rfl, hsub] at kr2
        have ksm := fun K => kSame (rows ++ [some ⟨L8, bs pp⟩]) K (.sl L8 rows.length [] 0 pp.length false) (.sl L8 0 [] 0 pp.length false) pp pp (BsIn.own (by rw [lv_app0]; rfl) _ rfl) (BsIn.own (live_push l0) _ rfl) (by omega) (by omega)
        obtain ⟨e4, hv4⟩ := (hF.push [some ⟨L8, bs pp⟩, some ⟨LI, [.raw (it (-1)), .raw (it 1), .raw (it 7)]⟩]).view
        have hpl := pages_len x e4 (by omega)
        have kp1 : ∀ K, kCall fPages (rows ++ [some ⟨L8, bs pp⟩, some ⟨LI, [.raw (it (-1)), .raw (it 1), .raw (it 7)]⟩]) K [.ptr SF r [0], .sl LI (rows.length + 1) [] 0 3 true] = K (.sl L8 (rows.length + 2) [] 0 0 false) (rows ++ [some ⟨L8, bs pp⟩, some ⟨LI, [.raw (it (-1)), .raw (it 1), .raw (it 7)]⟩, some ⟨L8, []⟩]) := fun K => by
          have := kPages hv4 (show x.length ≤ 1048576 by omega) (q := rows.length + 1) (ex := true) (l := [-1, 1, 7]) (by rw [lv_appk]; rfl) (by simp) K
          have hz : pgN (some (x, e4)) [-1, 1, 7] [(-1 : Int), 1, 7].length = [] := List.eq_nil_of_length_eq_zero hpl.1
          rw [hz] at this
          simpa [bs] using this
        obtain ⟨e5, hv5⟩ := (hF.push [some ⟨L8, bs pp⟩, some ⟨LI, [.raw (it (-1)), .raw (it 1), .raw (it 7)]⟩, some ⟨L8, []⟩, some ⟨LI, [.raw (it 0), .raw (it 0)]⟩]).view
        have hpl5 := pages_len x e5 (by omega)
        have kp2 : ∀ K, kCall fPages (rows ++ [some ⟨L8, bs pp⟩, some ⟨LI, [.raw (it (-1)), .raw (it 1), .raw (it 7)]⟩, some ⟨L8, []⟩, some ⟨LI, [.raw (it 0), .raw (it 0)]⟩]) K [.ptr SF r [0], .sl LI (rows.length + 3) [] 0 2 true] = K (.sl L8 (rows.length + 4) [] 0 512 false) (rows ++ [some ⟨L8, bs pp⟩, some ⟨LI, [.raw (it (-1)), .raw (it 1), .raw (it 7)]⟩, some ⟨L8, []⟩, some ⟨LI, [.raw (it 0), .raw (it 0)]⟩, some ⟨L8, bs (pgN (some (x, e5)) [0, 0] 2)⟩]) := fun K => by
          have := kPages hv5 (show x.length ≤ 1048576 by omega) (q := rows.length + 3) (ex := true) (l := [0, 0]) (by rw [lv_appk]; rfl) (by simp) K
          have hz : (pgN (some (x, e5)) [0, 0] [(0 : Int), 0].length).length = 512 := hpl5.2
          rw [hz] at this
          simpa using this
        generalize bs (pgN (some (x, e5)) [0, 0] 2) = zz at *
        have kr3 : ∀ (R : Rows) K, kCall fRead R K [.raw (.pointer none), .raw (it i), .raw (it j)] = K (.tup [.raw (.slice none 0 0), .raw (it 3)]) R := fun R K => by
          rw [kRead (flNil R) (Nat.zero_le _)]
          simp [outR, errW, shift, shiftL, shiftRows]
        have kaf : ∀ (R : Rows) K, live R 0 = some ⟨L8, bs pp⟩ → kCall fAfter R K [.raw (.pointer none), .raw (it i), .raw (it j), .sl L8 0 [] 0 pp.length false] = K (.tup [.raw (.slice none 0 0), .raw (it 3)]) R := fun R K hl => by
          rw [kAfter (K := none) rfl (Nat.zero_le _) i j hl (by omega)]
          simp [outA, errA, errP, shift, shiftL, shiftRows]
        have kaf' := fun more K => kaf (rows ++ more) K (live_push l0)
        have ksz := fun (R : Rows) K => kSize (flNil R) K
        have kbl : ∀ (R : Rows) K, kCall fBlank R K [.raw (.pointer none), .raw (it 0), .raw (it 0)] = K (.raw (.bool false)) R := fun R K => by
          rw [kBlank (flNil R) (Nat.zero_le _)]
          have : blankB none 0 0 = false := by rw [blankB, if_pos]; right; right; right; right; simp [errW]
          rw [this]
        simp only [flLen, Int.natCast_zero, Int.ofNat_zero] at ksz
        have ksz' : ∀ (R : Rows) K, kCall fSize R K [.raw (.pointer none)] = K (.raw (it 0)) R := ksz
        simp only [↓amD, amU, Nat.reduceBEq, Nat.reduceAdd, Nat.reduceSub, Nat.reduceMul, Nat.reduceMod, Nat.reducePow, Nat.reduceLT, Nat.reduceDiv, Int.reduceToNat, BitVec.reduceToNat, zipEnv, Int.reduceLE, Int.reduceLT, Int.reduceNeg, BitVec.reduceEq, Int.reduceAdd, Int.reduceSub, Int.reduceMul, Nat.reduceLeDiff, Int.reduceEq, lv_app0, lv_appk, set_app0, set_appk, List.append_assoc, List.append_nil, Nat.add_assoc, h59, h58, h13, h14, h11, h3, h1, h2, e0, h.rd, kr2, h.same, ksm, hpg, kp1, kp2, kr3, haf, kaf', h.n13, h.r13, decide_true, decide_false]
        refine eraseN i ?_
        simp only [↓amD, amU, Nat.reduceBEq, Nat.reduceAdd, Nat.reduceSub, Nat.reduceMul, Nat.reduceMod, Nat.reducePow, Nat.reduceLT, Nat.reduceDiv, Int.reduceToNat, BitVec.reduceToNat, zipEnv, Int.reduceLE, Int.reduceLT, Int.reduceNeg, BitVec.reduceEq, Int.reduceAdd, Int.reduceSub, Int.reduceMul, Nat.reduceLeDiff, Int.reduceEq, lv_app0, lv_appk, set_app0, set_appk, List.append_assoc, List.append_nil, Nat.add_assoc, h1, h2, h3, h.n14, h.r14]
        refine writeN i (n := pp.length) (d := .sl L8 0 [] 0 pp.length false) rfl ?_
        simp only [↓amD, amU, Nat.reduceBEq, Nat.reduceAdd, Nat.reduceSub, Nat.reduceMul, Nat.reduceMod, Nat.reducePow, Nat.reduceLT, Nat.reduceDiv, Int.reduceToNat, BitVec.reduceToNat, zipEnv, Int.reduceLE, Int.reduceLT, Int.reduceNeg, BitVec.reduceEq, Int.reduceAdd, Int.reduceSub, Int.reduceMul, Nat.reduceLeDiff, Int.reduceEq, lv_app0, lv_appk, set_app0, set_appk, List.append_assoc, List.append_nil, Nat.add_assoc, h1, h2, h3, h.n20, h.r20]
        refine tearN i ?_
        simp only [↓amD, amU, Nat.reduceBEq, Nat.reduceAdd, Nat.reduceSub, Nat.reduceMul, Nat.reduceMod, Nat.reducePow, Nat.reduceLT, Nat.reduceDiv, Int.reduceToNat, BitVec.reduceToNat, zipEnv, Int.reduceLE, Int.reduceLT, Int.reduceNeg, BitVec.reduceEq, Int.reduceAdd, Int.reduceSub, Int.reduceMul, Nat.reduceLeDiff, Int.reduceEq, lv_app0, lv_appk, set_app0, set_appk, List.append_assoc, List.append_nil, Nat.add_assoc, h1, h2, h3, h.n10, h.r10]
        refine turnN i 1#8 ?_
        have kp3 : ∀ (R : Rows) K, kCall fPages (R ++ [some ⟨LI, [.raw (it 0)]⟩]) K [.raw (.pointer none), .sl LI R.length [] 0 1 true] = K (.sl L8 (R.length + 1) [] 0 0 false) (R ++ [some ⟨LI, [.raw (it 0)]⟩, some ⟨L8, []⟩]) := fun R K => by
          have := kPages (rows := R ++ [some ⟨LI, [.raw (it 0)]⟩]) (d := .raw (.pointer none)) (K := none) rfl (Nat.zero_le _) (q := R.length) (ex := true) (l := [0]) (by rw [lv_app0]; rfl) (by simp) K
          have hz : pgN none [0] [(0 : Int)].length = [] := rfl
          rw [hz] at this
          simpa [bs] using this
        have kp4 := kp3 (rows ++ [some ⟨L8, bs pp⟩, some ⟨LI, [.raw (it (-1)), .raw (it 1), .raw (it 7)]⟩, some ⟨L8, []⟩, some ⟨LI, [.raw (it 0), .raw (it 0)]⟩, some ⟨L8, zz⟩])
        simp only [List.append_assoc, List.cons_append, List.nil_append, List.length_append, List.length_cons, List.length_nil, Nat.zero_add, Nat.add_assoc, Nat.reduceAdd] at kp4
        simp only [↓amD, amU, Nat.reduceBEq, Nat.reduceAdd, Nat.reduceSub, Nat.reduceMul, Nat.reduceMod, Nat.reducePow, Nat.reduceLT, Nat.reduceDiv, Int.reduceToNat, BitVec.reduceToNat, zipEnv, Int.reduceLE, Int.reduceLT, Int.reduceNeg, BitVec.reduceEq, Int.reduceAdd, Int.reduceSub, Int.reduceMul, Nat.reduceLeDiff, Int.reduceEq, lv_app0, lv_appk, set_app0, set_appk, List.append_assoc, List.append_nil, Nat.add_assoc, h1, h2, h3, h.sz, ksz', hpg, kp4, h.bl, kbl, h.n12, h.r12]
        refine copyN ?_
        simp only [↓amD, amU, Nat.reduceBEq, Nat.reduceAdd, Nat.reduceSub, Nat.reduceMul, Nat.reduceMod, Nat.reducePow, Nat.reduceLT, Nat.reduceDiv, Int.reduceToNat, BitVec.reduceToNat, zipEnv, Int.reduceLE, Int.reduceLT, Int.reduceNeg, BitVec.reduceEq, Int.reduceAdd, Int.reduceSub, Int.reduceMul, Nat.reduceLeDiff, Int.reduceEq, lv_app0, lv_appk, set_app0, set_appk, List.append_assoc, List.append_nil, Nat.add_assoc]
      · simp only [has, ↓amD, amU, Nat.reduceBEq, Nat.reduceAdd, Nat.reduceSub, Nat.reduceMul, Nat.reduceMod, Nat.reducePow, Nat.reduceLT, Nat.reduceDiv, Int.reduceToNat, BitVec.reduceToNat, zipEnv, Int.reduceLE, Int.reduceLT, Int.reduceNeg, BitVec.reduceEq, Int.reduceAdd, Int.reduceSub, Int.reduceMul, Nat.reduceLeDiff, Int.reduceEq]
    · have c2 : 1024 < n := by omega
      simp only [↓amD, amU, Nat.reduceBEq, Nat.reduceAdd, Nat.reduceSub, Nat.reduceMul, Nat.reduceMod, Nat.reducePow, Nat.reduceLT, Nat.reduceDiv, Int.reduceToNat, BitVec.reduceToNat, zipEnv, Int.reduceLE, Int.reduceLT, Int.reduceNeg, BitVec.reduceEq, Int.reduceAdd, Int.reduceSub, Int.reduceMul, Nat.reduceLeDiff, Int.reduceEq, c1, c2, decide_true, decide_false, h.n9, h.r9]
      refine fnew_bad n hb ?_
      simp only [↓amD, amU, Nat.reduceBEq, Nat.reduceAdd, Nat.reduceSub, Nat.reduceMul, Nat.reduceMod, Nat.reducePow, Nat.reduceLT, Nat.reduceDiv, Int.reduceToNat, BitVec.reduceToNat, zipEnv, Int.reduceLE, Int.reduceLT, Int.reduceNeg, BitVec.reduceEq, Int.reduceAdd, Int.reduceSub, Int.reduceMul, Nat.reduceLeDiff, Int.reduceEq, h.n9, h.r9]
      refine newA 1 (by omega) fun R0 r m hM => ?_
      have hF : FlAt R0 r m (List.replicate 256 255#8) := hM.fl
      have l0 : live R0 0 = some ⟨L8, bs pp⟩ := hM.frame 0 _ rfl
      have k2 := kCutI R0 (d := .sl L8 0 [] 0 pp.length false) (p := pp) (n := 50) (h := BsIn.own l0 _ rfl) (hp := by omega) (hp2 := by simp; omega)
      simp only [h50, hcc] at k2
      have b0 := live_lt l0
      simp only [↓amD, amU, Nat.reduceBEq, Nat.reduceAdd, Nat.reduceSub, Nat.reduceMul, Nat.reduceMod, Nat.reducePow, Nat.reduceLT, Nat.reduceDiv, Int.reduceToNat, BitVec.reduceToNat, zipEnv, Int.reduceLE, Int.reduceLT, Int.reduceNeg, BitVec.reduceEq, Int.reduceAdd, Int.reduceSub, Int.reduceMul, Nat.reduceLeDiff, Int.reduceEq, h.cut, k2, h.n14, h.r14]
      have hF1 := hF.push [some ⟨L8, bs pp⟩]
      have l0' := live_app l0 [some ⟨L8, bs pp⟩]
      have lm : live (R0 ++ [some ⟨L8, bs pp⟩]) R0.length = some ⟨L8, bs pp⟩ := by rw [lv_app0]; rfl
      have lt0 := hF.lt
      have hr0 := hM.hr
      have hm0 := hM.hm
      have hl1 : ([some ⟨L8, bs pp⟩] : Rows).length = 1 := rfl
      generalize hqm : R0.length = qm at *
      generalize R0 ++ [some ⟨L8, bs pp⟩] = R1 at *
      have hw := wr_ok (x := List.replicate 256 255#8) (a := 0) (p := pp) (by simp; omega) (clears_rep 256 pp (by omega))
      rw [show ((0 : Nat) : Int) = 0 from rfl] at hw
      refine writeA hF1 lm (by simp) (by omega) 0 fun R2 U2 => ?_
      have hF2 := U2.fl
      have hxl := wrX_len (List.replicate 256 255#8) 0 pp
      rw [hw.2] at hF2 hxl
      have hsub := sub_splice (List.replicate 256 255#8) pp 0 (by simp; omega)
      rw [hw.1]
      have g0 := U2.frame _ _ l0' (by omega)
      have gm := U2.frame _ _ lm (by omega)
      rw [List.length_replicate] at hxl
      generalize splice (List.replicate 256 255#8) 0 pp = x at *
      have kr1 := fun K => kRead_ok hF2 (by omega) 0 pp.length (by omega) K
      rw [show ((0 : Nat) : Int) = 0 from rfl, hsub] at kr1
      simp only [↓amD, amU, Nat.reduceBEq, Nat.reduceAdd, Nat.reduceSub, Nat.reduceMul, Nat.reduceMod, Nat.reducePow, Nat.reduceLT, Nat.reduceDiv, Int.reduceToNat, BitVec.reduceToNat, zipEnv, Int.reduceLE, Int.reduceLT, Int.reduceNeg, BitVec.reduceEq, Int.reduceAdd, Int.reduceSub, Int.reduceMul, Nat.reduceLeDiff, Int.reduceEq, h.rd, kr1]
      have lt2 := hF2.lt
      have b2 := live_lt gm
      have hF3 := hF2.push [some ⟨L8, bs pp⟩]
      have g0' := live_app g0 [some ⟨L8, bs pp⟩]
      have gm' := live_app gm [some ⟨L8, bs pp⟩]
      have go' : live (R2 ++ [some ⟨L8, bs pp⟩]) R2.length = some ⟨L8, bs pp⟩ := by rw [lv_app0]; rfl
      generalize hqo : R2.length = qo at *
      generalize R2 ++ [some ⟨L8, bs pp⟩] = R3 at *
      refine kLoop_up pp.length (fun k env rows => has env [(59, .raw (it (k : Int))), (58, .raw (it (pp.length : Int))), (13, .sl L8 qm [] 0 pp.length false), (14, .sl L8 qo [] 0 pp.length false), (11, .ptr SF r [0]), (3, .sl L8 0 [] 0 pp.length false), (1, .raw (it i)), (2, .raw (it j))] ∧
        FlAt rows r m x ∧ live rows 0 = some ⟨L8, bs pp⟩ ∧ (∃ a : List (BitVec 8), a.length = pp.length ∧ live rows qm = some ⟨L8, bs a⟩) ∧ (∃ a : List (BitVec 8), a.length = pp.length ∧ live rows qo = some ⟨L8, bs a⟩)) ?_ ?_ ⟨?_, hF3, g0', ⟨pp, rfl, gm'⟩, ⟨pp, rfl, go'⟩⟩
      · rintro k hk env rows ⟨hh, hF, l0, ⟨a, hal, la⟩, ⟨b, hbl, lb⟩⟩ R hR
        simp only [has] at hh
        obtain ⟨h59, h58, h13, h14, h11, h3, h1, h2, -⟩ := hh
        have e0 : ((k : Int) < (pp.length : Int)) = True := eq_true (by omega)
        have e1 : ((0 : Int) ≤ (k : Int)) = True := eq_true (by omega)
        have e2 := wz_succ k (by omega)
        have t1 : (bs a)[k]? = some (.raw (u8 (a.getD k 0#8))) := bs_get (by omega)
        have t2 : (bs b)[k]? = some (.raw (u8 (b.getD k 0#8))) := bs_get (by omega)
        have lb' := live_set_o (y := ⟨L8, bs (a.set k (a.getD k 0#8 + 1#8))⟩) (q := qm) lb (by omega)
        simp only [↓amD, amU, Nat.reduceBEq, Nat.reduceAdd, Nat.reduceSub, Nat.reduceMul, Nat.reduceMod, Nat.reducePow, Nat.reduceLT, Nat.reduceDiv, Int.reduceToNat, BitVec.reduceToNat, zipEnv, Int.reduceLE, Int.reduceLT, Int.reduceNeg, BitVec.reduceEq, Int.reduceAdd, Int.reduceSub, Int.reduceMul, Nat.reduceLeDiff, Int.reduceEq, h59, h58, h13, h14, h11, h3, h1, h2, e0, e1, e2, la, t1, bs_set, lb', t2, decide_true]
        exact hR _ _ ⟨by simp only [has, ↓amD, amU, Nat.reduceBEq, Nat.reduceAdd, Nat.reduceSub, Nat.reduceMul, Nat.reduceMod, Nat.reducePow, Nat.reduceLT, Nat.reduceDiv, Int.reduceToNat, BitVec.reduceToNat, zipEnv, Int.reduceLE, Int.reduceLT, Int.reduceNeg, BitVec.reduceEq, Int.reduceAdd, Int.reduceSub, Int.reduceMul, Nat.reduceLeDiff, Int.reduceEq, h58, h13, h14, h11, h3, h1, h2], (hF.set (by omega) (by omega)).set (by omega) (by omega), live_set_o (live_set_o l0 (by omega)) (by omega),
          ⟨a.set k (a.getD k 0#8 + 1#8), by rw [List.length_set, hal], live_set_o (live_set_eq la) (by omega)⟩, ⟨b.set k (b.getD k 0#8 + 2#8), by rw [List.length_set, hbl], live_set_eq lb'⟩⟩
      · rintro env rows ⟨hh, hF, l0, -, -⟩ R
        simp only [has] at hh
        obtain ⟨h59, h58, h13, h14, h11, h3, h1, h2, -⟩ := hh
        have e0 : ((pp.length : Int) < (pp.length : Int)) = False := eq_false (by omega)
        have kr2 := fun K => kRead_ok hF (by omega) 0 pp.length (by omega) K
        rw [show ((0 : Nat) : Int) = 0 from rfl, hsub] at kr2
        have ksm := fun K => kSame (rows ++ [some ⟨L8, bs pp⟩]) K (.sl L8 rows.length [] 0 pp.length false) (.sl L8 0 [] 0 pp.length false) pp pp (BsIn.own (by rw [lv_app0]; rfl) _ rfl) (BsIn.own (live_push l0) _ rfl) (by omega) (by omega)
        obtain ⟨e4, hv4⟩ := (hF.push [some ⟨L8, bs pp⟩, some ⟨LI, [.raw (it (-1)), .raw (it 1), .raw (it 7)]⟩]).view
        have hpl := pages_len x e4 (by omega)
        have kp1 : ∀ K, kCall fPages (rows ++ [some ⟨L8, bs pp⟩, some ⟨LI, [.raw (it (-1)), .raw (it 1), .raw (it 7)]⟩]) K [.ptr SF r [0], .sl LI (rows.length + 1) [] 0 3 true] = K (.sl L8 (rows.length + 2) [] 0 0 false) (rows ++ [some ⟨L8, bs pp⟩, some ⟨LI, [.raw (it (-1)), .raw (it 1), .raw (it 7)]⟩, some ⟨L8, []⟩]) := fun K => by
          have := kPages hv4 (show x.length ≤ 1048576 by omega) (q := rows.length + 1) (ex := true) (l := [-1, 1, 7]) (by rw [lv_appk]; rfl) (by simp) K
          have hz : pgN (some (x, e4)) [-1, 1, 7] [(-1 : Int), 1, 7].length = [] := List.eq_nil_of_length_eq_zero hpl.1
          rw [hz] at this
          simpa [bs] using this
        obtain ⟨e5, hv5⟩ := (hF.push [some ⟨L8, bs pp⟩, some ⟨LI, [.raw (it (-1)), .raw (it 1), .raw (it 7)]⟩, some ⟨L8, []⟩, some ⟨LI, [.raw (it 0), .raw (it 0)]⟩]).view
        have hpl5 := pages_len x e5 (by omega)
        have kp2 : ∀ K, kCall fPages (rows ++ [some ⟨L8, bs pp⟩, some ⟨LI, [.raw (it (-1)), .raw (it 1), .raw (it 7)]⟩, some ⟨L8, []⟩, some ⟨LI, [.raw (it 0), .raw (it 0)]⟩]) K [.ptr SF r [0], .sl LI (rows.length + 3) [] 0 2 true] = K (.sl L8 (rows.length + 4) [] 0 512 false) (rows ++ [some ⟨L8, bs pp⟩, some ⟨LI, [.raw (it (-1)), .raw (it 1), .raw (it 7)]⟩, some ⟨L8, []⟩, some ⟨LI, [.raw (it 0), .raw (it 0)]⟩, some ⟨L8, bs (pgN (some (x, e5)) [0, 0] 2)⟩]) := fun K => by
          have := kPages hv5 (show x.length ≤ 1048576 by omega) (q := rows.length + 3) (ex := true) (l := [0, 0]) (by rw [lv_appk]; rfl) (by simp) K
          have hz : (pgN (some (x, e5)) [0, 0] [(0 : Int), 0].length).length = 512 := hpl5.2
          rw [hz] at this
          simpa using this
        generalize bs (pgN (some (x, e5)) [0, 0] 2) = zz at *
        have kr3 : ∀ (R : Rows) K, kCall fRead R K [.raw (.pointer none), .raw (it i), .raw (it j)] = K (.tup [.raw (.slice none 0 0), .raw (it 3)]) R := fun R K => by
          rw [kRead (flNil R) (Nat.zero_le _)]
          simp [outR, errW, shift, shiftL, shiftRows]
        have kaf : ∀ (R : Rows) K, live R 0 = some ⟨L8, bs pp⟩ → kCall fAfter R K [.raw (.pointer none), .raw (it i), .raw (it j), .sl L8 0 [] 0 pp.length false] = K (.tup [.raw (.slice none 0 0), .raw (it 3)]) R := fun R K hl => by
          rw [kAfter (K := none) rfl (Nat.zero_le _) i j hl (by omega)]
          simp [outA, errA, errP, shift, shiftL, shiftRows]
        have kaf' := fun more K => kaf (rows ++ more) K (live_push l0)
        have ksz := fun (R : Rows) K => kSize (flNil R) K
        have kbl : ∀ (R : Rows) K, kCall fBlank R K [.raw (.pointer none), .raw (it 0), .raw (it 0)] = K (.raw (.bool false)) R := fun R K => by
          rw [kBlank (flNil R) (Nat.zero_le _)]
          have : blankB none 0 0 = false := by rw [blankB, if_pos]; right; right; right; right; simp [errW]
          rw [this]
        simp only [flLen, Int.natCast_zero, Int.ofNat_zero] at ksz
        have ksz' : ∀ (R : Rows) K, kCall fSize R K [.raw (.pointer none)] = K (.raw (it 0)) R := ksz
        simp only [↓amD, amU, Nat.reduceBEq, Nat.reduceAdd, Nat.reduceSub, Nat.reduceMul, Nat.reduceMod, Nat.reducePow, Nat.reduceLT, Nat.reduceDiv, Int.reduceToNat, BitVec.reduceToNat, zipEnv, Int.reduceLE, Int.reduceLT, Int.reduceNeg, BitVec.reduceEq, Int.reduceAdd, Int.reduceSub, Int.reduceMul, Nat.reduceLeDiff, Int.reduceEq, lv_app0, lv_appk, set_app0, set_appk, List.append_assoc, List.append_nil, Nat.add_assoc, h59, h58, h13, h14, h11, h3, h1, h2, e0, h.rd, kr2, h.same, ksm, hpg, kp1, kp2, kr3, haf, kaf', h.n13, h.r13, decide_true, decide_false]
        refine eraseN i ?_
        simp only [↓amD, amU, Nat.reduceBEq, Nat.reduceAdd, Nat.reduceSub, Nat.reduceMul, Nat.reduceMod, Nat.reducePow, Nat.reduceLT, Nat.reduceDiv, Int.reduceToNat, BitVec.reduceToNat, zipEnv, Int.reduceLE, Int.reduceLT, Int.reduceNeg, BitVec.reduceEq, Int.reduceAdd, Int.reduceSub, Int.reduceMul, Nat.reduceLeDiff, Int.reduceEq, lv_app0, lv_appk, set_app0, set_appk, List.append_assoc, List.append_nil, Nat.add_assoc, h1, h2, h3, h.n14, h.r14]
        refine writeN i (n := pp.length) (d := .sl L8 0 [] 0 pp.length false) rfl ?_
        simp only [↓amD, amU, Nat.reduceBEq, Nat.reduceAdd, Nat.reduceSub, Nat.reduceMul, Nat.reduceMod, Nat.reducePow, Nat.reduceLT, Nat.reduceDiv, Int.reduceToNat, BitVec.reduceToNat, zipEnv, Int.reduceLE, Int.reduceLT, Int.reduceNeg, BitVec.reduceEq, Int.reduceAdd, Int.reduceSub, Int.reduceMul, Nat.reduceLeDiff, Int.reduceEq, lv_app0, lv_appk, set_app0, set_appk, List.append_assoc, List.append_nil, Nat.add_assoc, h1, h2, h3, h.n20, h.r20]
        refine tearN i ?_
        simp only [↓amD, amU, Nat.reduceBEq, Nat.reduceAdd, Nat.reduceSub, Nat.reduceMul, Nat.reduceMod, Nat.reducePow, Nat.reduceLT, Nat.reduceDiv, Int.reduceToNat, BitVec.reduceToNat, zipEnv, Int.reduceLE, Int.reduceLT, Int.reduceNeg, BitVec.reduceEq, Int.reduceAdd, Int.reduceSub, Int.reduceMul, Nat.reduceLeDiff, Int.reduceEq, lv_app0, lv_appk, set_app0, set_appk, List.append_assoc, List.append_nil, Nat.add_assoc, h1, h2, h3, h.n10, h.r10]
        refine turnN i 1#8 ?_
        have kp3 : ∀ (R : Rows) K, kCall fPages (R ++ [some ⟨LI, [.raw (it 0)]⟩]) K [.raw (.pointer none), .sl LI R.length [] 0 1 true] = K (.sl L8 (R.length + 1) [] 0 0 false) (R ++ [some ⟨LI, [.raw (it 0)]⟩, some ⟨L8, []⟩]) := fun R K => by
          have := kPages (rows := R ++ [some ⟨LI, [.raw (it 0)]⟩]) (d := .raw (.pointer none)) (K := none) rfl (Nat.zero_le _) (q := R.length) (ex := true) (l := [0]) (by rw [lv_app0]; rfl) (by simp) K
          have hz : pgN none [0] [(0 : Int)].length = [] := rfl
          rw [hz] at this
          simpa [bs] using this
        have kp4 := kp3 (rows ++ [some ⟨L8, bs pp⟩, some ⟨LI, [.raw (it (-1)), .raw (it 1), .raw (it 7)]⟩, some ⟨L8, []⟩, some ⟨LI, [.raw (it 0), .raw (it 0)]⟩, some ⟨L8, zz⟩])
        simp only [List.append_assoc, List.cons_append, List.nil_append, List.length_append, List.length_cons, List.length_nil, Nat.zero_add, Nat.add_assoc, Nat.reduceAdd] at kp4
        simp only [↓amD, amU, Nat.reduceBEq, Nat.reduceAdd, Nat.reduceSub, Nat.reduceMul, Nat.reduceMod, Nat.reducePow, Nat.reduceLT, Nat.reduceDiv, Int.reduceToNat, BitVec.reduceToNat, zipEnv, Int.reduceLE, Int.reduceLT, Int.reduceNeg, BitVec.reduceEq, Int.reduceAdd, Int.reduceSub, Int.reduceMul, Nat.reduceLeDiff, Int.reduceEq, lv_app0, lv_appk, set_app0, set_appk, List.append_assoc, List.append_nil, Nat.add_assoc, h1, h2, h3, h.sz, ksz', hpg, kp4, h.bl, kbl, h.n12, h.r12]
        refine copyN ?_
        simp only [↓amD, amU, Nat.reduceBEq, Nat.reduceAdd, Nat.reduceSub, Nat.reduceMul, Nat.reduceMod, Nat.reducePow, Nat.reduceLT, Nat.reduceDiv, Int.reduceToNat, BitVec.reduceToNat, zipEnv, Int.reduceLE, Int.reduceLT, Int.reduceNeg, BitVec.reduceEq, Int.reduceAdd, Int.reduceSub, Int.reduceMul, Nat.reduceLeDiff, Int.reduceEq, lv_app0, lv_appk, set_app0, set_appk, List.append_assoc, List.append_nil, Nat.add_assoc]
      · simp only [has, ↓amD, amU, Nat.reduceBEq, Nat.reduceAdd, Nat.reduceSub, Nat.reduceMul, Nat.reduceMod, Nat.reducePow, Nat.reduceLT, Nat.reduceDiv, Int.reduceToNat, BitVec.reduceToNat, zipEnv, Int.reduceLE, Int.reduceLT, Int.reduceNeg, BitVec.reduceEq, Int.reduceAdd, Int.reduceSub, Int.reduceMul, Nat.reduceLeDiff, Int.reduceEq]
  · simp only [↓amD, amU, Nat.reduceBEq, Nat.reduceAdd, Nat.reduceSub, Nat.reduceMul, Nat.reduceMod, Nat.reducePow, Nat.reduceLT, Nat.reduceDiv, Int.reduceToNat, BitVec.reduceToNat, zipEnv, Int.reduceLE, Int.reduceLT, Int.reduceNeg, BitVec.reduceEq, Int.reduceAdd, Int.reduceSub, Int.reduceMul, Nat.reduceLeDiff, Int.reduceEq, c1, c2, decide_false, h.n9, h.r9]
    refine newA 1 (by omega) fun R0 r m hM => ?_
    have hF : FlAt R0 r m (List.replicate 256 255#8) := hM.fl
    have l0 : live R0 0 = some ⟨L8, bs pp⟩ := hM.frame 0 _ rfl
    have k2 := kCutI R0 (d := .sl L8 0 [] 0 pp.length false) (p := pp) (n := 50) (h := BsIn.own l0 _ rfl) (hp := by omega) (hp2 := by simp; omega)
    simp only [h50, hcc] at k2
    have b0 := live_lt l0
    simp only [↓amD, amU, Nat.reduceBEq, Nat.reduceAdd, Nat.reduceSub, Nat.reduceMul, Nat.reduceMod, Nat.reducePow, Nat.reduceLT, Nat.reduceDiv, Int.reduceToNat, BitVec.reduceToNat, zipEnv, Int.reduceLE, Int.reduceLT, Int.reduceNeg, BitVec.reduceEq, Int.reduceAdd, Int.reduceSub, Int.reduceMul, Nat.reduceLeDiff, Int.reduceEq, h.cut, k2, h.n14, h.r14]
    have hF1 := hF.push [some ⟨L8, bs pp⟩]
    have l0' := live_app l0 [some ⟨L8, bs pp⟩]
    have lm : live (R0 ++ [some ⟨L8, bs pp⟩]) R0.length = some ⟨L8, bs pp⟩ := by rw [lv_app0]; rfl
    have lt0 := hF.lt
    have hr0 := hM.hr
    have hm0 := hM.hm
    have hl1 : ([some ⟨L8, bs pp⟩] : Rows).length = 1 := rfl
    generalize hqm : R0.length = qm at *
    generalize R0 ++ [some ⟨L8, bs pp⟩] = R1 at *
    have hw := wr_ok (x := List.replicate 256 255#8) (a := 0) (p := pp) (by simp; omega) (clears_rep 256 pp (by omega))
    rw [show ((0 : Nat) : Int) = 0 from rfl] at hw
    refine writeA hF1 lm (by simp) (by omega) 0 fun R2 U2 => ?_
    have hF2 := U2.fl
    have hxl := wrX_len (List.replicate 256 255#8) 0 pp
    rw [hw.2] at hF2 hxl
    have hsub := sub_splice (List.replicate 256 255#8) pp 0 (by simp; omega)
    rw [hw.1]
    have g0 := U2.frame _ _ l0' (by omega)
    have gm := U2.frame _ _ lm (by omega)
    rw [List.length_replicate] at hxl
    generalize splice (List.replicate 256 255#8) 0 pp = x at *
    have kr1 := fun K => kRead_ok hF2 (by omega) 0 pp.length (by omega) K
    rw [show ((0 : Nat) : Int) = 0 from rfl, hsub] at kr1
    simp only [↓amD, amU, Nat.reduceBEq, Nat.reduceAdd, Nat.reduceSub, Nat.reduceMul, Nat.reduceMod, Nat.reducePow, Nat.reduceLT, Nat.reduceDiv, Int.reduceToNat, BitVec.reduceToNat, zipEnv, Int.reduceLE, Int.reduceLT, Int.reduceNeg, BitVec.reduceEq, Int.reduceAdd, Int.reduceSub, Int.reduceMul, Nat.reduceLeDiff, Int.reduceEq, h.rd, kr1]
    have lt2 := hF2.lt
    have b2 := live_lt gm
    have hF3 := hF2.push [some ⟨L8, bs pp⟩]
    have g0' := live_app g0 [some ⟨L8, bs pp⟩]
    have gm' := live_app gm [some ⟨L8, bs pp⟩]
    have go' : live (R2 ++ [some ⟨L8, bs pp⟩]) R2.length = some ⟨L8, bs pp⟩ := by rw [lv_app0]; rfl
    generalize hqo : R2.length = qo at *
    generalize R2 ++ [some ⟨L8, bs pp⟩] = R3 at *
    refine kLoop_up pp.length (fun k env rows => has env [(59, .raw (it (k : Int))), (58, .raw (it (pp.length : Int))), (13, .sl L8 qm [] 0 pp.length false), (14, .sl L8 qo [] 0 pp.length false), (11, .ptr SF r [0]), (3, .sl L8 0 [] 0 pp.length false), (1, .raw (it i)), (2, .raw (it j))] ∧
      FlAt rows r m x ∧ live rows 0 = some ⟨L8, bs pp⟩ ∧ (∃ a : List (BitVec 8), a.length = pp.length ∧ live rows qm = some ⟨L8, bs a⟩) ∧ (∃ a : List (BitVec 8), a.length = pp.length ∧ live rows qo = some ⟨L8, bs a⟩)) ?_ ?_ ⟨?_, hF3, g0', ⟨pp, rfl, gm'⟩, ⟨pp, rfl, go'⟩⟩
    · rintro k hk env rows ⟨hh, hF, l0, ⟨a, hal, la⟩, ⟨b, hbl, lb⟩⟩ R hR
      simp only [has] at hh
      obtain ⟨h59, h58, h13, h14, h11, h3, h1, h2, -⟩ := hh
      have e0 : ((k : Int) < (pp.length : Int)) = True := eq_true (by omega)
      have e1 : ((0 : Int) ≤ (k : Int)) = True := eq_true (by omega)
      have e2 := wz_succ k (by omega)
      have t1 : (bs a)[k]? = some (.raw (u8 (a.getD k 0#8))) := bs_get (by omega)
      have t2 : (bs b)[k]? = some (.raw (u8 (b.getD k 0#8))) := bs_get (by omega)
      have lb' := live_set_o (y := ⟨L8, bs (a.set k (a.getD k 0#8 + 1#8))⟩) (q := qm) lb (by omega)
      simp only [↓amD, amU, Nat.reduceBEq, Nat.reduceAdd, Nat.reduceSub, Nat.reduceMul, Nat.reduceMod, Nat.reducePow, Nat.reduceLT, Nat.reduceDiv, Int.reduceToNat, BitVec.reduceToNat, zipEnv, Int.reduceLE, Int.reduceLT, Int.reduceNeg, BitVec.reduceEq, Int.reduceAdd, Int.reduceSub, Int.reduceMul, Nat.reduceLeDiff, Int.reduceEq, h59, h58, h13, h14, h11, h3, h1, h2, e0, e1, e2, la, t1, bs_set, lb', t2, decide_true]
      exact hR _ _ ⟨by simp only [has, ↓amD, amU, Nat.reduceBEq, Nat.reduceAdd, Nat.reduceSub, Nat.reduceMul, Nat.reduceMod, Nat.reducePow, Nat.reduceLT, Nat.reduceDiv, Int.reduceToNat, BitVec.reduceToNat, zipEnv, Int.reduceLE, Int.reduceLT, Int.reduceNeg, BitVec.reduceEq, Int.reduceAdd, Int.reduceSub, Int.reduceMul, Nat.reduceLeDiff, Int.reduceEq, h58, h13, h14, h11, h3, h1, h2], (hF.set (by omega) (by omega)).set (by omega) (by omega), live_set_o (live_set_o l0 (by omega)) (by omega),
        ⟨a.set k (a.getD k 0#8 + 1#8), by rw [List.length_set, hal], live_set_o (live_set_eq la) (by omega)⟩, ⟨b.set k (b.getD k 0#8 + 2#8), by rw [List.length_set, hbl], live_set_eq lb'⟩⟩
    · rintro env rows ⟨hh, hF, l0, -, -⟩ R
      simp only [has] at hh
      obtain ⟨h59, h58, h13, h14, h11, h3, h1, h2, -⟩ := hh
      have e0 : ((pp.length : Int) < (pp.length : Int)) = False := eq_false (by omega)
      have kr2 := fun K => kRead_ok hF (by omega) 0 pp.length (by omega) K
      rw [show ((0 : Nat) : Int) = 0 from rfl, hsub] at kr2
      have ksm := fun K => kSame (rows ++ [some ⟨L8, bs pp⟩]) K (.sl L8 rows.length [] 0 pp.length false) (.sl L8 0 [] 0 pp.length false) pp pp (BsIn.own (by rw [lv_app0]; rfl) _ rfl) (BsIn.own (live_push l0) _ rfl) (by omega) (by omega)
      obtain ⟨e4, hv4⟩ := (hF.push [some ⟨L8, bs pp⟩, some ⟨LI, [.raw (it (-1)), .raw (it 1), .raw (it 7)]⟩]).view
      have hpl := pages_len x e4 (by omega)
      have kp1 : ∀ K, kCall fPages (rows ++ [some ⟨L8, bs pp⟩, some ⟨LI, [.raw (it (-1)), .raw (it 1), .raw (it 7)]⟩]) K [.ptr SF r [0], .sl LI (rows.length + 1) [] 0 3 true] = K (.sl L8 (rows.length + 2) [] 0 0 false) (rows ++ [some ⟨L8, bs pp⟩, some ⟨LI, [.raw (it (-1)), .raw (it 1), .raw (it 7)]⟩, some ⟨L8, []⟩]) := fun K => by
        have := kPages hv4 (show x.length ≤ 1048576 by omega) (q := rows.length + 1) (ex := true) (l := [-1, 1, 7]) (by rw [lv_appk]; rfl) (by simp) K
        have hz : pgN (some (x, e4)) [-1, 1, 7] [(-1 : Int), 1, 7].length = [] := List.eq_nil_of_length_eq_zero hpl.1
        rw [hz] at this
        simpa [bs] using this
      obtain ⟨e5, hv5⟩ := (hF.push [some ⟨L8, bs pp⟩, some ⟨LI, [.raw (it (-1)), .raw (it 1), .raw (it 7)]⟩, some ⟨L8, []⟩, some ⟨LI, [.raw (it 0), .raw (it 0)]⟩]).view
      have hpl5 := pages_len x e5 (by omega)
      have kp2 : ∀ K, kCall fPages (rows ++ [some ⟨L8, bs pp⟩, some ⟨LI, [.raw (it (-1)), .raw (it 1), .raw (it 7)]⟩, some ⟨L8, []⟩, some ⟨LI, [.raw (it 0), .raw (it 0)]⟩]) K [.ptr SF r [0], .sl LI (rows.length + 3) [] 0 2 true] = K (.sl L8 (rows.length + 4) [] 0 512 false) (rows ++ [some ⟨L8, bs pp⟩, some ⟨LI, [.raw (it (-1)), .raw (it 1), .raw (it 7)]⟩, some ⟨L8, []⟩, some ⟨LI, [.raw (it 0), .raw (it 0)]⟩, some ⟨L8, bs (pgN (some (x, e5)) [0, 0] 2)⟩]) := fun K => by
        have := kPages hv5 (show x.length ≤ 1048576 by omega) (q := rows.length + 3) (ex := true) (l := [0, 0]) (by rw [lv_appk]; rfl) (by simp) K
        have hz : (pgN (some (x, e5)) [0, 0] [(0 : Int), 0].length).length = 512 := hpl5.2
        rw [hz] at this
        simpa using this
      generalize bs (pgN (some (x, e5)) [0, 0] 2) = zz at *
      have kr3 : ∀ (R : Rows) K, kCall fRead R K [.raw (.pointer none), .raw (it i), .raw (it j)] = K (.tup [.raw (.slice none 0 0), .raw (it 3)]) R := fun R K => by
        rw [kRead (flNil R) (Nat.zero_le _)]
        simp [outR, errW, shift, shiftL, shiftRows]
      have kaf : ∀ (R : Rows) K, live R 0 = some ⟨L8, bs pp⟩ → kCall fAfter R K [.raw (.pointer none), .raw (it i), .raw (it j), .sl L8 0 [] 0 pp.length false] = K (.tup [.raw (.slice none 0 0), .raw (it 3)]) R := fun R K hl => by
        rw [kAfter (K := none) rfl (Nat.zero_le _) i j hl (by omega)]
        simp [outA, errA, errP, shift, shiftL, shiftRows]
      have kaf' := fun more K => kaf (rows ++ more) K (live_push l0)
      have ksz := fun (R : Rows) K => kSize (flNil R) K
      have kbl : ∀ (R : Rows) K, kCall fBlank R K [.raw (.pointer none), .raw (it 0), .raw (it 0)] = K (.raw (.bool false)) R := fun R K => by
        rw [kBlank (flNil R) (Nat.zero_le _)]
        have : blankB none 0 0 = false := by rw [blankB, if_pos]; right; right; right; right; simp [errW]
        rw [this]
      simp only [flLen, Int.natCast_zero, Int.ofNat_zero] at ksz
      have ksz' : ∀ (R : Rows) K, kCall fSize R K [.raw (.pointer none)] = K (.raw (it 0)) R := ksz
      simp only [↓amD, amU, Nat.reduceBEq, Nat.reduceAdd, Nat.reduceSub, Nat.reduceMul, Nat.reduceMod, Nat.reducePow, Nat.reduceLT, Nat.reduceDiv, Int.reduceToNat, BitVec.reduceToNat, zipEnv, Int.reduceLE, Int.reduceLT, Int.reduceNeg, BitVec.reduceEq, Int.reduceAdd, Int.reduceSub, Int.reduceMul, Nat.reduceLeDiff, Int.reduceEq, lv_app0, lv_appk, set_app0, set_appk, List.append_assoc, List.append_nil, Nat.add_assoc, h59, h58, h13, h14, h11, h3, h1, h2, e0, h.rd, kr2, h.same, ksm, hpg, kp1, kp2, kr3, haf, kaf', h.n13, h.r13, decide_true, decide_false]
      refine eraseN i ?_
      simp only [↓amD, amU, Nat.reduceBEq, Nat.reduceAdd, Nat.reduceSub, Nat.reduceMul, Nat.reduceMod, Nat.reducePow, Nat.reduceLT, Nat.reduceDiv, Int.reduceToNat, BitVec.reduceToNat, zipEnv, Int.reduceLE, Int.reduceLT, Int.reduceNeg, BitVec.reduceEq, Int.reduceAdd, Int.reduceSub, Int.reduceMul, Nat.reduceLeDiff, Int.reduceEq, lv_app0, lv_appk, set_app0, set_appk, List.append_assoc, List.append_nil, Nat.add_assoc, h1, h2, h3, h.n14, h.r14]
      refine writeN i (n := pp.length) (d := .sl L8 0 [] 0 pp.length false) rfl ?_
      simp only [↓amD, amU, Nat.reduceBEq, Nat.reduceAdd, Nat.reduceSub, Nat.reduceMul, Nat.reduceMod, Nat.reducePow, Nat.reduceLT, Nat.reduceDiv, Int.reduceToNat, BitVec.reduceToNat, zipEnv, Int.reduceLE, Int.reduceLT, Int.reduceNeg, BitVec.reduceEq, Int.reduceAdd, Int.reduceSub, Int.reduceMul, Nat.reduceLeDiff, Int.reduceEq, lv_app0, lv_appk, set_app0, set_appk, List.append_assoc, List.append_nil, Nat.add_assoc, h1, h2, h3, h.n20, h.r20]
      refine tearN i ?_
      simp only [↓amD, amU, Nat.reduceBEq, Nat.reduceAdd, Nat.reduceSub, Nat.reduceMul, Nat.reduceMod, Nat.reducePow, Nat.reduceLT, Nat.reduceDiv, Int.reduceToNat, BitVec.reduceToNat, zipEnv, Int.reduceLE, Int.reduceLT, Int.reduceNeg, BitVec.reduceEq, Int.reduceAdd, Int.reduceSub, Int.reduceMul, Nat.reduceLeDiff, Int.reduceEq, lv_app0, lv_appk, set_app0, set_appk, List.append_assoc, List.append_nil, Nat.add_assoc, h1, h2, h3, h.n10, h.r10]
      refine turnN i 1#8 ?_
      have kp3 : ∀ (R : Rows) K, kCall fPages (R ++ [some ⟨LI, [.raw (it 0)]⟩]) K [.raw (.pointer none), .sl LI R.length [] 0 1 true] = K (.sl L8 (R.length + 1) [] 0 0 false) (R ++ [some ⟨LI, [.raw (it 0)]⟩, some ⟨L8, []⟩]) := fun R K => by
        have := kPages (rows := R ++ [some ⟨LI, [.raw (it 0)]⟩]) (d := .raw (.pointer none)) (K := none) rfl (Nat.zero_le _) (q := R.length) (ex := true) (l := [0]) (by rw [lv_app0]; rfl) (by simp) K
        have hz : pgN none [0] [(0 : Int)].length = [] := rfl
        rw [hz] at this
        simpa [bs] using this
      have kp4 := kp3 (rows ++ [some ⟨L8, bs pp⟩, some ⟨LI, [.raw (it (-1)), .raw (it 1), .raw (it 7)]⟩, some ⟨L8, []⟩, some ⟨LI, [.raw (it 0), .raw (it 0)]⟩, some ⟨L8, zz⟩])
      simp only [List.append_assoc, List.cons_append, List.nil_append, List.length_append, List.length_cons, List.length_nil, Nat.zero_add, Nat.add_assoc, Nat.reduceAdd] at kp4
      simp only [↓amD, amU, Nat.reduceBEq, Nat.reduceAdd, Nat.reduceSub, Nat.reduceMul, Nat.reduceMod, Nat.reducePow, Nat.reduceLT, Nat.reduceDiv, Int.reduceToNat, BitVec.reduceToNat, zipEnv, Int.reduceLE, Int.reduceLT, Int.reduceNeg, BitVec.reduceEq, Int.reduceAdd, Int.reduceSub, Int.reduceMul, Nat.reduceLeDiff, Int.reduceEq, lv_app0, lv_appk, set_app0, set_appk, List.append_assoc, List.append_nil, Nat.add_assoc, h1, h2, h3, h.sz, ksz', hpg, kp4, h.bl, kbl, h.n12, h.r12]
      refine copyN ?_
      simp only [↓amD, amU, Nat.reduceBEq, Nat.reduceAdd, Nat.reduceSub, Nat.reduceMul, Nat.reduceMod, Nat.reducePow, Nat.reduceLT, Nat.reduceDiv, Int.reduceToNat, BitVec.reduceToNat, zipEnv, Int.reduceLE, Int.reduceLT, Int.reduceNeg, BitVec.reduceEq, Int.reduceAdd, Int.reduceSub, Int.reduceMul, Nat.reduceLeDiff, Int.reduceEq, lv_app0, lv_appk, set_app0, set_appk, List.append_assoc, List.append_nil, Nat.add_assoc]
    · simp only [has, ↓amD, amU, Nat.reduceBEq, Nat.reduceAdd, Nat.reduceSub, Nat.reduceMul, Nat.reduceMod, Nat.reducePow, Nat.reduceLT, Nat.reduceDiv, Int.reduceToNat, BitVec.reduceToNat, zipEnv, Int.reduceLE, Int.reduceLT, Int.reduceNeg, BitVec.reduceEq, Int.reduceAdd, Int.reduceSub, Int.reduceMul, Nat.reduceLeDiff, Int.reduceEq]
end Job
end Go.Am
