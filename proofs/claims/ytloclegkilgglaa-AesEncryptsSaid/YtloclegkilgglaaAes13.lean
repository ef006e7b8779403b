/- AES: the law of the arguments -/
import Derived.Test.YtloclegkilgglaaAes12
namespace Go.Am
set_option linter.unusedSimpArgs false
set_option linter.unusedVariables false
attribute [local congr] bnd_congr kCond_congr kGd_congr kPick_congr kCall_congr kIdx_congr kSlice_congr kLoop_congr cond_congr' aBin_congr aBounds_congr aApp_congr aCopy_congr kFn_congr
namespace Job
open Go.Am.F
set_option maxRecDepth 10000
theorem eq16n (a : List (BitVec 8)) (ha : a.length = 16) : eqA (.ar 16 L8) (b16D a) (b16D a) = some true := by
  rw [eq16 a a ha ha]; simp
theorem kD_eq : kD none = .agg S1 [.raw (.slice none 0 0), .agg (.ar 256 L8) (bs z256), .agg (.ar 256 L8) (bs z256)] := rfl
/-- what the law's rows hold -/
structure Fr (b c d pp : List (BitVec 8)) (s10 s13 : Nat) (kd : D) (was : List (BitVec 8)) (rows : Rows) : Prop where
  f0 : live rows 0 = some ⟨.ar 16 L8, [b16D b]⟩
  f1 : live rows 1 = some ⟨.ar 16 L8, [b16D c]⟩
  f2 : live rows 2 = some ⟨.ar 16 L8, [b16D d]⟩
  f3 : live rows 3 = some ⟨L8, bs pp⟩
  f10 : live rows s10 = some ⟨S1, [kd]⟩
  f13 : live rows s13 = some ⟨.ar 16 L8, [b16D was]⟩
theorem Fr.push {b c d pp : List (BitVec 8)} {s10 s13 : Nat} {kd : D} {was : List (BitVec 8)} {rows : Rows} (h : Fr b c d pp s10 s13 kd was rows) (more : Rows) : Fr b c d pp s10 s13 kd was (rows ++ more) :=
  ⟨live_push h.f0, live_push h.f1, live_push h.f2, live_push h.f3, live_push h.f10, live_push h.f13⟩
theorem Fr.set {b c d pp : List (BitVec 8)} {s10 s13 : Nat} {kd : D} {was : List (BitVec 8)} {rows : Rows} (h : Fr b c d pp s10 s13 kd was rows) {q : Nat} {y : Row} (h4 : 4 ≤ q) (h5 : q ≠ s10) (h6 : q ≠ s13) : Fr b c d pp s10 s13 kd was (rows.set q (some y)) :=
  ⟨live_set_o h.f0 (by omega), live_set_o h.f1 (by omega), live_set_o h.f2 (by omega), live_set_o h.f3 (by omega), live_set_o h.f10 h5, live_set_o h.f13 h6⟩
set_option maxHeartbeats 4000000 in
theorem args_law (C : Ctx) (h : AesC C) (ha : C.fn 8 = some fAwakeA) (hw : C.fn 20 = some fWordsK) (hr : C.fn 19 = some fRounds) (hs : C.fn 23 = some fSame) (hx : C.fn 25 = some fXor) (hxr : C.fn 26 = some fXorR)
    (p b c d : List (BitVec 8)) (hp : p.length ≤ maxLen) (hb : b.length = 16) (hc : c.length = 16) (hd : d.length = 16) :
    afun C 4 r_law03_AesArgs a_law03_AesArgs [.lst L8 (bs p) false, b16D b, b16D c, b16D d] [] (fun d _ => d = .raw (.bool true)) := by
  refine afun_mk rfl ?_
  unfold a_law03_AesArgs r_law03_AesArgs
  unfold maxLen at hp
  simp only [rep_z, rep_z16]
  have k1 := fun rows k => kCutI rows k (.lst L8 (bs p) false) p 40 (IsBs.to (.inr ⟨false, rfl⟩)) (by omega) (by simp; omega)
  have h40 : Int.toNat 40 = 40 := rfl
  simp only [h40] at k1
  have hl40 : (p.take 40).length ≤ 40 := by simp; omega
  have hcc : (p.take 40).take 40 = p.take 40 := List.take_of_length_le hl40
  simp only [↓amD, amU, Nat.reduceBEq, Nat.reduceAdd, Nat.reduceSub, Nat.reduceMul, Nat.reduceMod, Nat.reducePow, Nat.reduceLT, Nat.reduceDiv, Int.reduceToNat, BitVec.reduceToNat, zipEnv, Int.reduceLE, Int.reduceLT, Int.reduceNeg, BitVec.reduceEq, Int.reduceAdd, Int.reduceSub, Int.reduceMul, Nat.reduceLeDiff, Int.reduceEq, b16_fits, ha, kAwakeA, h.cut, k1]
  generalize p.take 40 = pp at *
  have k2 := fun rows k h3 => kCutI rows k (.sl L8 3 [] 0 pp.length false) pp 40 (BsIn.own h3 _ rfl) (by omega) (by simp; omega)
  simp only [h40, hcc] at k2
  have k2a := fun k => k2 [some ⟨.ar 16 L8, [b16D b]⟩, some ⟨.ar 16 L8, [b16D c]⟩, some ⟨.ar 16 L8, [b16D d]⟩, some ⟨L8, bs pp⟩] k rfl
  simp only [↓amD, amU, Nat.reduceBEq, Nat.reduceAdd, Nat.reduceSub, Nat.reduceMul, Nat.reduceMod, Nat.reducePow, Nat.reduceLT, Nat.reduceDiv, Int.reduceToNat, BitVec.reduceToNat, zipEnv, Int.reduceLE, Int.reduceLT, Int.reduceNeg, BitVec.reduceEq, Int.reduceAdd, Int.reduceSub, Int.reduceMul, Nat.reduceLeDiff, Int.reduceEq, k2a, h.n9, h.r9]
  by_cases hrt : pp.length = 16 ∨ pp.length = 32
  · have er : ((((pp.length : Nat) : Int) = 16) = True ∧ True) ∨ ((((pp.length : Nat) : Int) = 16) = False ∧ (((pp.length : Nat) : Int) = 32) = True) := by
      rcases hrt with h | h
      · exact .inl ⟨eq_true (by omega), trivial⟩
      · exact .inr ⟨eq_false (by omega), eq_true (by omega)⟩
    refine new_run (kb := pp) rfl hrt fun kd rs hK => ?_
    have g0 : live rs 0 = some ⟨.ar 16 L8, [b16D b]⟩ := hK.frame 0 _ rfl
    have g1 : live rs 1 = some ⟨.ar 16 L8, [b16D c]⟩ := hK.frame 1 _ rfl
    have g2 : live rs 2 = some ⟨.ar 16 L8, [b16D d]⟩ := hK.frame 2 _ rfl
    have g3 : live rs 3 = some ⟨L8, bs pp⟩ := hK.frame 3 _ rfl
    have g4 : live rs 4 = some ⟨L8, bs pp⟩ := hK.frame 4 _ rfl
    have hW : 8 ≤ (sched pp).length ∧ (sched pp).length ≤ 64 := by rw [sched_len]; rcases hrt with h | h <;> omega
    have hne : sched pp ≠ [] := by intro h; rw [h] at hW; simp at hW
    obtain ⟨m, ex, rfl, hm⟩ : ∃ m ex, kd = .sl L32 m [] 0 (us (sched pp)).length ex ∧ live rs m = some ⟨L32, us (sched pp)⟩ := by
      rcases hK.own with ⟨h1, _⟩ | h
      · exact absurd (us_inj (b := []) h1) hne
      · exact h
    have hm5 : 5 ≤ m := hK.fresh _ _ _ rfl
    have hmb := live_lt hm
    obtain ⟨Kp, hKp⟩ : ∃ Kp : Rows → Prop, Kp = fun rows => live rows m = some ⟨L32, us (sched pp)⟩ := ⟨_, rfl⟩
    have p0 : Kp rs := by rw [hKp]; exact hm
    have pP : ∀ rows more, Kp rows → Kp (rows ++ more) := fun rows more h => by rw [hKp] at h ⊢; exact live_push h
    have pS : ∀ rows q y, (q = 4 ∨ rs.length ≤ q) → Kp rows → Kp (rows.set q (some y)) := fun rows q y h1 h => by rw [hKp] at h ⊢; exact live_set_o h (by omega)
    have hO : ∀ rows, Kp rows → Own L32 (.sl L32 m [] 0 (us (sched pp)).length ex) rows (us (sched pp)) := fun rows h => .inr ⟨m, ex, rfl, by rw [hKp] at h; exact h⟩
    have kE : ∀ rows k x, Kp rows → x.length = 16 → kCall fEnc rows k [kA (.sl L32 m [] 0 (us (sched pp)).length ex), b16D x] = k (b16D (encS (keyR (sched pp)) boxL ((sched pp).length / 4 - 1) x)) rows := fun rows k x hk hx => kEnc (hO _ hk) hW.1 hW.2 k x hx
    have kWd : ∀ rows k, Kp rows → kCall fWordsK rows k [kA (.sl L32 m [] 0 (us (sched pp)).length ex)] = k (.sl L32 (0 + rows.length) [] 0 (sched pp).length false) (rows ++ [some ⟨L32, us (sched pp)⟩]) := fun rows k hk => kWordsA (hO _ hk) hne hW.2 k
    have hel := encS_len (sched pp) boxL b ((sched pp).length / 4 - 1) hb
    have hkf := kA_fits (.sl L32 m [] 0 (us (sched pp)).length ex)
    generalize kA (.sl L32 m [] 0 (us (sched pp)).length ex) = kd at *
    generalize encS (keyR (sched pp)) boxL ((sched pp).length / 4 - 1) = E at *
    generalize sched pp = wl at *
    have kEb := fun more k => kE (rs ++ more) k b (pP _ _ p0) hb
    rcases er with ⟨e16, -⟩ | ⟨e16, e32⟩
    · simp only [↓amD, amU, Nat.reduceBEq, Nat.reduceAdd, Nat.reduceSub, Nat.reduceMul, Nat.reduceMod, Nat.reducePow, Nat.reduceLT, Nat.reduceDiv, Int.reduceToNat, BitVec.reduceToNat, zipEnv, Int.reduceLE, Int.reduceLT, Int.reduceNeg, BitVec.reduceEq, Int.reduceAdd, Int.reduceSub, Int.reduceMul, Nat.reduceLeDiff, Int.reduceEq, lv_app0, lv_appk, set_app0, set_appk, List.append_assoc, List.append_nil, Nat.add_assoc, e16, live_app g0, hkf, b16_fits, h.enc, kEb, beq_self_eq_true]
      have b4 := live_lt g4
      have F0 : Fr b c d pp rs.length (rs.length + 1) kd (E b) (rs ++ [some ⟨S1, [kd]⟩, some ⟨.ar 16 L8, [b16D (E b)]⟩]) := ⟨live_push g0, live_push g1, live_push g2, live_push g3, by rw [lv_app0]; rfl, by rw [lv_appk]; rfl⟩
      have G4 := live_app g4 [some ⟨S1, [kd]⟩, some ⟨.ar 16 L8, [b16D (E b)]⟩]
      have P0 := pP _ [some ⟨S1, [kd]⟩, some ⟨.ar 16 L8, [b16D (E b)]⟩] p0
      generalize hs13 : rs.length + 1 = s13 at *
      generalize rs ++ [some ⟨S1, [kd]⟩, some ⟨.ar 16 L8, [b16D (E b)]⟩] = RS0 at *
      refine kLoop_up pp.length (fun i env rows => has env [(78, .raw (it (i : Int))), (77, .raw (it (pp.length : Int))), (9, .sl L8 4 [] 0 pp.length false), (10, .ptr S1 rs.length [0]), (13, .ptr (.ar 16 L8) s13 [0]), (5, .ptr (.ar 16 L8) 0 [0]), (6, .ptr (.ar 16 L8) 1 [0]), (7, .ptr (.ar 16 L8) 2 [0]), (0, .sl L8 3 [] 0 pp.length false)] ∧
        Fr b c d pp rs.length s13 kd (E b) rows ∧ Kp rows ∧ ∃ mm : List (BitVec 8), mm.length = pp.length ∧ live rows 4 = some ⟨L8, bs mm⟩) ?_ ?_ ⟨?_, F0, P0, pp, rfl, G4⟩
      · rintro i hi env rows ⟨hh, hF, hKr, mm, hml, l4⟩ R hR
        simp only [has] at hh
        obtain ⟨h78, h77, h9, h10, h13, h5, h6, h7, h0, -⟩ := hh
        have e0 : ((i : Int) < (pp.length : Int)) = True := eq_true (by omega)
        have e1 : ((0 : Int) ≤ (i : Int)) = True := eq_true (by omega)
        have e2 := wz_succ i (by omega)
        have g : (bs mm)[i]? = some (.raw (u8 (mm.getD i 0#8))) := bs_get (by omega)
        simp only [↓amD, amU, Nat.reduceBEq, Nat.reduceAdd, Nat.reduceSub, Nat.reduceMul, Nat.reduceMod, Nat.reducePow, Nat.reduceLT, Nat.reduceDiv, Int.reduceToNat, BitVec.reduceToNat, zipEnv, Int.reduceLE, Int.reduceLT, Int.reduceNeg, BitVec.reduceEq, Int.reduceAdd, Int.reduceSub, Int.reduceMul, Nat.reduceLeDiff, Int.reduceEq, h78, h77, h9, h10, h13, h5, h6, h7, h0, e0, e1, e2, l4, g, bs_set, decide_true]
        exact hR _ _ ⟨by simp only [has, ↓amD, amU, Nat.reduceBEq, Nat.reduceAdd, Nat.reduceSub, Nat.reduceMul, Nat.reduceMod, Nat.reducePow, Nat.reduceLT, Nat.reduceDiv, Int.reduceToNat, BitVec.reduceToNat, zipEnv, Int.reduceLE, Int.reduceLT, Int.reduceNeg, BitVec.reduceEq, Int.reduceAdd, Int.reduceSub, Int.reduceMul, Nat.reduceLeDiff, Int.reduceEq, h77, h9, h10, h13, h5, h6, h7, h0], hF.set (by omega) (by omega) (by omega), pS _ _ _ (.inl rfl) hKr, mm.set i (mm.getD i 0#8 + 1#8), by rw [List.length_set, hml], live_set_eq l4⟩
      · rintro env rows ⟨hh, hF, hKr, mm, hml, l4⟩ R
        simp only [has] at hh
        obtain ⟨h78, h77, h9, h10, h13, h5, h6, h7, h0, -⟩ := hh
        have e0 : ((pp.length : Int) < (pp.length : Int)) = False := eq_false (by omega)
        have kWr := fun k => kWd rows k hKr
        have q10 := hF.f10
        simp only [↓amD, amU, Nat.reduceBEq, Nat.reduceAdd, Nat.reduceSub, Nat.reduceMul, Nat.reduceMod, Nat.reducePow, Nat.reduceLT, Nat.reduceDiv, Int.reduceToNat, BitVec.reduceToNat, zipEnv, Int.reduceLE, Int.reduceLT, Int.reduceNeg, BitVec.reduceEq, Int.reduceAdd, Int.reduceSub, Int.reduceMul, Nat.reduceLeDiff, Int.reduceEq, h78, h77, h9, h10, h13, h5, h6, h7, h0, e0, q10, hkf, hw, kWr]
        have b10 := live_lt hF.f10
        have b13 := live_lt hF.f13
        have b4' := live_lt l4
        have l15 : live (rows ++ [some ⟨L32, us wl⟩]) rows.length = some ⟨L32, us wl⟩ := live_len
        have hF2 := hF.push [some ⟨L32, us wl⟩]
        have hK2 := pP _ [some ⟨L32, us wl⟩] hKr
        generalize rows ++ [some ⟨L32, us wl⟩] = RS at *
        refine kLoop_up wl.length (fun i env rows2 => has env [(92, .raw (it (i : Int))), (91, .raw (it (wl.length : Int))), (15, .sl L32 rows.length [] 0 wl.length false), (10, .ptr S1 rs.length [0]), (13, .ptr (.ar 16 L8) s13 [0]), (5, .ptr (.ar 16 L8) 0 [0]), (6, .ptr (.ar 16 L8) 1 [0]), (7, .ptr (.ar 16 L8) 2 [0]), (0, .sl L8 3 [] 0 pp.length false)] ∧
          Fr b c d pp rs.length s13 kd (E b) rows2 ∧ Kp rows2 ∧ ∃ v : List (BitVec 32), v.length = wl.length ∧ live rows2 rows.length = some ⟨L32, us v⟩) ?_ ?_ ⟨?_, hF2, hK2, wl, rfl, l15⟩
        · rintro i hi env rows2 ⟨hh, hF, hKr, v, hvl, l15⟩ R hR
          simp only [has] at hh
          obtain ⟨h92, h91, h15, h10, h13, h5, h6, h7, h0, -⟩ := hh
          have e0 : ((i : Int) < (wl.length : Int)) = True := eq_true (by omega)
          have e1 : ((0 : Int) ≤ (i : Int)) = True := eq_true (by omega)
          have e2 := wz_succ i (by omega)
          have g : (us v)[i]? = some (.raw (u32 (v.getD i 0#32))) := us_get (by omega)
          simp only [↓amD, amU, Nat.reduceBEq, Nat.reduceAdd, Nat.reduceSub, Nat.reduceMul, Nat.reduceMod, Nat.reducePow, Nat.reduceLT, Nat.reduceDiv, Int.reduceToNat, BitVec.reduceToNat, zipEnv, Int.reduceLE, Int.reduceLT, Int.reduceNeg, BitVec.reduceEq, Int.reduceAdd, Int.reduceSub, Int.reduceMul, Nat.reduceLeDiff, Int.reduceEq, h92, h91, h15, h10, h13, h5, h6, h7, h0, e0, e1, e2, l15, g, us_set, decide_true]
          exact hR _ _ ⟨by simp only [has, ↓amD, amU, Nat.reduceBEq, Nat.reduceAdd, Nat.reduceSub, Nat.reduceMul, Nat.reduceMod, Nat.reducePow, Nat.reduceLT, Nat.reduceDiv, Int.reduceToNat, BitVec.reduceToNat, zipEnv, Int.reduceLE, Int.reduceLT, Int.reduceNeg, BitVec.reduceEq, Int.reduceAdd, Int.reduceSub, Int.reduceMul, Nat.reduceLeDiff, Int.reduceEq, h91, h15, h10, h13, h5, h6, h7, h0], hF.set (by omega) (by omega) (by omega), pS _ _ _ (.inr (by omega)) hKr, v.set i (v.getD i 0#32 + 1#32), by rw [List.length_set, hvl], live_set_eq l15⟩
        · rintro env Z ⟨hh, hF, hKr, v, hvl, l15⟩ R
          simp only [has] at hh
          obtain ⟨h92, h91, h15, h10, h13, h5, h6, h7, h0, -⟩ := hh
          have e0 : ((wl.length : Int) < (wl.length : Int)) = False := eq_false (by omega)
          have z0 := hF.f0
          have z1 := hF.f1
          have z2 := hF.f2
          have z3 := hF.f3
          have z10 := hF.f10
          have z13 := hF.f13
          have kEz := fun k => kE Z k b hKr hb
          have hA : all16 [b, c, d] = true := by simp [all16, hb, hc, hd]
          have hB : all16 [b, b] = true := by simp [all16, hb]
          have hCc : all16 [b] = true := by simp [all16, hb]
          have x1 : ∀ k, kCall fXor (Z ++ [some ⟨.ar 16 L8, [b16D b, b16D c, b16D d]⟩]) k [.sl (.ar 16 L8) Z.length [] 0 3 true] = k (b16D (addS d (addS c b))) (Z ++ [some ⟨.ar 16 L8, [b16D b, b16D c, b16D d]⟩]) := fun k => by
            have := kXor (rows := Z ++ [some ⟨.ar 16 L8, [b16D b, b16D c, b16D d]⟩]) (r := Z.length) (ex := true) (ls := [b, c, d]) (by rw [lv_app0]; rfl) hA (by simp) k
            have e : xorL [b, c, d] [b, c, d].length = addS d (addS c (addS b z16)) := rfl
            rw [e, add_z b hb] at this
            exact this
          have x2 : ∀ k, kCall fXor (Z ++ [some ⟨.ar 16 L8, [b16D b, b16D c, b16D d]⟩, some ⟨.ar 16 L8, [b16D b, b16D b]⟩]) k [.sl (.ar 16 L8) (Z.length + 1) [] 0 2 true] = k (b16D z16) (Z ++ [some ⟨.ar 16 L8, [b16D b, b16D c, b16D d]⟩, some ⟨.ar 16 L8, [b16D b, b16D b]⟩]) := fun k => by
            have := kXor (rows := Z ++ [some ⟨.ar 16 L8, [b16D b, b16D c, b16D d]⟩, some ⟨.ar 16 L8, [b16D b, b16D b]⟩]) (r := Z.length + 1) (ex := true) (ls := [b, b]) (by rw [lv_appk]; rfl) hB (by simp) k
            have e : xorL [b, b] [b, b].length = addS b (addS b z16) := rfl
            rw [e, add_z b hb, add_self b hb] at this
            exact this
          have x3 : ∀ k, kCall fXor (Z ++ [some ⟨.ar 16 L8, [b16D b, b16D c, b16D d]⟩, some ⟨.ar 16 L8, [b16D b, b16D b]⟩, some ⟨.ar 16 L8, [b16D b]⟩]) k [.sl (.ar 16 L8) (Z.length + 2) [] 0 1 true] = k (b16D b) (Z ++ [some ⟨.ar 16 L8, [b16D b, b16D c, b16D d]⟩, some ⟨.ar 16 L8, [b16D b, b16D b]⟩, some ⟨.ar 16 L8, [b16D b]⟩]) := fun k => by
            have := kXor (rows := Z ++ [some ⟨.ar 16 L8, [b16D b, b16D c, b16D d]⟩, some ⟨.ar 16 L8, [b16D b, b16D b]⟩, some ⟨.ar 16 L8, [b16D b]⟩]) (r := Z.length + 2) (ex := true) (ls := [b]) (by rw [lv_appk]; rfl) hCc (by simp) k
            have e : xorL [b] [b].length = addS b z16 := rfl
            rw [e, add_z b hb] at this
            exact this
          have y1 := fun rows k => kXorR rows k b c hb hc
          have hbc : (addS c b).length = 16 := add_len _ _ hc hb
          have y2 := fun rows k => kXorR rows k (addS c b) d hbc hd
          have q1 := eq16n (E b) hel
          have q2 := eq16n (addS d (addS c b)) (add_len _ _ hd hbc)
          have q3 := eq16n z16 List.length_replicate
          have q4 := eq16n b hb
          have kct := fun k => k2 (Z ++ [some ⟨.ar 16 L8, [b16D b, b16D c, b16D d]⟩, some ⟨.ar 16 L8, [b16D b, b16D b]⟩, some ⟨.ar 16 L8, [b16D b]⟩]) k (live_push z3)
          have ksm := fun k => kSame (Z ++ [some ⟨.ar 16 L8, [b16D b, b16D c, b16D d]⟩, some ⟨.ar 16 L8, [b16D b, b16D b]⟩, some ⟨.ar 16 L8, [b16D b]⟩, some ⟨L8, bs pp⟩]) k (.sl L8 3 [] 0 pp.length false) (.sl L8 (Z.length + 3) [] 0 pp.length false) pp pp (BsIn.own (live_push z3) _ rfl) (BsIn.own (by rw [lv_appk]; rfl) _ rfl) (by omega) (by omega)
          simp only [↓amD, amU, Nat.reduceBEq, Nat.reduceAdd, Nat.reduceSub, Nat.reduceMul, Nat.reduceMod, Nat.reducePow, Nat.reduceLT, Nat.reduceDiv, Int.reduceToNat, BitVec.reduceToNat, zipEnv, Int.reduceLE, Int.reduceLT, Int.reduceNeg, BitVec.reduceEq, Int.reduceAdd, Int.reduceSub, Int.reduceMul, Nat.reduceLeDiff, Int.reduceEq, lv_app0, lv_appk, set_app0, set_appk, List.append_assoc, List.append_nil, Nat.add_assoc, h92, h91, h15, h10, h13, h5, h6, h7, h0, e0, z0, z1, z2, z3, z10, z13, live_app z0, live_app z1, live_app z2, h.enc, h.cut, hx, hxr, hs, kEz, b16_fits, x1, x2, x3, y1, y2, q1, q2, q3, q4, kXor0, kct, ksm, beq_self_eq_true, decide_true]
        · simp only [has, ↓amD, amU, Nat.reduceBEq, Nat.reduceAdd, Nat.reduceSub, Nat.reduceMul, Nat.reduceMod, Nat.reducePow, Nat.reduceLT, Nat.reduceDiv, Int.reduceToNat, BitVec.reduceToNat, zipEnv, Int.reduceLE, Int.reduceLT, Int.reduceNeg, BitVec.reduceEq, Int.reduceAdd, Int.reduceSub, Int.reduceMul, Nat.reduceLeDiff, Int.reduceEq, h10, h13, h5, h6, h7, h0]
      · simp only [has, ↓amD, amU, Nat.reduceBEq, Nat.reduceAdd, Nat.reduceSub, Nat.reduceMul, Nat.reduceMod, Nat.reducePow, Nat.reduceLT, Nat.reduceDiv, Int.reduceToNat, BitVec.reduceToNat, zipEnv, Int.reduceLE, Int.reduceLT, Int.reduceNeg, BitVec.reduceEq, Int.reduceAdd, Int.reduceSub, Int.reduceMul, Nat.reduceLeDiff, Int.reduceEq]
    · simp only [↓amD, amU, Nat.reduceBEq, Nat.reduceAdd, Nat.reduceSub, Nat.reduceMul, Nat.reduceMod, Nat.reducePow, Nat.reduceLT, Nat.reduceDiv, Int.reduceToNat, BitVec.reduceToNat, zipEnv, Int.reduceLE, Int.reduceLT, Int.reduceNeg, BitVec.reduceEq, Int.reduceAdd, Int.reduceSub, Int.reduceMul, Nat.reduceLeDiff, Int.reduceEq, lv_app0, lv_appk, set_app0, set_appk, List.append_assoc, List.append_nil, Nat.add_assoc, e16, e32, live_app g0, hkf, b16_fits, h.enc, kEb, beq_self_eq_true]
      have b4 := live_lt g4
      have F0 : Fr b c d pp rs.length (rs.length + 1) kd (E b) (rs ++ [some ⟨S1, [kd]⟩, some ⟨.ar 16 L8, [b16D (E b)]⟩]) := ⟨live_push g0, live_push g1, live_push g2, live_push g3, by rw [lv_app0]; rfl, by rw [lv_appk]; rfl⟩
      have G4 := live_app g4 [some ⟨S1, [kd]⟩, some ⟨.ar 16 L8, [b16D (E b)]⟩]
      have P0 := pP _ [some ⟨S1, [kd]⟩, some ⟨.ar 16 L8, [b16D (E b)]⟩] p0
      generalize hs13 : rs.length + 1 = s13 at *
      generalize rs ++ [some ⟨S1, [kd]⟩, some ⟨.ar 16 L8, [b16D (E b)]⟩] = RS0 at *
      refine kLoop_up pp.length (fun i env rows => has env [(78, .raw (it (i : Int))), (77, .raw (it (pp.length : Int))), (9, .sl L8 4 [] 0 pp.length false), (10, .ptr S1 rs.length [0]), (13, .ptr (.ar 16 L8) s13 [0]), (5, .ptr (.ar 16 L8) 0 [0]), (6, .ptr (.ar 16 L8) 1 [0]), (7, .ptr (.ar 16 L8) 2 [0]), (0, .sl L8 3 [] 0 pp.length false)] ∧
        Fr b c d pp rs.length s13 kd (E b) rows ∧ Kp rows ∧ ∃ mm : List (BitVec 8), mm.length = pp.length ∧ live rows 4 = some ⟨L8, bs mm⟩) ?_ ?_ ⟨?_, F0, P0, pp, rfl, G4⟩
      · rintro i hi env rows ⟨hh, hF, hKr, mm, hml, l4⟩ R hR
        simp only [has] at hh
        obtain ⟨h78, h77, h9, h10, h13, h5, h6, h7, h0, -⟩ := hh
        have e0 : ((i : Int) < (pp.length : Int)) = True := eq_true (by omega)
        have e1 : ((0 : Int) ≤ (i : Int)) = True := eq_true (by omega)
        have e2 := wz_succ i (by omega)
        have g : (bs mm)[i]? = some (.raw (u8 (mm.getD i 0#8))) := bs_get (by omega)
        simp only [↓amD, amU, Nat.reduceBEq, Nat.reduceAdd, Nat.reduceSub, Nat.reduceMul, Nat.reduceMod, Nat.reducePow, Nat.reduceLT, Nat.reduceDiv, Int.reduceToNat, BitVec.reduceToNat, zipEnv, Int.reduceLE, Int.reduceLT, Int.reduceNeg, BitVec.reduceEq, Int.reduceAdd, Int.reduceSub, Int.reduceMul, Nat.reduceLeDiff, Int.reduceEq, h78, h77, h9, h10, h13, h5, h6, h7, h0, e0, e1, e2, l4, g, bs_set, decide_true]
        exact hR _ _ ⟨by simp only [has, ↓amD, amU, Nat.reduceBEq, Nat.reduceAdd, Nat.reduceSub, Nat.reduceMul, Nat.reduceMod, Nat.reducePow, Nat.reduceLT, Nat.reduceDiv, Int.reduceToNat, BitVec.reduceToNat, zipEnv, Int.reduceLE, Int.reduceLT, Int.reduceNeg, BitVec.reduceEq, Int.reduceAdd, Int.reduceSub, Int.reduceMul, Nat.reduceLeDiff, Int.reduceEq, h77, h9, h10, h13, h5, h6, h7, h0], hF.set (by omega) (by omega) (by omega), pS _ _ _ (.inl rfl) hKr, mm.set i (mm.getD i 0#8 + 1#8), by rw [List.length_set, hml], live_set_eq l4⟩
      · rintro env rows ⟨hh, hF, hKr, mm, hml, l4⟩ R
        simp only [has] at hh
        obtain ⟨h78, h77, h9, h10, h13, h5, h6, h7, h0, -⟩ := hh
        have e0 : ((pp.length : Int) < (pp.length : Int)) = False := eq_false (by omega)
        have kWr := fun k => kWd rows k hKr
        have q10 := hF.f10
        simp only [↓amD, amU, Nat.reduceBEq, Nat.reduceAdd, Nat.reduceSub, Nat.reduceMul, Nat.reduceMod, Nat.reducePow, Nat.reduceLT, Nat.reduceDiv, Int.reduceToNat, BitVec.reduceToNat, zipEnv, Int.reduceLE, Int.reduceLT, Int.reduceNeg, BitVec.reduceEq, Int.reduceAdd, Int.reduceSub, Int.reduceMul, Nat.reduceLeDiff, Int.reduceEq, h78, h77, h9, h10, h13, h5, h6, h7, h0, e0, q10, hkf, hw, kWr]
        have b10 := live_lt hF.f10
        have b13 := live_lt hF.f13
        have b4' := live_lt l4
        have l15 : live (rows ++ [some ⟨L32, us wl⟩]) rows.length = some ⟨L32, us wl⟩ := live_len
        have hF2 := hF.push [some ⟨L32, us wl⟩]
        have hK2 := pP _ [some ⟨L32, us wl⟩] hKr
        generalize rows ++ [some ⟨L32, us wl⟩] = RS at *
        refine kLoop_up wl.length (fun i env rows2 => has env [(92, .raw (it (i : Int))), (91, .raw (it (wl.length : Int))), (15, .sl L32 rows.length [] 0 wl.length false), (10, .ptr S1 rs.length [0]), (13, .ptr (.ar 16 L8) s13 [0]), (5, .ptr (.ar 16 L8) 0 [0]), (6, .ptr (.ar 16 L8) 1 [0]), (7, .ptr (.ar 16 L8) 2 [0]), (0, .sl L8 3 [] 0 pp.length false)] ∧
          Fr b c d pp rs.length s13 kd (E b) rows2 ∧ Kp rows2 ∧ ∃ v : List (BitVec 32), v.length = wl.length ∧ live rows2 rows.length = some ⟨L32, us v⟩) ?_ ?_ ⟨?_, hF2, hK2, wl, rfl, l15⟩
        · rintro i hi env rows2 ⟨hh, hF, hKr, v, hvl, l15⟩ R hR
          simp only [has] at hh
          obtain ⟨h92, h91, h15, h10, h13, h5, h6, h7, h0, -⟩ := hh
          have e0 : ((i : Int) < (wl.length : Int)) = True := eq_true (by omega)
          have e1 : ((0 : Int) ≤ (i : Int)) = True := eq_true (by omega)
          have e2 := wz_succ i (by omega)
          have g : (us v)[i]? = some (.raw (u32 (v.getD i 0#32))) := us_get (by omega)
          simp only [↓amD, amU, Nat.reduceBEq, Nat.reduceAdd, Nat.reduceSub, Nat.reduceMul, Nat.reduceMod, Nat.reducePow, Nat.reduceLT, Nat.reduceDiv, Int.reduceToNat, BitVec.reduceToNat, zipEnv, Int.reduceLE, Int.reduceLT, Int.reduceNeg, BitVec.reduceEq, Int.reduceAdd, Int.reduceSub, Int.reduceMul, Nat.reduceLeDiff, Int.reduceEq, h92, h91, h15, h10, h13, h5, h6, h7, h0, e0, e1, e2, l15, g, us_set, decide_true]
          exact hR _ _ ⟨by simp only [has, ↓amD, amU, Nat.reduceBEq, Nat.reduceAdd, Nat.reduceSub, Nat.reduceMul, Nat.reduceMod, Nat.reducePow, Nat.reduceLT, Nat.reduceDiv, Int.reduceToNat, BitVec.reduceToNat, zipEnv, Int.reduceLE, Int.reduceLT, Int.reduceNeg, BitVec.reduceEq, Int.reduceAdd, Int.reduceSub, Int.reduceMul, Nat.reduceLeDiff, Int.reduceEq, h91, h15, h10, h13, h5, h6, h7, h0], hF.set (by omega) (by omega) (by omega), pS _ _ _ (.inr (by omega)) hKr, v.set i (v.getD i 0#32 + 1#32), by rw [List.length_set, hvl], live_set_eq l15⟩
        · rintro env Z ⟨hh, hF, hKr, v, hvl, l15⟩ R
          simp only [has] at hh
          obtain ⟨h92, h91, h15, h10, h13, h5, h6, h7, h0, -⟩ := hh
          have e0 : ((wl.length : Int) < (wl.length : Int)) = False := eq_false (by omega)
          have z0 := hF.f0
          have z1 := hF.f1
          have z2 := hF.f2
          have z3 := hF.f3
          have z10 := hF.f10
          have z13 := hF.f13
          have kEz := fun k => kE Z k b hKr hb
          have hA : all16 [b, c, d] = true := by simp [all16, hb, hc, hd]
          have hB : all16 [b, b] = true := by simp [all16, hb]
          have hCc : all16 [b] = true := by simp [all16, hb]
          have x1 : ∀ k, kCall fXor (Z ++ [some ⟨.ar 16 L8, [b16D b, b16D c, b16D d]⟩]) k [.sl (.ar 16 L8) Z.length [] 0 3 true] = k (b16D (addS d (addS c b))) (Z ++ [some ⟨.ar 16 L8, [b16D b, b16D c, b16D d]⟩]) := fun k => by
            have := kXor (rows := Z ++ [some ⟨.ar 16 L8, [b16D b, b16D c, b16D d]⟩]) (r := Z.length) (ex := true) (ls := [b, c, d]) (by rw [lv_app0]; rfl) hA (by simp) k
            have e : xorL [b, c, d] [b, c, d].length = addS d (addS c (addS b z16)) := rfl
            rw [e, add_z b hb] at this
            exact this
          have x2 : ∀ k, kCall fXor (Z ++ [some ⟨.ar 16 L8, [b16D b, b16D c, b16D d]⟩, some ⟨.ar 16 L8, [b16D b, b16D b]⟩]) k [.sl (.ar 16 L8) (Z.length + 1) [] 0 2 true] = k (b16D z16) (Z ++ [some ⟨.ar 16 L8, [b16D b, b16D c, b16D d]⟩, some ⟨.ar 16 L8, [b16D b, b16D b]⟩]) := fun k => by
            have := kXor (rows := Z ++ [some ⟨.ar 16 L8, [b16D b, b16D c, b16D d]⟩, some ⟨.ar 16 L8, [b16D b, b16D b]⟩]) (r := Z.length + 1) (ex := true) (ls := [b, b]) (by rw [lv_appk]; rfl) hB (by simp) k
            have e : xorL [b, b] [b, b].length = addS b (addS b z16) := rfl
            rw [e, add_z b hb, add_self b hb] at this
            exact this
          have x3 : ∀ k, kCall fXor (Z ++ [some ⟨.ar 16 L8, [b16D b, b16D c, b16D d]⟩, some ⟨.ar 16 L8, [b16D b, b16D b]⟩, some ⟨.ar 16 L8, [b16D b]⟩]) k [.sl (.ar 16 L8) (Z.length + 2) [] 0 1 true] = k (b16D b) (Z ++ [some ⟨.ar 16 L8, [b16D b, b16D c, b16D d]⟩, some ⟨.ar 16 L8, [b16D b, b16D b]⟩, some ⟨.ar 16 L8, [b16D b]⟩]) := fun k => by
            have := kXor (rows := Z ++ [some ⟨.ar 16 L8, [b16D b, b16D c, b16D d]⟩, some ⟨.ar 16 L8, [b16D b, b16D b]⟩, some ⟨.ar 16 L8, [b16D b]⟩]) (r := Z.length + 2) (ex := true) (ls := [b]) (by rw [lv_appk]; rfl) hCc (by simp) k
            have e : xorL [b] [b].length = addS b z16 := rfl
            rw [e, add_z b hb] at this
            exact this
          have y1 := fun rows k => kXorR rows k b c hb hc
          have hbc : (addS c b).length = 16 := add_len _ _ hc hb
          have y2 := fun rows k => kXorR rows k (addS c b) d hbc hd
          have q1 := eq16n (E b) hel
          have q2 := eq16n (addS d (addS c b)) (add_len _ _ hd hbc)
          have q3 := eq16n z16 List.length_replicate
          have q4 := eq16n b hb
          have kct := fun k => k2 (Z ++ [some ⟨.ar 16 L8, [b16D b, b16D c, b16D d]⟩, some ⟨.ar 16 L8, [b16D b, b16D b]⟩, some ⟨.ar 16 L8, [b16D b]⟩]) k (live_push z3)
          have ksm := fun k => kSame (Z ++ [some ⟨.ar 16 L8, [b16D b, b16D c, b16D d]⟩, some ⟨.ar 16 L8, [b16D b, b16D b]⟩, some ⟨.ar 16 L8, [b16D b]⟩, some ⟨L8, bs pp⟩]) k (.sl L8 3 [] 0 pp.length false) (.sl L8 (Z.length + 3) [] 0 pp.length false) pp pp (BsIn.own (live_push z3) _ rfl) (BsIn.own (by rw [lv_appk]; rfl) _ rfl) (by omega) (by omega)
          simp only [↓amD, amU, Nat.reduceBEq, Nat.reduceAdd, Nat.reduceSub, Nat.reduceMul, Nat.reduceMod, Nat.reducePow, Nat.reduceLT, Nat.reduceDiv, Int.reduceToNat, BitVec.reduceToNat, zipEnv, Int.reduceLE, Int.reduceLT, Int.reduceNeg, BitVec.reduceEq, Int.reduceAdd, Int.reduceSub, Int.reduceMul, Nat.reduceLeDiff, Int.reduceEq, lv_app0, lv_appk, set_app0, set_appk, List.append_assoc, List.append_nil, Nat.add_assoc, h92, h91, h15, h10, h13, h5, h6, h7, h0, e0, z0, z1, z2, z3, z10, z13, live_app z0, live_app z1, live_app z2, h.enc, h.cut, hx, hxr, hs, kEz, b16_fits, x1, x2, x3, y1, y2, q1, q2, q3, q4, kXor0, kct, ksm, beq_self_eq_true, decide_true]
        · simp only [has, ↓amD, amU, Nat.reduceBEq, Nat.reduceAdd, Nat.reduceSub, Nat.reduceMul, Nat.reduceMod, Nat.reducePow, Nat.reduceLT, Nat.reduceDiv, Int.reduceToNat, BitVec.reduceToNat, zipEnv, Int.reduceLE, Int.reduceLT, Int.reduceNeg, BitVec.reduceEq, Int.reduceAdd, Int.reduceSub, Int.reduceMul, Nat.reduceLeDiff, Int.reduceEq, h10, h13, h5, h6, h7, h0]
      · simp only [has, ↓amD, amU, Nat.reduceBEq, Nat.reduceAdd, Nat.reduceSub, Nat.reduceMul, Nat.reduceMod, Nat.reducePow, Nat.reduceLT, Nat.reduceDiv, Int.reduceToNat, BitVec.reduceToNat, zipEnv, Int.reduceLE, Int.reduceLT, Int.reduceNeg, BitVec.reduceEq, Int.reduceAdd, Int.reduceSub, Int.reduceMul, Nat.reduceLeDiff, Int.reduceEq]
  · have n16 : pp.length ≠ 16 := fun h => hrt (.inl h)
    have n32 : pp.length ≠ 32 := fun h => hrt (.inr h)
    have e16 : (((pp.length : Nat) : Int) = 16) = False := eq_false (by omega)
    have e32 : (((pp.length : Nat) : Int) = 32) = False := eq_false (by omega)
    refine new_bad (n := pp.length) rfl n16 n32 (by unfold most; omega) fun more => ?_
    have g0 : live ([some ⟨.ar 16 L8, [b16D b]⟩, some ⟨.ar 16 L8, [b16D c]⟩, some ⟨.ar 16 L8, [b16D d]⟩, some ⟨L8, bs pp⟩, some ⟨L8, bs pp⟩] ++ more) 0 = some ⟨.ar 16 L8, [b16D b]⟩ := live_push rfl
    have g1 : live ([some ⟨.ar 16 L8, [b16D b]⟩, some ⟨.ar 16 L8, [b16D c]⟩, some ⟨.ar 16 L8, [b16D d]⟩, some ⟨L8, bs pp⟩, some ⟨L8, bs pp⟩] ++ more) 1 = some ⟨.ar 16 L8, [b16D c]⟩ := live_push rfl
    have g2 : live ([some ⟨.ar 16 L8, [b16D b]⟩, some ⟨.ar 16 L8, [b16D c]⟩, some ⟨.ar 16 L8, [b16D d]⟩, some ⟨L8, bs pp⟩, some ⟨L8, bs pp⟩] ++ more) 2 = some ⟨.ar 16 L8, [b16D d]⟩ := live_push rfl
    have g3 : live ([some ⟨.ar 16 L8, [b16D b]⟩, some ⟨.ar 16 L8, [b16D c]⟩, some ⟨.ar 16 L8, [b16D d]⟩, some ⟨L8, bs pp⟩, some ⟨L8, bs pp⟩] ++ more) 3 = some ⟨L8, bs pp⟩ := live_push rfl
    have g4 : live ([some ⟨.ar 16 L8, [b16D b]⟩, some ⟨.ar 16 L8, [b16D c]⟩, some ⟨.ar 16 L8, [b16D d]⟩, some ⟨L8, bs pp⟩, some ⟨L8, bs pp⟩] ++ more) 4 = some ⟨L8, bs pp⟩ := live_push rfl
    generalize ([some ⟨.ar 16 L8, [b16D b]⟩, some ⟨.ar 16 L8, [b16D c]⟩, some ⟨.ar 16 L8, [b16D d]⟩, some ⟨L8, bs pp⟩, some ⟨L8, bs pp⟩] ++ more) = rs at *
    obtain ⟨Kp, hKp⟩ : ∃ Kp : Rows → Prop, Kp = fun _ => True := ⟨_, rfl⟩
    have p0 : Kp rs := by rw [hKp]; trivial
    have pP : ∀ rows more, Kp rows → Kp (rows ++ more) := fun rows more h => by rw [hKp]; trivial
    have pS : ∀ rows q y, (q = 4 ∨ rs.length ≤ q) → Kp rows → Kp (rows.set q (some y)) := fun rows q y h1 h => by rw [hKp]; trivial
    obtain ⟨wl, hwl⟩ : ∃ wl : List (BitVec 32), wl = [] := ⟨_, rfl⟩
    have kE : ∀ rows k x, Kp rows → x.length = 16 → kCall fEnc rows k [kD none, b16D x] = k (b16D x) rows := fun rows k x _ hx => kEnc0 rows k x hx
    have kWd : ∀ rows k, Kp rows → kCall fWordsK rows k [kD none] = k (.sl L32 (0 + rows.length) [] 0 wl.length false) (rows ++ [some ⟨L32, us wl⟩]) := fun rows k _ => by rw [hwl]; exact kWords0 rows k
    have kR0 := fun rows k => kRounds0 rows k
    have kD0 := fun rows k => kDec0 rows k b hb
    have kE0 := fun rows k => kEnc0 rows k b hb
    have kW0 := fun rows k => kWords0 rows k
    have hel := hb
    have hwl0 : wl.length ≤ 64 := by rw [hwl]; simp
    have hkf := kD_fits none
    have q0 := eq16n b hb
    generalize kD none = kd at *
    simp only [↓amD, amU, Nat.reduceBEq, Nat.reduceAdd, Nat.reduceSub, Nat.reduceMul, Nat.reduceMod, Nat.reducePow, Nat.reduceLT, Nat.reduceDiv, Int.reduceToNat, BitVec.reduceToNat, zipEnv, Int.reduceLE, Int.reduceLT, Int.reduceNeg, BitVec.reduceEq, Int.reduceAdd, Int.reduceSub, Int.reduceMul, Nat.reduceLeDiff, Int.reduceEq, lv_app0, lv_appk, set_app0, set_appk, List.append_assoc, List.append_nil, Nat.add_assoc, e16, e32, live_app g0, hkf, b16_fits, h.enc, h.dec, hr, hw, kR0, kW0, kE0, kD0, q0, beq_self_eq_true]
    have b4 := live_lt g4
    have F0 : Fr b c d pp rs.length (rs.length + 2) kd b (rs ++ [some ⟨S1, [kd]⟩, some ⟨L32, []⟩, some ⟨.ar 16 L8, [b16D b]⟩]) := ⟨live_push g0, live_push g1, live_push g2, live_push g3, by rw [lv_app0]; rfl, by rw [lv_appk]; rfl⟩
    have G4 := live_app g4 [some ⟨S1, [kd]⟩, some ⟨L32, []⟩, some ⟨.ar 16 L8, [b16D b]⟩]
    have P0 := pP _ [some ⟨S1, [kd]⟩, some ⟨L32, []⟩, some ⟨.ar 16 L8, [b16D b]⟩] p0
    generalize hs13 : rs.length + 2 = s13 at *
    generalize rs ++ [some ⟨S1, [kd]⟩, some ⟨L32, []⟩, some ⟨.ar 16 L8, [b16D b]⟩] = RS0 at *
    refine kLoop_up pp.length (fun i env rows => has env [(78, .raw (it (i : Int))), (77, .raw (it (pp.length : Int))), (9, .sl L8 4 [] 0 pp.length false), (10, .ptr S1 rs.length [0]), (13, .ptr (.ar 16 L8) s13 [0]), (5, .ptr (.ar 16 L8) 0 [0]), (6, .ptr (.ar 16 L8) 1 [0]), (7, .ptr (.ar 16 L8) 2 [0]), (0, .sl L8 3 [] 0 pp.length false)] ∧
      Fr b c d pp rs.length s13 kd b rows ∧ Kp rows ∧ ∃ mm : List (BitVec 8), mm.length = pp.length ∧ live rows 4 = some ⟨L8, bs mm⟩) ?_ ?_ ⟨?_, F0, P0, pp, rfl, G4⟩
    · rintro i hi env rows ⟨hh, hF, hKr, mm, hml, l4⟩ R hR
      simp only [has] at hh
      obtain ⟨h78, h77, h9, h10, h13, h5, h6, h7, h0, -⟩ := hh
      have e0 : ((i : Int) < (pp.length : Int)) = True := eq_true (by omega)
      have e1 : ((0 : Int) ≤ (i : Int)) = True := eq_true (by omega)
      have e2 := wz_succ i (by omega)
      have g : (bs mm)[i]? = some (.raw (u8 (mm.getD i 0#8))) := bs_get (by omega)
      simp only [↓amD, amU, Nat.reduceBEq, Nat.reduceAdd, Nat.reduceSub, Nat.reduceMul, Nat.reduceMod, Nat.reducePow, Nat.reduceLT, Nat.reduceDiv, Int.reduceToNat, BitVec.reduceToNat, zipEnv, Int.reduceLE, Int.reduceLT, Int.reduceNeg, BitVec.reduceEq, Int.reduceAdd, Int.reduceSub, Int.reduceMul, Nat.reduceLeDiff, Int.reduceEq, h78, h77, h9, h10, h13, h5, h6, h7, h0, e0, e1, e2, l4, g, bs_set, decide_true]
      exact hR _ _ ⟨by simp only [has, ↓amD, amU, Nat.reduceBEq, Nat.reduceAdd, Nat.reduceSub, Nat.reduceMul, Nat.reduceMod, Nat.reducePow, Nat.reduceLT, Nat.reduceDiv, Int.reduceToNat, BitVec.reduceToNat, zipEnv, Int.reduceLE, Int.reduceLT, Int.reduceNeg, BitVec.reduceEq, Int.reduceAdd, Int.reduceSub, Int.reduceMul, Nat.reduceLeDiff, Int.reduceEq, h77, h9, h10, h13, h5, h6, h7, h0], hF.set (by omega) (by omega) (by omega), pS _ _ _ (.inl rfl) hKr, mm.set i (mm.getD i 0#8 + 1#8), by rw [List.length_set, hml], live_set_eq l4⟩
    · rintro env rows ⟨hh, hF, hKr, mm, hml, l4⟩ R
      simp only [has] at hh
      obtain ⟨h78, h77, h9, h10, h13, h5, h6, h7, h0, -⟩ := hh
      have e0 : ((pp.length : Int) < (pp.length : Int)) = False := eq_false (by omega)
      have kWr := fun k => kWd rows k hKr
      have q10 := hF.f10
      simp only [↓amD, amU, Nat.reduceBEq, Nat.reduceAdd, Nat.reduceSub, Nat.reduceMul, Nat.reduceMod, Nat.reducePow, Nat.reduceLT, Nat.reduceDiv, Int.reduceToNat, BitVec.reduceToNat, zipEnv, Int.reduceLE, Int.reduceLT, Int.reduceNeg, BitVec.reduceEq, Int.reduceAdd, Int.reduceSub, Int.reduceMul, Nat.reduceLeDiff, Int.reduceEq, h78, h77, h9, h10, h13, h5, h6, h7, h0, e0, q10, hkf, hw, kWr]
      have b10 := live_lt hF.f10
      have b13 := live_lt hF.f13
      have b4' := live_lt l4
      have l15 : live (rows ++ [some ⟨L32, us wl⟩]) rows.length = some ⟨L32, us wl⟩ := live_len
      have hF2 := hF.push [some ⟨L32, us wl⟩]
      have hK2 := pP _ [some ⟨L32, us wl⟩] hKr
      generalize rows ++ [some ⟨L32, us wl⟩] = RS at *
      refine kLoop_up wl.length (fun i env rows2 => has env [(92, .raw (it (i : Int))), (91, .raw (it (wl.length : Int))), (15, .sl L32 rows.length [] 0 wl.length false), (10, .ptr S1 rs.length [0]), (13, .ptr (.ar 16 L8) s13 [0]), (5, .ptr (.ar 16 L8) 0 [0]), (6, .ptr (.ar 16 L8) 1 [0]), (7, .ptr (.ar 16 L8) 2 [0]), (0, .sl L8 3 [] 0 pp.length false)] ∧
        Fr b c d pp rs.length s13 kd b rows2 ∧ Kp rows2 ∧ ∃ v : List (BitVec 32), v.length = wl.length ∧ live rows2 rows.length = some ⟨L32, us v⟩) ?_ ?_ ⟨?_, hF2, hK2, wl, rfl, l15⟩
      · rintro i hi env rows2 ⟨hh, hF, hKr, v, hvl, l15⟩ R hR
        simp only [has] at hh
        obtain ⟨h92, h91, h15, h10, h13, h5, h6, h7, h0, -⟩ := hh
        have e0 : ((i : Int) < (wl.length : Int)) = True := eq_true (by omega)
        have e1 : ((0 : Int) ≤ (i : Int)) = True := eq_true (by omega)
        have e2 := wz_succ i (by omega)
        have g : (us v)[i]? = some (.raw (u32 (v.getD i 0#32))) := us_get (by omega)
        simp only [↓amD, amU, Nat.reduceBEq, Nat.reduceAdd, Nat.reduceSub, Nat.reduceMul, Nat.reduceMod, Nat.reducePow, Nat.reduceLT, Nat.reduceDiv, Int.reduceToNat, BitVec.reduceToNat, zipEnv, Int.reduceLE, Int.reduceLT, Int.reduceNeg, BitVec.reduceEq, Int.reduceAdd, Int.reduceSub, Int.reduceMul, Nat.reduceLeDiff, Int.reduceEq, h92, h91, h15, h10, h13, h5, h6, h7, h0, e0, e1, e2, l15, g, us_set, decide_true]
        exact hR _ _ ⟨by simp only [has, ↓amD, amU, Nat.reduceBEq, Nat.reduceAdd, Nat.reduceSub, Nat.reduceMul, Nat.reduceMod, Nat.reducePow, Nat.reduceLT, Nat.reduceDiv, Int.reduceToNat, BitVec.reduceToNat, zipEnv, Int.reduceLE, Int.reduceLT, Int.reduceNeg, BitVec.reduceEq, Int.reduceAdd, Int.reduceSub, Int.reduceMul, Nat.reduceLeDiff, Int.reduceEq, h91, h15, h10, h13, h5, h6, h7, h0], hF.set (by omega) (by omega) (by omega), pS _ _ _ (.inr (by omega)) hKr, v.set i (v.getD i 0#32 + 1#32), by rw [List.length_set, hvl], live_set_eq l15⟩
      · rintro env Z ⟨hh, hF, hKr, v, hvl, l15⟩ R
        simp only [has] at hh
        obtain ⟨h92, h91, h15, h10, h13, h5, h6, h7, h0, -⟩ := hh
        have e0 : ((wl.length : Int) < (wl.length : Int)) = False := eq_false (by omega)
        have z0 := hF.f0
        have z1 := hF.f1
        have z2 := hF.f2
        have z3 := hF.f3
        have z10 := hF.f10
        have z13 := hF.f13
        have kEz := fun k => kE Z k b hKr hb
        have hA : all16 [b, c, d] = true := by simp [all16, hb, hc, hd]
        have hB : all16 [b, b] = true := by simp [all16, hb]
        have hCc : all16 [b] = true := by simp [all16, hb]
        have x1 : ∀ k, kCall fXor (Z ++ [some ⟨.ar 16 L8, [b16D b, b16D c, b16D d]⟩]) k [.sl (.ar 16 L8) Z.length [] 0 3 true] = k (b16D (addS d (addS c b))) (Z ++ [some ⟨.ar 16 L8, [b16D b, b16D c, b16D d]⟩]) := fun k => by
          have := kXor (rows := Z ++ [some ⟨.ar 16 L8, [b16D b, b16D c, b16D d]⟩]) (r := Z.length) (ex := true) (ls := [b, c, d]) (by rw [lv_app0]; rfl) hA (by simp) k
          have e : xorL [b, c, d] [b, c, d].length = addS d (addS c (addS b z16)) := rfl
          rw [e, add_z b hb] at this
          exact this
        have x2 : ∀ k, kCall fXor (Z ++ [some ⟨.ar 16 L8, [b16D b, b16D c, b16D d]⟩, some ⟨.ar 16 L8, [b16D b, b16D b]⟩]) k [.sl (.ar 16 L8) (Z.length + 1) [] 0 2 true] = k (b16D z16) (Z ++ [some ⟨.ar 16 L8, [b16D b, b16D c, b16D d]⟩, some ⟨.ar 16 L8, [b16D b, b16D b]⟩]) := fun k => by
          have := kXor (rows := Z ++ [some ⟨.ar 16 L8, [b16D b, b16D c, b16D d]⟩, some ⟨.ar 16 L8, [b16D b, b16D b]⟩]) (r := Z.length + 1) (ex := true) (ls := [b, b]) (by rw [lv_appk]; rfl) hB (by simp) k
          have e : xorL [b, b] [b, b].length = addS b (addS b z16) := rfl
          rw [e, add_z b hb, add_self b hb] at this
          exact this
        have x3 : ∀ k, kCall fXor (Z ++ [some ⟨.ar 16 L8, [b16D b, b16D c, b16D d]⟩, some ⟨.ar 16 L8, [b16D b, b16D b]⟩, some ⟨.ar 16 L8, [b16D b]⟩]) k [.sl (.ar 16 L8) (Z.length + 2) [] 0 1 true] = k (b16D b) (Z ++ [some ⟨.ar 16 L8, [b16D b, b16D c, b16D d]⟩, some ⟨.ar 16 L8, [b16D b, b16D b]⟩, some ⟨.ar 16 L8, [b16D b]⟩]) := fun k => by
          have := kXor (rows := Z ++ [some ⟨.ar 16 L8, [b16D b, b16D c, b16D d]⟩, some ⟨.ar 16 L8, [b16D b, b16D b]⟩, some ⟨.ar 16 L8, [b16D b]⟩]) (r := Z.length + 2) (ex := true) (ls := [b]) (by rw [lv_appk]; rfl) hCc (by simp) k
          have e : xorL [b] [b].length = addS b z16 := rfl
          rw [e, add_z b hb] at this
          exact this
        have y1 := fun rows k => kXorR rows k b c hb hc
        have hbc : (addS c b).length = 16 := add_len _ _ hc hb
        have y2 := fun rows k => kXorR rows k (addS c b) d hbc hd
        have q1 := eq16n b hel
        have q2 := eq16n (addS d (addS c b)) (add_len _ _ hd hbc)
        have q3 := eq16n z16 List.length_replicate
        have q4 := eq16n b hb
        have kct := fun k => k2 (Z ++ [some ⟨.ar 16 L8, [b16D b, b16D c, b16D d]⟩, some ⟨.ar 16 L8, [b16D b, b16D b]⟩, some ⟨.ar 16 L8, [b16D b]⟩]) k (live_push z3)
        have ksm := fun k => kSame (Z ++ [some ⟨.ar 16 L8, [b16D b, b16D c, b16D d]⟩, some ⟨.ar 16 L8, [b16D b, b16D b]⟩, some ⟨.ar 16 L8, [b16D b]⟩, some ⟨L8, bs pp⟩]) k (.sl L8 3 [] 0 pp.length false) (.sl L8 (Z.length + 3) [] 0 pp.length false) pp pp (BsIn.own (live_push z3) _ rfl) (BsIn.own (by rw [lv_appk]; rfl) _ rfl) (by omega) (by omega)
        simp only [↓amD, amU, Nat.reduceBEq, Nat.reduceAdd, Nat.reduceSub, Nat.reduceMul, Nat.reduceMod, Nat.reducePow, Nat.reduceLT, Nat.reduceDiv, Int.reduceToNat, BitVec.reduceToNat, zipEnv, Int.reduceLE, Int.reduceLT, Int.reduceNeg, BitVec.reduceEq, Int.reduceAdd, Int.reduceSub, Int.reduceMul, Nat.reduceLeDiff, Int.reduceEq, lv_app0, lv_appk, set_app0, set_appk, List.append_assoc, List.append_nil, Nat.add_assoc, h92, h91, h15, h10, h13, h5, h6, h7, h0, e0, z0, z1, z2, z3, z10, z13, live_app z0, live_app z1, live_app z2, h.enc, h.cut, hx, hxr, hs, kEz, b16_fits, x1, x2, x3, y1, y2, q1, q2, q3, q4, kXor0, kct, ksm, beq_self_eq_true, decide_true]
      · simp only [has, ↓amD, amU, Nat.reduceBEq, Nat.reduceAdd, Nat.reduceSub, Nat.reduceMul, Nat.reduceMod, Nat.reducePow, Nat.reduceLT, Nat.reduceDiv, Int.reduceToNat, BitVec.reduceToNat, zipEnv, Int.reduceLE, Int.reduceLT, Int.reduceNeg, BitVec.reduceEq, Int.reduceAdd, Int.reduceSub, Int.reduceMul, Nat.reduceLeDiff, Int.reduceEq, h10, h13, h5, h6, h7, h0]
    · simp only [has, ↓amD, amU, Nat.reduceBEq, Nat.reduceAdd, Nat.reduceSub, Nat.reduceMul, Nat.reduceMod, Nat.reducePow, Nat.reduceLT, Nat.reduceDiv, Int.reduceToNat, BitVec.reduceToNat, zipEnv, Int.reduceLE, Int.reduceLT, Int.reduceNeg, BitVec.reduceEq, Int.reduceAdd, Int.reduceSub, Int.reduceMul, Nat.reduceLeDiff, Int.reduceEq]
end Job
end Go.Am
