import Derived.Test.YtmhagenbelpnfaaDoorPa17
namespace Go.Am
set_option linter.unusedSimpArgs false
set_option linter.unusedVariables false
attribute [local congr] bnd_congr kCond_congr kGd_congr kPick_congr kCall_congr kIdx_congr kSlice_congr kLoop_congr cond_congr' aBin_congr aBounds_congr aApp_congr aCopy_congr kFn_congr
namespace Job
open Go.Am.F
set_option maxRecDepth 10000
abbrev SSite : Sh := .cons (.ar 16 L8) (.cons L32 .nil)
structure Site where
  id : List (BitVec 8)
  q : BitVec 32
def siteD (s : Site) : D := .agg SSite [.agg (.ar 16 L8) (bs s.id), .raw (u32 s.q)]
theorem siteD_inj (x y : Site) (h : siteD x = siteD y) : x = y := by
  obtain ⟨a, b⟩ := x
  obtain ⟨c, d⟩ := y
  simp only [siteD, D.agg.injEq, List.cons.injEq, D.raw.injEq, true_and, and_true] at h
  rw [bs_inj h.1, u32_inj h.2]
theorem site_fits (s : Site) : (siteD s).fits SSite = true := rfl
theorem site_pure (s : Site) (rows : Rows) : RdIn rows (rdOf siteD) (siteD s) s := RdIn.agg rfl (rdOf_eq siteD_inj s)
theorem shr_n (m b : Nat) (kd : IntKind) (hb : b ≤ 64) (k : D → Prop) : aBin .shr (it (m : Int)) (.int kd (b : Int)) k = k (.raw (it ((m / 2 ^ b : Nat) : Int))) := by
  have e : (m : Int).fdiv (2 ^ (min (b : Int).toNat IntKind.i64.bits)) = ((m / 2 ^ b : Nat) : Int) := by
    have : min (b : Int).toNat IntKind.i64.bits = b := by show min (b : Int).toNat 64 = b; omega
    rw [this, Int.fdiv_eq_ediv_of_nonneg _ (Int.le_of_lt (Int.pow_pos (by decide)))]
    rw [show ((2 : Int) ^ b) = ((2 ^ b : Nat) : Int) by simp]
    omega
  simp only [aBin, it]
  rw [e]
  simp
def fTwo : Fn := fn1 rdI (fun n => decide (0 ≤ n) && decide (n < 65536)) fun n => outBs (be2 n.toNat) false
theorem two_ok (C : Ctx) (hC : CtxOK C P) : Meets C.glob P 62 (Fn.run fTwo) := by
  refine fn_meets (m_ots_two C hC) fun ds rows r h => ?_
  obtain ⟨d, n, rfl, rfl, hd, hp, rfl⟩ := fn1_some h
  cases rdI_some hd
  simp only [Bool.and_eq_true, decide_eq_true_eq] at hp
  refine ⟨rfl, afun_mk rfl ?_⟩
  clear h hd
  obtain ⟨m, rfl⟩ := Int.eq_ofNat_of_zero_le hp.1
  have hm : m < 65536 := by omega
  unfold a_ots_two r_ots_two
  have e8 : ∀ k, aBin .shr (it (m : Int)) (u64 8#64) k = k (.raw (it ((m / 256 : Nat) : Int))) := fun k => shr_n m 8 .u64 (by decide) k
  have e1 : BitVec.ofInt 8 ((m / 256 : Nat) : Int) = BitVec.ofNat 8 (m / 256) := BitVec.ofInt_natCast _ _
  have e2 : BitVec.ofInt 8 (m : Int) = BitVec.ofNat 8 m := BitVec.ofInt_natCast _ _
  simp only [↓amD, amU, Nat.reduceBEq, Nat.reduceAdd, Nat.reduceSub, Nat.reduceMul, Nat.reduceMod, Nat.reducePow, Nat.reduceLT, Nat.reduceDiv, Int.reduceToNat, BitVec.reduceToNat, zipEnv, Int.reduceLE, Int.reduceLT, Int.reduceNeg, BitVec.reduceEq, Int.reduceAdd, Int.reduceSub, Int.reduceMul, Nat.reduceLeDiff, Int.reduceEq, e8, e1, e2]
  exact .own _ 0 0 2 true false _ rfl rfl (fun h => by cases h)
theorem kTwo (rows : Rows) (k : D → Rows → Prop) (n : Nat) (h : n < 65536) : kCall fTwo rows k [.raw (it (n : Int))] = k (.sl L8 (0 + rows.length) [] 0 2 false) (rows ++ [some ⟨L8, bs (be2 n)⟩]) := by
  refine (kCall_rd1 (RdIn.int _) (by simp; omega) rfl k).trans ?_
  simp [outBs, shift, shiftRows, Sh.pure, be2]
def fFour : Fn := fn1 rd32 (fun _ => true) fun q => outBs (wordB q) false
theorem four_ok (C : Ctx) (hC : CtxOK C P) : Meets C.glob P 60 (Fn.run fFour) := by
  refine fn_meets (m_ots_four C hC) fun ds rows r h => ?_
  obtain ⟨d, n, rfl, rfl, hd, hp, rfl⟩ := fn1_some h
  cases rd32_some hd
  refine ⟨rfl, afun_mk rfl ?_⟩
  clear h hd
  unfold a_ots_four r_ots_four
  simp only [↓amD, amU, Nat.reduceBEq, Nat.reduceAdd, Nat.reduceSub, Nat.reduceMul, Nat.reduceMod, Nat.reducePow, Nat.reduceLT, Nat.reduceDiv, Int.reduceToNat, BitVec.reduceToNat, zipEnv, Int.reduceLE, Int.reduceLT, Int.reduceNeg, BitVec.reduceEq, Int.reduceAdd, Int.reduceSub, Int.reduceMul, Nat.reduceLeDiff, Int.reduceEq]
  exact .own _ 0 0 4 true false _ rfl rfl (fun h => by cases h)
theorem kFour (rows : Rows) (k : D → Rows → Prop) (q : BitVec 32) : kCall fFour rows k [.raw (u32 q)] = k (.sl L8 (0 + rows.length) [] 0 4 false) (rows ++ [some ⟨L8, bs (wordB q)⟩]) := by
  refine (kCall_rd1 (RdIn.raw (rd32_eq q)) rfl rfl k).trans ?_
  simp [outBs, shift, shiftRows, Sh.pure, wordB]
def stZ : St := ⟨List.replicate 8 0#32, List.replicate 64 0#8, 0#64⟩
theorem stZ_eq : D.agg S9 [.agg (.ar 8 L32) (List.replicate 8 (.raw (u32 0#32))), .agg (.ar 64 L8) (List.replicate 64 (.raw (u8 0#8))), .raw (u64 0#64)] = stD stZ := rfl
def frontS (s : Site) : St := feed st0 (s.id ++ wordB s.q)
theorem frontS_ok (s : Site) : (frontS s).ok = true := feed_ok _ _ st0_ok
noncomputable def fFront : Fn := fn1 (rdOf siteD) (fun s => decide (s.id.length = 16)) fun s => (stD (frontS s), [])
theorem front_ok (C : Ctx) (hC : CtxOK C P) (h1 : C.fn 68 = some fNew) (h2 : C.fn 64 = some fFeed) (h3 : C.fn 60 = some fFour) : Meets C.glob P 63 (Fn.run fFront) := by
  refine fn_meets (m_ots_front C hC) fun ds rows r h => ?_
  obtain ⟨d, s, rfl, rfl, hd, hp, rfl⟩ := fn1_some h
  cases rdOf_some hd
  simp only [decide_eq_true_eq] at hp
  refine ⟨rfl, afun_mk rfl ?_⟩
  clear h hd
  unfold a_ots_front r_ots_front
  simp only [stZ_eq]
  have hg0 : (siteD s).get [0] = some (.agg (.ar 16 L8) (bs s.id)) := rfl
  have hg1 : (siteD s).get [1] = some (.raw (u32 s.q)) := rfl
  simp only [↓amD, amU, Nat.reduceBEq, Nat.reduceAdd, Nat.reduceSub, Nat.reduceMul, Nat.reduceMod, Nat.reducePow, Nat.reduceLT, Nat.reduceDiv, Int.reduceToNat, BitVec.reduceToNat, zipEnv, Int.reduceLE, Int.reduceLT, Int.reduceNeg, BitVec.reduceEq, Int.reduceAdd, Int.reduceSub, Int.reduceMul, Nat.reduceLeDiff, Int.reduceEq, amR, site_fits, st_fits, h1, h2, kNew]
  refine Eq.mpr (kFeed _ _ _ _ s.id (BsIn.atAll (n := 16) rfl (by simp only [↓amD, amU, Nat.reduceBEq, Nat.reduceAdd, Nat.reduceSub, Nat.reduceMul, Nat.reduceMod, Nat.reducePow, Nat.reduceLT, Nat.reduceDiv, Int.reduceToNat, BitVec.reduceToNat, zipEnv, Int.reduceLE, Int.reduceLT, Int.reduceNeg, BitVec.reduceEq, Int.reduceAdd, Int.reduceSub, Int.reduceMul, Nat.reduceLeDiff, Int.reduceEq, hg0]) hp) st0_ok) ?_
  have hok1 := feed_ok s.id st0 st0_ok
  have hfr : feed (feed st0 s.id) (wordB s.q) = frontS s := (feed_app _ _ _).symm
  simp only [↓amD, amU, Nat.reduceBEq, Nat.reduceAdd, Nat.reduceSub, Nat.reduceMul, Nat.reduceMod, Nat.reducePow, Nat.reduceLT, Nat.reduceDiv, Int.reduceToNat, BitVec.reduceToNat, zipEnv, Int.reduceLE, Int.reduceLT, Int.reduceNeg, BitVec.reduceEq, Int.reduceAdd, Int.reduceSub, Int.reduceMul, Nat.reduceLeDiff, Int.reduceEq, amR, hg1, h3, kFour, h2]
  refine Eq.mpr (kFeed _ _ _ _ (wordB s.q) (BsIn.own rfl _ rfl) hok1) ?_
  rw [hfr]
  simp only [↓amD, amU, Nat.reduceBEq, Nat.reduceAdd, Nat.reduceSub, Nat.reduceMul, Nat.reduceMod, Nat.reducePow, Nat.reduceLT, Nat.reduceDiv, Int.reduceToNat, BitVec.reduceToNat, zipEnv, Int.reduceLE, Int.reduceLT, Int.reduceNeg, BitVec.reduceEq, Int.reduceAdd, Int.reduceSub, Int.reduceMul, Nat.reduceLeDiff, Int.reduceEq, amR, st_fits]
  exact .val _ rfl
theorem kFront (rows : Rows) (k : D → Rows → Prop) (s : Site) (h : s.id.length = 16) : kCall fFront rows k [siteD s] = k (stD (frontS s)) rows := by
  refine (kCall_rd1 (site_pure s rows) (by simp [h]) rfl k).trans ?_
  simp [stD, shift, shiftRows, Sh.pure]
theorem numq2 (i : Nat) (h : i < 65536) : numL 2 (BitVec.ofNat 64 i) = be2 i := by
  simp only [numL, List.nil_append, List.cons_append, be2, List.cons.injEq, and_true]
  constructor <;> apply BitVec.eq_of_toNat_eq <;> simp [BitVec.toNat_umod, BitVec.toNat_udiv, BitVec.toNat_setWidth] <;> try omega
def inI (i n : Int) : Bool := decide (0 ≤ i) && decide (i < n)
theorem inI_eq {i n : Int} : inI i n = true ↔ 0 ≤ i ∧ i < n := by simp [inI]
noncomputable def fStep : Fn := gn4 (rdOf siteD) rdI rdI (rdOf d32D) (fun s i j x => decide (s.id.length = 16) && inI i 65536 && inI j 256 && decide (x.length = 32)) fun s i j x => (d32D (stepS s.id s.q i.toNat j.toNat x), [])
theorem step_ok (C : Ctx) (hC : CtxOK C P) (h1 : C.fn 63 = some fFront) (h2 : C.fn 62 = some fTwo) (h3 : C.fn 64 = some fFeed) (h4 : C.fn 65 = some fStSum) : Meets C.glob P 66 (Fn.run fStep) := by
  refine fn_meets (m_ots_Step C hC) fun ds rows r h => ?_
  obtain ⟨d0, d1, d2, d3, s, i, j, x, rfl, rfl, g0, g1, g2, g3, hp, rfl⟩ := gn4_some h
  cases rdOf_some g0
  cases rdI_some g1
  cases rdI_some g2
  cases rdOf_some g3
  simp only [Bool.and_eq_true, decide_eq_true_eq, inI_eq] at hp
  obtain ⟨⟨⟨hid, hi⟩, hj⟩, hx⟩ := hp
  refine ⟨rfl, afun_mk rfl ?_⟩
  clear h g0 g1 g2 g3
  obtain ⟨i, rfl⟩ := Int.eq_ofNat_of_zero_le hi.1
  obtain ⟨j, rfl⟩ := Int.eq_ofNat_of_zero_le hj.1
  have hi' : i < 65536 := by omega
  have hj' : j < 256 := by omega
  unfold a_ots_Step r_ots_Step
  simp only [z32_eq]
  have ej : BitVec.ofInt 8 (j : Int) = BitVec.ofNat 8 j := BitVec.ofInt_natCast _ _
  have kT := fun rows k => kTwo rows k i hi'
  simp only [↓amD, amU, Nat.reduceBEq, Nat.reduceAdd, Nat.reduceSub, Nat.reduceMul, Nat.reduceMod, Nat.reducePow, Nat.reduceLT, Nat.reduceDiv, Int.reduceToNat, BitVec.reduceToNat, zipEnv, Int.reduceLE, Int.reduceLT, Int.reduceNeg, BitVec.reduceEq, Int.reduceAdd, Int.reduceSub, Int.reduceMul, Nat.reduceLeDiff, Int.reduceEq, amR, d32D, site_fits, h1, kFront _ _ s hid, h2, kT, h3]
  refine Eq.mpr (kFeed _ _ _ _ (be2 i) (BsIn.own rfl _ rfl) (frontS_ok s)) ?_
  simp only [↓amD, amU, Nat.reduceBEq, Nat.reduceAdd, Nat.reduceSub, Nat.reduceMul, Nat.reduceMod, Nat.reducePow, Nat.reduceLT, Nat.reduceDiv, Int.reduceToNat, BitVec.reduceToNat, zipEnv, Int.reduceLE, Int.reduceLT, Int.reduceNeg, BitVec.reduceEq, Int.reduceAdd, Int.reduceSub, Int.reduceMul, Nat.reduceLeDiff, Int.reduceEq, amR, ej, h3]
  have o1 := feed_ok (be2 i) _ (frontS_ok s)
  refine Eq.mpr (kFeed _ _ _ _ [BitVec.ofNat 8 j] (BsIn.own rfl _ rfl) o1) ?_
  simp only [↓amD, amU, Nat.reduceBEq, Nat.reduceAdd, Nat.reduceSub, Nat.reduceMul, Nat.reduceMod, Nat.reducePow, Nat.reduceLT, Nat.reduceDiv, Int.reduceToNat, BitVec.reduceToNat, zipEnv, Int.reduceLE, Int.reduceLT, Int.reduceNeg, BitVec.reduceEq, Int.reduceAdd, Int.reduceSub, Int.reduceMul, Nat.reduceLeDiff, Int.reduceEq, amR, h3]
  have o2 := feed_ok [BitVec.ofNat 8 j] _ o1
  refine Eq.mpr (kFeed _ _ _ _ x (BsIn.atAll (n := 32) rfl rfl hx) o2) ?_
  have o3 := feed_ok x _ o2
  simp only [↓amD, amU, Nat.reduceBEq, Nat.reduceAdd, Nat.reduceSub, Nat.reduceMul, Nat.reduceMod, Nat.reducePow, Nat.reduceLT, Nat.reduceDiv, Int.reduceToNat, BitVec.reduceToNat, zipEnv, Int.reduceLE, Int.reduceLT, Int.reduceNeg, BitVec.reduceEq, Int.reduceAdd, Int.reduceSub, Int.reduceMul, Nat.reduceLeDiff, Int.reduceEq, amR, h4, kStSum _ _ _ o3]
  have e : sumSt (feed (feed (feed (frontS s) (be2 i)) [BitVec.ofNat 8 j]) x) = stepS s.id s.q i j x := by
    rw [stepS, sumS, frontS, ← feed_app, ← feed_app, ← feed_app]
    simp only [List.append_assoc]
  rw [e]
  exact .val _ rfl
theorem kStep (rows : Rows) (k : D → Rows → Prop) (s : Site) (i j : Nat) (x : List (BitVec 8)) (hid : s.id.length = 16) (hi : i < 65536) (hj : j < 256) (hx : x.length = 32) :
    kCall fStep rows k [siteD s, .raw (it (i : Int)), .raw (it (j : Int)), .agg (.ar 32 L8) (bs x)] = k (.agg (.ar 32 L8) (bs (stepS s.id s.q i j x))) rows := by
  refine (kCall_g4 (site_pure s rows) (RdIn.int _) (RdIn.int _) (rdIn_d32 x) (by simp [hid, hx, inI]; omega) rfl k).trans ?_
  simp [d32D, shift, shiftRows, Sh.pure]
noncomputable def fSecret : Fn := fn3 (rdOf siteD) rdI (rdOf d32D) (fun s i x => decide (s.id.length = 16) && inI i 65536 && decide (x.length = 32)) fun s i x => (d32D (secS s.id s.q i.toNat x), [])
theorem secret_ok (C : Ctx) (hC : CtxOK C P) (h1 : C.fn 66 = some fStep) : Meets C.glob P 56 (Fn.run fSecret) := by
  refine fn_meets (m_ots_Secret C hC) fun ds rows r h => ?_
  obtain ⟨d0, d1, d2, s, i, x, rfl, rfl, g0, g1, g2, hp, rfl⟩ := fn3_some h
  cases rdOf_some g0
  cases rdI_some g1
  cases rdOf_some g2
  simp only [Bool.and_eq_true, decide_eq_true_eq, inI_eq] at hp
  obtain ⟨⟨hid, hi⟩, hx⟩ := hp
  refine ⟨rfl, afun_mk rfl ?_⟩
  clear h g0 g1 g2
  obtain ⟨i, rfl⟩ := Int.eq_ofNat_of_zero_le hi.1
  have hi' : i < 65536 := by omega
  unfold a_ots_Secret r_ots_Secret
  simp only [z32_eq]
  have kS := fun rows k => kStep rows k s i 255 x hid hi' (by decide) hx
  rw [show ((255 : Nat) : Int) = 255 from rfl] at kS
  simp only [↓amD, amU, Nat.reduceBEq, Nat.reduceAdd, Nat.reduceSub, Nat.reduceMul, Nat.reduceMod, Nat.reducePow, Nat.reduceLT, Nat.reduceDiv, Int.reduceToNat, BitVec.reduceToNat, zipEnv, Int.reduceLE, Int.reduceLT, Int.reduceNeg, BitVec.reduceEq, Int.reduceAdd, Int.reduceSub, Int.reduceMul, Nat.reduceLeDiff, Int.reduceEq, amR, d32D, site_fits, h1, kS]
  exact .val _ rfl
theorem kSecret (rows : Rows) (k : D → Rows → Prop) (s : Site) (i : Nat) (x : List (BitVec 8)) (hid : s.id.length = 16) (hi : i < 65536) (hx : x.length = 32) :
    kCall fSecret rows k [siteD s, .raw (it (i : Int)), .agg (.ar 32 L8) (bs x)] = k (.agg (.ar 32 L8) (bs (secS s.id s.q i x))) rows := by
  refine (kCall_rd3 (site_pure s rows) (RdIn.int _) (rdIn_d32 x) (by simp [hid, hx, inI]; omega) rfl k).trans ?_
  simp [d32D, shift, shiftRows, Sh.pure]
noncomputable def fChain : Fn := gn5 (rdOf siteD) rdI rdI rdI (rdOf d32D) (fun s i a b x => decide (s.id.length = 16) && inI i 65536 && inI a 257 && inI b 257 && decide (x.length = 32)) fun s i a b x => (d32D (chS s.id s.q i.toNat (b.toNat - a.toNat) a.toNat x), [])
theorem chain_ok (C : Ctx) (hC : CtxOK C P) (h1 : C.fn 66 = some fStep) : Meets C.glob P 51 (Fn.run fChain) := by
  refine fn_meets (m_ots_Chain C hC) fun ds rows r h => ?_
  obtain ⟨d0, d1, d2, d3, d4, s, i, a, b, x, rfl, rfl, g0, g1, g2, g3, g4, hp, rfl⟩ := gn5_some h
  cases rdOf_some g0
  cases rdI_some g1
  cases rdI_some g2
  cases rdI_some g3
  cases rdOf_some g4
  simp only [Bool.and_eq_true, decide_eq_true_eq, inI_eq] at hp
  obtain ⟨⟨⟨⟨hid, hi⟩, ha⟩, hb⟩, hx⟩ := hp
  refine ⟨rfl, afun_mk rfl ?_⟩
  clear h g0 g1 g2 g3 g4
  obtain ⟨i, rfl⟩ := Int.eq_ofNat_of_zero_le hi.1
  obtain ⟨a, rfl⟩ := Int.eq_ofNat_of_zero_le ha.1
  obtain ⟨b, rfl⟩ := Int.eq_ofNat_of_zero_le hb.1
  have hi' : i < 65536 := by omega
  unfold a_ots_Chain r_ots_Chain
  simp only [z32_eq]
  simp only [↓amD, amU, Nat.reduceBEq, Nat.reduceAdd, Nat.reduceSub, Nat.reduceMul, Nat.reduceMod, Nat.reducePow, Nat.reduceLT, Nat.reduceDiv, Int.reduceToNat, BitVec.reduceToNat, zipEnv, Int.reduceLE, Int.reduceLT, Int.reduceNeg, BitVec.reduceEq, Int.reduceAdd, Int.reduceSub, Int.reduceMul, Nat.reduceLeDiff, Int.reduceEq, amR, d32D, site_fits, h1]
  have em : max (a : Int) 0 = (a : Int) := by omega
  have eb : min (b : Int) 256 = (b : Int) := by omega
  simp only [em]
  refine kLoop_up (b - a) (fun j env rows => has env [(11, .raw (it ((a + j : Nat) : Int))), (10, .ptr (.ar 32 L8) 2 [0]), (9, .ptr (.ar 32 L8) 1 [0]), (5, .ptr SSite 0 [0]), (1, .raw (it (i : Int))), (3, .raw (it (b : Int)))] ∧
    rows = [some ⟨SSite, [siteD s]⟩, some ⟨.ar 32 L8, [.agg (.ar 32 L8) (bs (chS s.id s.q i j a x))]⟩, some ⟨.ar 32 L8, [.agg (.ar 32 L8) (bs z32)]⟩]) ?_ ?_ ⟨?_, rfl⟩
  · rintro j hj env rows ⟨hh, rfl⟩ R hR
    simp only [has] at hh
    have e0 : (((a + j : Nat) : Int) < (b : Int)) = True := eq_true (by omega)
    have e1 : wz (((a + j : Nat) : Int) + 1) = ((a + (j + 1) : Nat) : Int) := by rw [wz_id (by omega)]; omega
    have kS := fun rows k => kStep rows k s i (a + j) _ hid hi' (by omega) (chS_len s.id s.q i j a x hx)
    simp only [↓amD, amU, Nat.reduceBEq, Nat.reduceAdd, Nat.reduceSub, Nat.reduceMul, Nat.reduceMod, Nat.reducePow, Nat.reduceLT, Nat.reduceDiv, Int.reduceToNat, BitVec.reduceToNat, zipEnv, Int.reduceLE, Int.reduceLT, Int.reduceNeg, BitVec.reduceEq, Int.reduceAdd, Int.reduceSub, Int.reduceMul, Nat.reduceLeDiff, Int.reduceEq, amR, hh, eb, e0, e1, site_fits, h1, kS, ← chS_succ]
    exact hR _ _ ⟨by simp only [has, ↓amD, amU, Nat.reduceBEq, Nat.reduceAdd, Nat.reduceSub, Nat.reduceMul, Nat.reduceMod, Nat.reducePow, Nat.reduceLT, Nat.reduceDiv, Int.reduceToNat, BitVec.reduceToNat, zipEnv, Int.reduceLE, Int.reduceLT, Int.reduceNeg, BitVec.reduceEq, Int.reduceAdd, Int.reduceSub, Int.reduceMul, Nat.reduceLeDiff, Int.reduceEq, hh], rfl⟩
  · rintro env rows ⟨hh, rfl⟩ R
    simp only [has] at hh
    have e0 : (((a + (b - a) : Nat) : Int) < (b : Int)) = False := eq_false (by omega)
    simp only [↓amD, amU, Nat.reduceBEq, Nat.reduceAdd, Nat.reduceSub, Nat.reduceMul, Nat.reduceMod, Nat.reducePow, Nat.reduceLT, Nat.reduceDiv, Int.reduceToNat, BitVec.reduceToNat, zipEnv, Int.reduceLE, Int.reduceLT, Int.reduceNeg, BitVec.reduceEq, Int.reduceAdd, Int.reduceSub, Int.reduceMul, Nat.reduceLeDiff, Int.reduceEq, amR, hh, eb, e0]
    exact .val _ rfl
  · simp only [has, ↓amD, amU, Nat.reduceBEq, Nat.reduceAdd, Nat.reduceSub, Nat.reduceMul, Nat.reduceMod, Nat.reducePow, Nat.reduceLT, Nat.reduceDiv, Int.reduceToNat, BitVec.reduceToNat, zipEnv, Int.reduceLE, Int.reduceLT, Int.reduceNeg, BitVec.reduceEq, Int.reduceAdd, Int.reduceSub, Int.reduceMul, Nat.reduceLeDiff, Int.reduceEq]
    simp
theorem kChain (rows : Rows) (k : D → Rows → Prop) (s : Site) (i a b : Nat) (x : List (BitVec 8)) (hid : s.id.length = 16) (hi : i < 65536) (ha : a ≤ 256) (hb : b ≤ 256) (hx : x.length = 32) :
    kCall fChain rows k [siteD s, .raw (it (i : Int)), .raw (it (a : Int)), .raw (it (b : Int)), .agg (.ar 32 L8) (bs x)] = k (.agg (.ar 32 L8) (bs (chS s.id s.q i (b - a) a x))) rows := by
  refine (kCall_g5 (site_pure s rows) (RdIn.int _) (RdIn.int _) (RdIn.int _) (rdIn_d32 x) (by simp [hid, hx, inI]; omega) rfl k).trans ?_
  simp [d32D, shift, shiftRows, Sh.pure]
def mashS (id : List (BitVec 8)) (q : BitVec 32) (c msg : List (BitVec 8)) : List (BitVec 8) := sumS (id ++ wordB q ++ be2 33153 ++ c ++ msg)
noncomputable def fMash : Fn := fn3 (rdOf siteD) (rdOf d32D) rdBs (fun s c _ => decide (s.id.length = 16) && decide (c.length = 32)) fun s c m => (d32D (mashS s.id s.q c m), [])
theorem mash_ok (C : Ctx) (hC : CtxOK C P) (h1 : C.fn 63 = some fFront) (h2 : C.fn 62 = some fTwo) (h3 : C.fn 64 = some fFeed) (h4 : C.fn 65 = some fStSum) : Meets C.glob P 50 (Fn.run fMash) := by
  refine fn_meets (m_ots_Mash C hC) fun ds rows r h => ?_
  obtain ⟨d0, d1, d2, s, c, m, rfl, rfl, g0, g1, g2, hp, rfl⟩ := fn3_some h
  cases rdOf_some g0
  cases rdOf_some g1
  have gm := rdBs_some g2
  simp only [Bool.and_eq_true, decide_eq_true_eq] at hp
  obtain ⟨hid, hc⟩ := hp
  refine ⟨rfl, afun_mk rfl ?_⟩
  clear h g0 g1 g2
  unfold a_ots_Mash r_ots_Mash
  simp only [z32_eq]
  have kT := fun rows k => kTwo rows k 33153 (by decide)
  rw [show ((33153 : Nat) : Int) = 33153 from rfl] at kT
  simp only [↓amD, amU, Nat.reduceBEq, Nat.reduceAdd, Nat.reduceSub, Nat.reduceMul, Nat.reduceMod, Nat.reducePow, Nat.reduceLT, Nat.reduceDiv, Int.reduceToNat, BitVec.reduceToNat, zipEnv, Int.reduceLE, Int.reduceLT, Int.reduceNeg, BitVec.reduceEq, Int.reduceAdd, Int.reduceSub, Int.reduceMul, Nat.reduceLeDiff, Int.reduceEq, amR, d32D, site_fits, h1, kFront _ _ s hid, h2, kT, h3]
  refine Eq.mpr (kFeed _ _ _ _ (be2 33153) (BsIn.own rfl _ rfl) (frontS_ok s)) ?_
  simp only [↓amD, amU, Nat.reduceBEq, Nat.reduceAdd, Nat.reduceSub, Nat.reduceMul, Nat.reduceMod, Nat.reducePow, Nat.reduceLT, Nat.reduceDiv, Int.reduceToNat, BitVec.reduceToNat, zipEnv, Int.reduceLE, Int.reduceLT, Int.reduceNeg, BitVec.reduceEq, Int.reduceAdd, Int.reduceSub, Int.reduceMul, Nat.reduceLeDiff, Int.reduceEq, amR, h3]
  have o1 := feed_ok (be2 33153) _ (frontS_ok s)
  refine Eq.mpr (kFeed _ _ _ _ c (BsIn.atAll (n := 32) rfl rfl hc) o1) ?_
  simp only [↓amD, amU, Nat.reduceBEq, Nat.reduceAdd, Nat.reduceSub, Nat.reduceMul, Nat.reduceMod, Nat.reducePow, Nat.reduceLT, Nat.reduceDiv, Int.reduceToNat, BitVec.reduceToNat, zipEnv, Int.reduceLE, Int.reduceLT, Int.reduceNeg, BitVec.reduceEq, Int.reduceAdd, Int.reduceSub, Int.reduceMul, Nat.reduceLeDiff, Int.reduceEq, amR, h3]
  have o2 := feed_ok c _ o1
  refine Eq.mpr (kFeed _ _ _ _ m gm.to o2) ?_
  have o3 := feed_ok m _ o2
  simp only [↓amD, amU, Nat.reduceBEq, Nat.reduceAdd, Nat.reduceSub, Nat.reduceMul, Nat.reduceMod, Nat.reducePow, Nat.reduceLT, Nat.reduceDiv, Int.reduceToNat, BitVec.reduceToNat, zipEnv, Int.reduceLE, Int.reduceLT, Int.reduceNeg, BitVec.reduceEq, Int.reduceAdd, Int.reduceSub, Int.reduceMul, Nat.reduceLeDiff, Int.reduceEq, amR, h4, kStSum _ _ _ o3]
  have e : sumSt (feed (feed (feed (frontS s) (be2 33153)) c) m) = mashS s.id s.q c m := by
    rw [mashS, sumS, frontS, ← feed_app, ← feed_app, ← feed_app]
    simp only [List.append_assoc]
  rw [e]
  exact .val _ rfl
theorem kMash (rows : Rows) (k : D → Rows → Prop) (s : Site) (c m : List (BitVec 8)) (d : D) (hd : BsIn rows d m) (hid : s.id.length = 16) (hc : c.length = 32) :
    kCall fMash rows k [siteD s, .agg (.ar 32 L8) (bs c), d] = k (.agg (.ar 32 L8) (bs (mashS s.id s.q c m))) rows := by
  refine (kCall_rd3 (site_pure s rows) (rdIn_d32 c) (.bs hd) (by simp [hid, hc]) rfl k).trans ?_
  simp [d32D, shift, shiftRows, Sh.pure]
noncomputable def fRMash : Fn := gn4 (rdOf id16D) rd32 (rdOf d32D) rdBs (fun id q c m => decide (id.length = 16) && decide (c.length = 32) && decide (m.length ≤ 1000000)) fun id q c m => (d32D (mashS id q c m), [])
theorem rmash_ok (C : Ctx) (hC : CtxOK C P) (h1 : C.fn 55 = some fNumS) (h2 : C.fn 13 = some fJoin) (h3 : C.fn 54 = some fRSum) : Meets C.glob P 33 (Fn.run fRMash) := by
  refine fn_meets (m_ref05_Mash C hC) fun ds rows r h => ?_
  obtain ⟨d0, d1, d2, d3, id, q, c, m, rfl, rfl, g0, g1, g2, g3, hp, rfl⟩ := gn4_some h
  cases rdOf_some g0
  cases rd32_some g1
  cases rdOf_some g2
  have gm := rdBs_some g3
  simp only [Bool.and_eq_true, decide_eq_true_eq] at hp
  obtain ⟨⟨hid, hc⟩, hm⟩ := hp
  refine ⟨rfl, afun_mk rfl ?_⟩
  clear h g0 g1 g2 g3
  unfold a_ref05_Mash r_ref05_Mash
  simp only [z32_eq]
  have k4 := fun rows k => kNumN rows k (q.setWidth 64) 4 (by decide) (by decide)
  have k2 := fun rows k => kNumN rows k 33153#64 2 (by decide) (by decide)
  rw [show (4 : Int).toNat = 4 from rfl, numq4] at k4
  rw [show (2 : Int).toNat = 2 from rfl, show numL 2 33153#64 = be2 33153 from numq2 33153 (by decide)] at k2
  have hfit : d3.fits .ref = true := by rcases gm with ⟨rfl, _⟩ | ⟨e, rfl⟩ <;> rfl
  simp only [↓amD, amU, Nat.reduceBEq, Nat.reduceAdd, Nat.reduceSub, Nat.reduceMul, Nat.reduceMod, Nat.reducePow, Nat.reduceLT, Nat.reduceDiv, Int.reduceToNat, BitVec.reduceToNat, zipEnv, Int.reduceLE, Int.reduceLT, Int.reduceNeg, BitVec.reduceEq, Int.reduceAdd, Int.reduceSub, Int.reduceMul, Nat.reduceLeDiff, Int.reduceEq, amR, id16D, d32D, h1, h2, k4, k2, hfit]
  refine Eq.mpr (kJoin _ _ _ 5 _ _ [id, wordB q, be2 33153, c, m] rfl rfl (.cons (BsIn.atAll (n := 16) rfl rfl hid) (.cons (BsIn.own rfl _ rfl) (.cons (BsIn.own rfl _ rfl) (.cons (BsIn.atAll (n := 32) rfl rfl hc) (.cons gm.to .nil))))) (by simp) (by simp [hid, hc, wordB, be2]; omega)) ?_
  have hl : ([id, wordB q, be2 33153, c, m].flatten).length ≤ 1000054 := by simp [hid, hc, wordB, be2]; omega
  have e : sumS [id, wordB q, be2 33153, c, m].flatten = mashS id q c m := by rw [mashS]; congr 1; simp
  generalize [id, wordB q, be2 33153, c, m].flatten = T at hl e ⊢
  simp only [↓amD, amU, Nat.reduceBEq, Nat.reduceAdd, Nat.reduceSub, Nat.reduceMul, Nat.reduceMod, Nat.reducePow, Nat.reduceLT, Nat.reduceDiv, Int.reduceToNat, BitVec.reduceToNat, zipEnv, Int.reduceLE, Int.reduceLT, Int.reduceNeg, BitVec.reduceEq, Int.reduceAdd, Int.reduceSub, Int.reduceMul, Nat.reduceLeDiff, Int.reduceEq, amR, h3]
  refine Eq.mpr (kRSum _ _ _ T (BsIn.own rfl _ rfl) (by omega)) ?_
  rw [e]
  simp only [↓amD, amU, Nat.reduceBEq, Nat.reduceAdd, Nat.reduceSub, Nat.reduceMul, Nat.reduceMod, Nat.reducePow, Nat.reduceLT, Nat.reduceDiv, Int.reduceToNat, BitVec.reduceToNat, zipEnv, Int.reduceLE, Int.reduceLT, Int.reduceNeg, BitVec.reduceEq, Int.reduceAdd, Int.reduceSub, Int.reduceMul, Nat.reduceLeDiff, Int.reduceEq, amR]
  exact .val _ rfl
theorem RdIn.dl {rows : Rows} {r n : Nat} {ex : Bool} {l : List (List (BitVec 8))} (hl : live rows r = some ⟨.ar 32 L8, l.map d32D⟩) (hn : l.length = n) : RdIn rows (rdLst (.ar 32 L8) d32D) (.sl (.ar 32 L8) r [] 0 n ex) l := by
  refine ⟨⟨.lst (.ar 32 L8) (l.map d32D) ex, ?_, rdLst_eq d32D_inj l ex⟩, fun h => by simp [hasRef] at h⟩
  have : elems rows (.sl (.ar 32 L8) r [] 0 n ex) = some (l.map d32D) := by
    simp only [elems, hl]; simp [List.take_of_length_le, hn]
  simp only [view]
  rw [this]
  simp [Sh.pure, hn]
noncomputable def fFold : Fn := fn2 (rdOf siteD) (rdLst (.ar 32 L8) d32D) (fun s l => decide (s.id.length = 16) && all32 l && decide (l.length ≤ 1000000)) fun s l => (d32D (foldS s.id s.q l), [])
theorem fold_ok (C : Ctx) (hC : CtxOK C P) (h1 : C.fn 63 = some fFront) (h2 : C.fn 62 = some fTwo) (h3 : C.fn 64 = some fFeed) (h4 : C.fn 65 = some fStSum) : Meets C.glob P 53 (Fn.run fFold) := by
  refine fn_meetsN (m_ots_Fold C hC) fun ds rows r h => ?_
  obtain ⟨d0, d1, s, l, rfl, rfl, g0, g1, hp, rfl⟩ := fn2_some h
  cases rdOf_some g0
  obtain ⟨ex, hx⟩ := rdLst_nrm g1
  simp only [Bool.and_eq_true, decide_eq_true_eq, all32_eq] at hp
  obtain ⟨⟨hid, h32⟩, hll⟩ := hp
  refine ⟨rfl, _, .cons (.refl _) (.cons hx .nil), afun_mk rfl ?_⟩
  clear h g0 g1 hx
  unfold a_ots_Fold r_ots_Fold
  simp only [z32_eq, stZ_eq]
  have kT := fun rows k => kTwo rows k 32896 (by decide)
  rw [show ((32896 : Nat) : Int) = 32896 from rfl] at kT
  simp only [↓amD, amU, Nat.reduceBEq, Nat.reduceAdd, Nat.reduceSub, Nat.reduceMul, Nat.reduceMod, Nat.reducePow, Nat.reduceLT, Nat.reduceDiv, Int.reduceToNat, BitVec.reduceToNat, zipEnv, Int.reduceLE, Int.reduceLT, Int.reduceNeg, BitVec.reduceEq, Int.reduceAdd, Int.reduceSub, Int.reduceMul, Nat.reduceLeDiff, Int.reduceEq, amR, d32D, site_fits, st_fits, h1, kFront _ _ s hid, h2, kT, h3]
  refine Eq.mpr (kFeed _ _ _ _ (be2 32896) (BsIn.own rfl _ rfl) (frontS_ok s)) ?_
  have o1 := feed_ok (be2 32896) _ (frontS_ok s)
  simp only [↓amD, amU, Nat.reduceBEq, Nat.reduceAdd, Nat.reduceSub, Nat.reduceMul, Nat.reduceMod, Nat.reducePow, Nat.reduceLT, Nat.reduceDiv, Int.reduceToNat, BitVec.reduceToNat, zipEnv, Int.reduceLE, Int.reduceLT, Int.reduceNeg, BitVec.reduceEq, Int.reduceAdd, Int.reduceSub, Int.reduceMul, Nat.reduceLeDiff, Int.reduceEq, amR, st_fits, List.length_map]
  have hok : ∀ i, (feed (feed (frontS s) (be2 32896)) (l.take i).flatten).ok = true := fun i => feed_ok _ _ o1
  have e : sumSt (feed (feed (frontS s) (be2 32896)) (l.take l.length).flatten) = foldS s.id s.q l := by
    rw [List.take_length, foldS, sumS, frontS, ← feed_app, ← feed_app]
    simp only [List.append_assoc]
  have hst : feed (feed (frontS s) (be2 32896)) (l.take 0).flatten = feed (frontS s) (be2 32896) := by rw [List.take_zero]; rfl
  rw [← hst]
  have hsucc : ∀ i (h : i < l.length), feed (feed (feed (frontS s) (be2 32896)) (l.take i).flatten) l[i] = feed (feed (frontS s) (be2 32896)) (l.take (i + 1)).flatten := fun i h => by
    rw [← feed_app, List.take_succ_eq_append_getElem h, List.flatten_append]; simp
  generalize feed (frontS s) (be2 32896) = B at *
  refine kLoop_up l.length (fun i env rows => has env [(14, .raw (it (i : Int))), (13, .raw (it (l.length : Int))), (12, .lst (.ar 32 L8) (l.map d32D) ex), (5, .ptr S9 3 [0]), (4, .ptr (.ar 32 L8) 1 [0])] ∧
    live rows 3 = some ⟨S9, [stD (feed B (l.take i).flatten)]⟩ ∧ live rows 1 = some ⟨.ar 32 L8, [.agg (.ar 32 L8) (bs z32)]⟩) ?_ ?_ ⟨?_, rfl, rfl⟩
  · rintro i hi env rows ⟨hh, r3, r1⟩ R hR
    simp only [has] at hh
    have e0 : ((i : Int) < (l.length : Int)) = True := eq_true (by omega)
    have b0 : ∀ n : Nat, ((0 : Int) ≤ (n : Int)) = True := fun n => eq_true (by omega)
    have e1 := wz_succ i (by omega)
    have hx := h32 _ (List.getElem_mem hi)
    have g : (l.map d32D)[i]? = some (.agg (.ar 32 L8) (bs l[i])) := by simp [d32D, hi]
    have hs := hsucc i hi
    generalize l[i] = xi at *
    have r3A := fun L => live_app r3 L
    simp only [↓amD, amU, Nat.reduceBEq, Nat.reduceAdd, Nat.reduceSub, Nat.reduceMul, Nat.reduceMod, Nat.reducePow, Nat.reduceLT, Nat.reduceDiv, Int.reduceToNat, BitVec.reduceToNat, zipEnv, Int.reduceLE, Int.reduceLT, Int.reduceNeg, BitVec.reduceEq, Int.reduceAdd, Int.reduceSub, Int.reduceMul, Nat.reduceLeDiff, Int.reduceEq, amR, hh, e0, e1, b0, List.length_map, g, r3A, h3]
    refine Eq.mpr (kFeed _ _ _ _ xi (BsIn.atAll (n := 32) (by rw [lv_app0]; rfl) rfl hx) (hok i)) ?_
    rw [hs]
    simp only [↓amD, amU, Nat.reduceBEq, Nat.reduceAdd, Nat.reduceSub, Nat.reduceMul, Nat.reduceMod, Nat.reducePow, Nat.reduceLT, Nat.reduceDiv, Int.reduceToNat, BitVec.reduceToNat, zipEnv, Int.reduceLE, Int.reduceLT, Int.reduceNeg, BitVec.reduceEq, Int.reduceAdd, Int.reduceSub, Int.reduceMul, Nat.reduceLeDiff, Int.reduceEq, amR, hh, e1, r3A, st_fits]
    exact hR _ _ ⟨by simp only [has, ↓amD, amU, Nat.reduceBEq, Nat.reduceAdd, Nat.reduceSub, Nat.reduceMul, Nat.reduceMod, Nat.reducePow, Nat.reduceLT, Nat.reduceDiv, Int.reduceToNat, BitVec.reduceToNat, zipEnv, Int.reduceLE, Int.reduceLT, Int.reduceNeg, BitVec.reduceEq, Int.reduceAdd, Int.reduceSub, Int.reduceMul, Nat.reduceLeDiff, Int.reduceEq, hh], live_set_eq (r3A _), live_set_o (live_app r1 _) (by decide)⟩
  · rintro env rows ⟨hh, r3, r1⟩ R
    simp only [has] at hh
    have e0 : ((l.length : Int) < (l.length : Int)) = False := eq_false (by omega)
    have w1 := fun x => live_set_eq (y := x) r1
    simp only [↓amD, amU, Nat.reduceBEq, Nat.reduceAdd, Nat.reduceSub, Nat.reduceMul, Nat.reduceMod, Nat.reducePow, Nat.reduceLT, Nat.reduceDiv, Int.reduceToNat, BitVec.reduceToNat, zipEnv, Int.reduceLE, Int.reduceLT, Int.reduceNeg, BitVec.reduceEq, Int.reduceAdd, Int.reduceSub, Int.reduceMul, Nat.reduceLeDiff, Int.reduceEq, amR, hh, e0, r3, r1, h4, kStSum _ _ _ (hok _), e, w1]
    exact .val _ rfl
  · simp only [has, ↓amD, amU, Nat.reduceBEq, Nat.reduceAdd, Nat.reduceSub, Nat.reduceMul, Nat.reduceMod, Nat.reducePow, Nat.reduceLT, Nat.reduceDiv, Int.reduceToNat, BitVec.reduceToNat, zipEnv, Int.reduceLE, Int.reduceLT, Int.reduceNeg, BitVec.reduceEq, Int.reduceAdd, Int.reduceSub, Int.reduceMul, Nat.reduceLeDiff, Int.reduceEq]
theorem kFold (rows : Rows) (k : D → Rows → Prop) (s : Site) (d : D) (l : List (List (BitVec 8))) (hd : RdIn rows (rdLst (.ar 32 L8) d32D) d l) (hid : s.id.length = 16) (h32 : ∀ x ∈ l, x.length = 32) (hll : l.length ≤ 1000000) :
    kCall fFold rows k [siteD s, d] = k (.agg (.ar 32 L8) (bs (foldS s.id s.q l))) rows := by
  refine (kCall_rd2 (site_pure s rows) hd (by simp [hid, all32_eq.2 h32, hll]) rfl k).trans ?_
  simp [d32D, shift, shiftRows, Sh.pure]
end Job
end Go.Am
