import Derived.Test.YtmhagenbelpnfaaDoorFo20
namespace Go.Am
set_option linter.unusedSimpArgs false
set_option linter.unusedVariables false
attribute [local congr] bnd_congr kCond_congr kGd_congr kPick_congr kCall_congr kIdx_congr kSlice_congr kLoop_congr cond_congr' aBin_congr aBounds_congr aApp_congr aCopy_congr kFn_congr
namespace Job
open Go.Am.F
set_option maxRecDepth 10000
theorem lfour_ok (C : Ctx) (hC : CtxOK C P) : Meets C.glob P 40 (Fn.run fFour) := by
  refine fn_meets (m_lms_four C hC) fun ds rows r h => ?_
  obtain ⟨d, n, rfl, rfl, hd, hp, rfl⟩ := fn1_some h
  cases rd32_some hd
  refine ⟨rfl, afun_mk rfl ?_⟩
  clear h hd
  unfold a_lms_four r_lms_four
  simp only [↓amD, amU, Nat.reduceBEq, Nat.reduceAdd, Nat.reduceSub, Nat.reduceMul, Nat.reduceMod, Nat.reducePow, Nat.reduceLT, Nat.reduceDiv, Int.reduceToNat, BitVec.reduceToNat, zipEnv, Int.reduceLE, Int.reduceLT, Int.reduceNeg, BitVec.reduceEq, Int.reduceAdd, Int.reduceSub, Int.reduceMul, Nat.reduceLeDiff, Int.reduceEq]
  exact .own _ 0 0 4 true false _ rfl rfl (fun h => by cases h)
def hashS (id : List (BitVec 8)) (r : BitVec 32) (kd : Nat) (l : List (List (BitVec 8))) : List (BitVec 8) := sumS (id ++ wordB r ++ be2 kd ++ l.flatten)
def nodeS (id : List (BitVec 8)) (r : BitVec 32) (a b : List (BitVec 8)) : List (BitVec 8) := hashS id r 33667 [a, b]
def leafS (id : List (BitVec 8)) (r : BitVec 32) (k : List (BitVec 8)) : List (BitVec 8) := hashS id r 33410 [k]
theorem nodeS_len (id : List (BitVec 8)) (r : BitVec 32) (a b : List (BitVec 8)) : (nodeS id r a b).length = 32 := sumS_len _
theorem leafS_len (id : List (BitVec 8)) (r : BitVec 32) (a : List (BitVec 8)) : (leafS id r a).length = 32 := sumS_len _
noncomputable def fHash : Fn := gn4 (rdOf id16D) rd32 rdI (rdLst (.ar 32 L8) d32D) (fun id _ n l => decide (id.length = 16) && inI n 65536 && all32 l && decide (l.length ≤ 1000000)) fun id r n l => (d32D (hashS id r n.toNat l), [])
theorem hash_ok (C : Ctx) (hC : CtxOK C P) (h1 : C.fn 68 = some fNew) (h2 : C.fn 40 = some fFour) (h3 : C.fn 64 = some fFeed) (h4 : C.fn 65 = some fStSum) : Meets C.glob P 57 (Fn.run fHash) := by
  refine fn_meetsN (m_lms_hash C hC) fun ds rows r h => ?_
  obtain ⟨d0, d1, d2, d3, id, r, n, l, rfl, rfl, g0, g1, g2, g3, hp, rfl⟩ := gn4_some h
  cases rdOf_some g0
  cases rd32_some g1
  cases rdI_some g2
  obtain ⟨ex, hx⟩ := rdLst_nrm g3
  simp only [Bool.and_eq_true, decide_eq_true_eq, all32_eq, inI_eq] at hp
  obtain ⟨⟨⟨hid, hn⟩, h32⟩, hll⟩ := hp
  refine ⟨rfl, _, .cons (.refl _) (.cons (.refl _) (.cons (.refl _) (.cons hx .nil))), afun_mk rfl ?_⟩
  clear h g0 g1 g2 g3 hx
  obtain ⟨m, rfl⟩ := Int.eq_ofNat_of_zero_le hn.1
  have hm : m < 65536 := by omega
  unfold a_lms_hash r_lms_hash
  have e8 : ∀ k, aBin .shr (it (m : Int)) (u64 8#64) k = k (.raw (it ((m / 256 : Nat) : Int))) := fun k => shr_n m 8 .u64 (by decide) k
  have e1 : BitVec.ofInt 8 ((m / 256 : Nat) : Int) = BitVec.ofNat 8 (m / 256) := BitVec.ofInt_natCast _ _
  have e2 : BitVec.ofInt 8 (m : Int) = BitVec.ofNat 8 m := BitVec.ofInt_natCast _ _
  have id_fits : (id16D id).fits (.ar 16 L8) = true := rfl
  simp only [z32_eq, stZ_eq]
  simp only [↓amD, amU, Nat.reduceBEq, Nat.reduceAdd, Nat.reduceSub, Nat.reduceMul, Nat.reduceMod, Nat.reducePow, Nat.reduceLT, Nat.reduceDiv, Int.reduceToNat, BitVec.reduceToNat, zipEnv, Int.reduceLE, Int.reduceLT, Int.reduceNeg, BitVec.reduceEq, Int.reduceAdd, Int.reduceSub, Int.reduceMul, Nat.reduceLeDiff, Int.reduceEq, amR, id16D, st_fits, h1, kNew, h3]
  refine Eq.mpr (kFeed _ _ _ _ id (BsIn.atAll (n := 16) rfl rfl hid) st0_ok) ?_
  have o0 := feed_ok id st0 st0_ok
  simp only [↓amD, amU, Nat.reduceBEq, Nat.reduceAdd, Nat.reduceSub, Nat.reduceMul, Nat.reduceMod, Nat.reducePow, Nat.reduceLT, Nat.reduceDiv, Int.reduceToNat, BitVec.reduceToNat, zipEnv, Int.reduceLE, Int.reduceLT, Int.reduceNeg, BitVec.reduceEq, Int.reduceAdd, Int.reduceSub, Int.reduceMul, Nat.reduceLeDiff, Int.reduceEq, amR, h2, kFour, h3]
  refine Eq.mpr (kFeed _ _ _ _ (wordB r) (BsIn.own rfl _ rfl) o0) ?_
  have o1 := feed_ok (wordB r) _ o0
  simp only [↓amD, amU, Nat.reduceBEq, Nat.reduceAdd, Nat.reduceSub, Nat.reduceMul, Nat.reduceMod, Nat.reducePow, Nat.reduceLT, Nat.reduceDiv, Int.reduceToNat, BitVec.reduceToNat, zipEnv, Int.reduceLE, Int.reduceLT, Int.reduceNeg, BitVec.reduceEq, Int.reduceAdd, Int.reduceSub, Int.reduceMul, Nat.reduceLeDiff, Int.reduceEq, amR, e8, e1, e2, h3]
  refine Eq.mpr (kFeed _ _ _ _ (be2 m) (BsIn.own rfl _ rfl) o1) ?_
  have o2 := feed_ok (be2 m) _ o1
  simp only [↓amD, amU, Nat.reduceBEq, Nat.reduceAdd, Nat.reduceSub, Nat.reduceMul, Nat.reduceMod, Nat.reducePow, Nat.reduceLT, Nat.reduceDiv, Int.reduceToNat, BitVec.reduceToNat, zipEnv, Int.reduceLE, Int.reduceLT, Int.reduceNeg, BitVec.reduceEq, Int.reduceAdd, Int.reduceSub, Int.reduceMul, Nat.reduceLeDiff, Int.reduceEq, amR, st_fits, List.length_map]
  have hok : ∀ i, (feed (feed (feed (feed st0 id) (wordB r)) (be2 m)) (l.take i).flatten).ok = true := fun i => feed_ok _ _ o2
  have e : sumSt (feed (feed (feed (feed st0 id) (wordB r)) (be2 m)) (l.take l.length).flatten) = hashS id r m l := by
    rw [List.take_length, hashS, sumS, ← feed_app, ← feed_app, ← feed_app]
    simp only [List.append_assoc]
  have hst : feed (feed (feed (feed st0 id) (wordB r)) (be2 m)) (l.take 0).flatten = feed (feed (feed st0 id) (wordB r)) (be2 m) := by rw [List.take_zero]; rfl
  rw [← hst]
  have hsucc : ∀ i (h : i < l.length), feed (feed (feed (feed (feed st0 id) (wordB r)) (be2 m)) (l.take i).flatten) l[i] = feed (feed (feed (feed st0 id) (wordB r)) (be2 m)) (l.take (i + 1)).flatten := fun i h => by
    rw [← feed_app, List.take_succ_eq_append_getElem h, List.flatten_append]; simp
  generalize feed (feed (feed st0 id) (wordB r)) (be2 m) = B at *
  refine kLoop_up l.length (fun i env rows => has env [(27, .raw (it (i : Int))), (26, .raw (it (l.length : Int))), (25, .lst (.ar 32 L8) (l.map d32D) ex), (9, .ptr S9 4 [0]), (8, .ptr (.ar 32 L8) 1 [0])] ∧
    live rows 4 = some ⟨S9, [stD (feed B (l.take i).flatten)]⟩ ∧ live rows 1 = some ⟨.ar 32 L8, [.agg (.ar 32 L8) (bs z32)]⟩) ?_ ?_ ⟨?_, rfl, rfl⟩
  · rintro i hi env rows ⟨hh, r3, r1⟩ R hR
    simp only [has] at hh
    have e0 : ((i : Int) < (l.length : Int)) = True := eq_true (by omega)
    have b0 : ∀ n : Nat, ((0 : Int) ≤ (n : Int)) = True := fun n => eq_true (by omega)
    have e1 := wz_succ i (by omega)
    have hx := h32 _ (List.getElem_mem hi)
    have g : (l.map d32D)[i]? = some (.agg (.ar 32 L8) (bs l[i])) := by simp [d32D, hi]
    have hs := hsucc i hi
    generalize l[i] = xi at *
    have r3A := fun L => live_app r3 L
    simp only [↓amD, amU, Nat.reduceBEq, Nat.reduceAdd, Nat.reduceSub, Nat.reduceMul, Nat.reduceMod, Nat.reducePow, Nat.reduceLT, Nat.reduceDiv, Int.reduceToNat, BitVec.reduceToNat, zipEnv, Int.reduceLE, Int.reduceLT, Int.reduceNeg, BitVec.reduceEq, Int.reduceAdd, Int.reduceSub, Int.reduceMul, Nat.reduceLeDiff, Int.reduceEq, amR, hh, e0, e1, b0, List.length_map, g, r3A, h3]
    refine Eq.mpr (kFeed _ _ _ _ xi (BsIn.atAll (n := 32) (by rw [lv_app0]; rfl) rfl hx) (hok i)) ?_
    rw [hs]
    simp only [↓amD, amU, Nat.reduceBEq, Nat.reduceAdd, Nat.reduceSub, Nat.reduceMul, Nat.reduceMod, Nat.reducePow, Nat.reduceLT, Nat.reduceDiv, Int.reduceToNat, BitVec.reduceToNat, zipEnv, Int.reduceLE, Int.reduceLT, Int.reduceNeg, BitVec.reduceEq, Int.reduceAdd, Int.reduceSub, Int.reduceMul, Nat.reduceLeDiff, Int.reduceEq, amR, hh, e1, r3A, st_fits]
    exact hR _ _ ⟨by simp only [has, ↓amD, amU, Nat.reduceBEq, Nat.reduceAdd, Nat.reduceSub, Nat.reduceMul, Nat.reduceMod, Nat.reducePow, Nat.reduceLT, Nat.reduceDiv, Int.reduceToNat, BitVec.reduceToNat, zipEnv, Int.reduceLE, Int.reduceLT, Int.reduceNeg, BitVec.reduceEq, Int.reduceAdd, Int.reduceSub, Int.reduceMul, Nat.reduceLeDiff, Int.reduceEq, hh], live_set_eq (r3A _), live_set_o (live_app r1 _) (by decide)⟩
  · rintro env rows ⟨hh, r3, r1⟩ R
    simp only [has] at hh
    have e0 : ((l.length : Int) < (l.length : Int)) = False := eq_false (by omega)
    have w1 := fun x => live_set_eq (y := x) r1
    simp only [↓amD, amU, Nat.reduceBEq, Nat.reduceAdd, Nat.reduceSub, Nat.reduceMul, Nat.reduceMod, Nat.reducePow, Nat.reduceLT, Nat.reduceDiv, Int.reduceToNat, BitVec.reduceToNat, zipEnv, Int.reduceLE, Int.reduceLT, Int.reduceNeg, BitVec.reduceEq, Int.reduceAdd, Int.reduceSub, Int.reduceMul, Nat.reduceLeDiff, Int.reduceEq, amR, hh, e0, r3, r1, h4, kStSum _ _ _ (hok _), e, w1]
    exact .val _ rfl
  · simp only [has, ↓amD, amU, Nat.reduceBEq, Nat.reduceAdd, Nat.reduceSub, Nat.reduceMul, Nat.reduceMod, Nat.reducePow, Nat.reduceLT, Nat.reduceDiv, Int.reduceToNat, BitVec.reduceToNat, zipEnv, Int.reduceLE, Int.reduceLT, Int.reduceNeg, BitVec.reduceEq, Int.reduceAdd, Int.reduceSub, Int.reduceMul, Nat.reduceLeDiff, Int.reduceEq]
theorem kHash (rows : Rows) (k : D → Rows → Prop) (id : List (BitVec 8)) (r : BitVec 32) (m : Nat) (d : D) (l : List (List (BitVec 8))) (hd : RdIn rows (rdLst (.ar 32 L8) d32D) d l) (hid : id.length = 16) (hm : m < 65536) (h32 : ∀ x ∈ l, x.length = 32) (hll : l.length ≤ 1000000) :
    kCall fHash rows k [.agg (.ar 16 L8) (bs id), .raw (u32 r), .raw (it (m : Int)), d] = k (.agg (.ar 32 L8) (bs (hashS id r m l))) rows := by
  refine (kCall_g4 (rdIn_id id) (RdIn.raw (rd32_eq r)) (RdIn.int _) hd (by simp [hid, all32_eq.2 h32, hll, inI]; omega) rfl k).trans ?_
  simp [d32D, shift, shiftRows, Sh.pure]
noncomputable def fLeaf : Fn := fn3 (rdOf id16D) rd32 (rdOf d32D) (fun id _ x => decide (id.length = 16) && decide (x.length = 32)) fun id r x => (d32D (leafS id r x), [])
theorem leaf_ok (C : Ctx) (hC : CtxOK C P) (h1 : C.fn 57 = some fHash) : Meets C.glob P 27 (Fn.run fLeaf) := by
  refine fn_meets (m_lms_Leaf C hC) fun ds rows r h => ?_
  obtain ⟨d0, d1, d2, id, r, x, rfl, rfl, g0, g1, g2, hp, rfl⟩ := fn3_some h
  cases rdOf_some g0
  cases rd32_some g1
  cases rdOf_some g2
  simp only [Bool.and_eq_true, decide_eq_true_eq] at hp
  refine ⟨rfl, afun_mk rfl ?_⟩
  clear h g0 g1 g2
  unfold a_lms_Leaf r_lms_Leaf
  simp only [z32_eq]
  have kH := fun rows k d hd => kHash rows k id r 33410 d [x] hd hp.1 (by decide) (by simp [hp.2]) (by simp)
  rw [show ((33410 : Nat) : Int) = 33410 from rfl] at kH
  simp only [↓amD, amU, Nat.reduceBEq, Nat.reduceAdd, Nat.reduceSub, Nat.reduceMul, Nat.reduceMod, Nat.reducePow, Nat.reduceLT, Nat.reduceDiv, Int.reduceToNat, BitVec.reduceToNat, zipEnv, Int.reduceLE, Int.reduceLT, Int.reduceNeg, BitVec.reduceEq, Int.reduceAdd, Int.reduceSub, Int.reduceMul, Nat.reduceLeDiff, Int.reduceEq, amR, id16D, d32D, h1]
  refine Eq.mpr (kH _ _ _ (RdIn.dl (l := [x]) rfl rfl)) ?_
  simp only [↓amD, amU, Nat.reduceBEq, Nat.reduceAdd, Nat.reduceSub, Nat.reduceMul, Nat.reduceMod, Nat.reducePow, Nat.reduceLT, Nat.reduceDiv, Int.reduceToNat, BitVec.reduceToNat, zipEnv, Int.reduceLE, Int.reduceLT, Int.reduceNeg, BitVec.reduceEq, Int.reduceAdd, Int.reduceSub, Int.reduceMul, Nat.reduceLeDiff, Int.reduceEq, amR]
  exact .val _ rfl
theorem kLeaf (rows : Rows) (k : D → Rows → Prop) (id : List (BitVec 8)) (r : BitVec 32) (x : List (BitVec 8)) (hid : id.length = 16) (hx : x.length = 32) :
    kCall fLeaf rows k [.agg (.ar 16 L8) (bs id), .raw (u32 r), .agg (.ar 32 L8) (bs x)] = k (.agg (.ar 32 L8) (bs (leafS id r x))) rows := by
  refine (kCall_rd3 (rdIn_id id) (RdIn.raw (rd32_eq r)) (rdIn_d32 x) (by simp [hid, hx]) rfl k).trans ?_
  simp [d32D, shift, shiftRows, Sh.pure]
noncomputable def fNode : Fn := gn4 (rdOf id16D) rd32 (rdOf d32D) (rdOf d32D) (fun id _ x y => decide (id.length = 16) && decide (x.length = 32) && decide (y.length = 32)) fun id r x y => (d32D (nodeS id r x y), [])
theorem node_ok (C : Ctx) (hC : CtxOK C P) (h1 : C.fn 57 = some fHash) : Meets C.glob P 28 (Fn.run fNode) := by
  refine fn_meets (m_lms_Node C hC) fun ds rows r h => ?_
  obtain ⟨d0, d1, d2, d3, id, r, x, y, rfl, rfl, g0, g1, g2, g3, hp, rfl⟩ := gn4_some h
  cases rdOf_some g0
  cases rd32_some g1
  cases rdOf_some g2
  cases rdOf_some g3
  simp only [Bool.and_eq_true, decide_eq_true_eq] at hp
  refine ⟨rfl, afun_mk rfl ?_⟩
  clear h g0 g1 g2 g3
  unfold a_lms_Node r_lms_Node
  simp only [z32_eq]
  have kH := fun rows k d hd => kHash rows k id r 33667 d [x, y] hd hp.1.1 (by decide) (by simp [hp.1.2, hp.2]) (by simp)
  rw [show ((33667 : Nat) : Int) = 33667 from rfl] at kH
  simp only [↓amD, amU, Nat.reduceBEq, Nat.reduceAdd, Nat.reduceSub, Nat.reduceMul, Nat.reduceMod, Nat.reducePow, Nat.reduceLT, Nat.reduceDiv, Int.reduceToNat, BitVec.reduceToNat, zipEnv, Int.reduceLE, Int.reduceLT, Int.reduceNeg, BitVec.reduceEq, Int.reduceAdd, Int.reduceSub, Int.reduceMul, Nat.reduceLeDiff, Int.reduceEq, amR, id16D, d32D, h1]
  refine Eq.mpr (kH _ _ _ (RdIn.dl (l := [x, y]) rfl rfl)) ?_
  simp only [↓amD, amU, Nat.reduceBEq, Nat.reduceAdd, Nat.reduceSub, Nat.reduceMul, Nat.reduceMod, Nat.reducePow, Nat.reduceLT, Nat.reduceDiv, Int.reduceToNat, BitVec.reduceToNat, zipEnv, Int.reduceLE, Int.reduceLT, Int.reduceNeg, BitVec.reduceEq, Int.reduceAdd, Int.reduceSub, Int.reduceMul, Nat.reduceLeDiff, Int.reduceEq, amR]
  exact .val _ rfl
theorem kNode (rows : Rows) (k : D → Rows → Prop) (id : List (BitVec 8)) (r : BitVec 32) (x y : List (BitVec 8)) (hid : id.length = 16) (hx : x.length = 32) (hy : y.length = 32) :
    kCall fNode rows k [.agg (.ar 16 L8) (bs id), .raw (u32 r), .agg (.ar 32 L8) (bs x), .agg (.ar 32 L8) (bs y)] = k (.agg (.ar 32 L8) (bs (nodeS id r x y))) rows := by
  refine (kCall_g4 (rdIn_id id) (RdIn.raw (rd32_eq r)) (rdIn_d32 x) (rdIn_d32 y) (by simp [hid, hx, hy]) rfl k).trans ?_
  simp [d32D, shift, shiftRows, Sh.pure]
theorem rdBs_view {rows : Rows} {d : D} {x : List (BitVec 8)} (h : rdBs d = some x) (n : Nat) : view rows (n + 1) d = some d := by
  rcases rdBs_some h with ⟨rfl, rfl⟩ | ⟨e, rfl⟩ <;> rfl
theorem rdBs_views {rows : Rows} (n : Nat) : ∀ {l : List D} {ls : List (List (BitVec 8))}, mapO rdBs l = some ls → mapO (view rows (n + 1)) l = some l
  | [], _, _ => rfl
  | d :: l, ls, h => by
    simp only [mapO] at h
    split at h
    · rename_i x hx
      split at h
      · rename_i xs hxs
        simp only [mapO, rdBs_view hx, rdBs_views n hxs]
      · cases h
    · cases h
theorem RdIn.bss {rows : Rows} {l : List D} {e : Bool} {ls : List (List (BitVec 8))} (h : mapO rdBs l = some ls) : RdIn rows rdBss (.lst .ref l e) ls := by
  have h0 : rdBss (.lst .ref l e) = some ls := by simpa [rdBss] using h
  exact ⟨⟨.lst .ref l e, by simp [view, Sh.pure, rdBs_views 7 h], h0⟩, fun _ => h0⟩
theorem kJoinR (rows : Rows) (k : D → Rows → Prop) (d : D) (ls : List (List (BitVec 8))) (h : RdIn rows rdBss d ls) (hp : ls.length ≤ most) (hp2 : ls.flatten.length ≤ most) :
    kCall fJoin rows k [d] = k (.sl L8 (0 + rows.length) [] 0 ls.flatten.length false) (rows ++ [some ⟨L8, bs ls.flatten⟩]) := by
  refine (kCall_rd1 h (by rw [Bool.and_eq_true, Nat.ble_eq, Nat.ble_eq]; exact ⟨hp, hp2⟩) rfl k).trans ?_
  simp [outBs, shift, shiftRows, Sh.pure]
noncomputable def fRHash : Fn := gn4 (rdOf id16D) rd32 rd64 rdBss (fun id _ n l => decide (id.length = 16) && decide (n.toNat < 65536) && decide (l.length ≤ 1000) && decide (l.flatten.length ≤ 1000000)) fun id r n l => (d32D (hashS id r n.toNat l), [])
theorem rhash_ok (C : Ctx) (hC : CtxOK C P) (h1 : C.fn 55 = some fNumS) (h2 : C.fn 13 = some fJoin) (h3 : C.fn 54 = some fRSum) : Meets C.glob P 23 (Fn.run fRHash) := by
  refine fn_meetsN (m_ref06_Hash C hC) fun ds rows r h => ?_
  obtain ⟨d0, d1, d2, d3, id, r, n, l, rfl, rfl, g0, g1, g2, g3, hp, rfl⟩ := gn4_some h
  cases rdOf_some g0
  cases rd32_some g1
  cases rd64_some g2
  obtain ⟨l', ex, rfl, hl⟩ := rdBss_some g3
  simp only [Bool.and_eq_true, decide_eq_true_eq] at hp
  obtain ⟨⟨⟨hid, hn⟩, hll⟩, hfl⟩ := hp
  refine ⟨rfl, _, .cons (.refl _) (.cons (.refl _) (.cons (.refl _) (.cons (.refl _) .nil))), afun_mk rfl ?_⟩
  clear h g0 g1 g2 g3
  unfold a_ref06_Hash r_ref06_Hash
  simp only [z32_eq]
  have k4 := fun rows k => kNumN rows k (r.setWidth 64) 4 (by decide) (by decide)
  have k2 := fun rows k => kNumN rows k n 2 (by decide) (by decide)
  rw [show (4 : Int).toNat = 4 from rfl, numq4] at k4
  have hn2 : numL 2 n = be2 n.toNat := by
    have := numq2 n.toNat hn
    rwa [BitVec.ofNat_toNat, BitVec.setWidth_eq] at this
  rw [show (2 : Int).toNat = 2 from rfl, hn2] at k2
  simp only [↓amD, amU, Nat.reduceBEq, Nat.reduceAdd, Nat.reduceSub, Nat.reduceMul, Nat.reduceMod, Nat.reducePow, Nat.reduceLT, Nat.reduceDiv, Int.reduceToNat, BitVec.reduceToNat, zipEnv, Int.reduceLE, Int.reduceLT, Int.reduceNeg, BitVec.reduceEq, Int.reduceAdd, Int.reduceSub, Int.reduceMul, Nat.reduceLeDiff, Int.reduceEq, amR, id16D, d32D, h1, k4, k2, h2]
  refine Eq.mpr (kJoinR _ _ _ l (RdIn.bss hl) (by unfold most; omega) (by unfold most; omega)) ?_
  simp only [↓amD, amU, Nat.reduceBEq, Nat.reduceAdd, Nat.reduceSub, Nat.reduceMul, Nat.reduceMod, Nat.reducePow, Nat.reduceLT, Nat.reduceDiv, Int.reduceToNat, BitVec.reduceToNat, zipEnv, Int.reduceLE, Int.reduceLT, Int.reduceNeg, BitVec.reduceEq, Int.reduceAdd, Int.reduceSub, Int.reduceMul, Nat.reduceLeDiff, Int.reduceEq, amR, h2]
  have e0 : hashS id r n.toNat l = sumS (id ++ wordB r ++ be2 n.toNat ++ l.flatten) := rfl
  rw [e0]
  clear hl e0
  generalize l.flatten = F at *
  refine Eq.mpr (kJoin _ _ _ 4 _ _ [id, wordB r, be2 n.toNat, F] rfl rfl (.cons (BsIn.atAll (n := 16) rfl rfl hid) (.cons (BsIn.own rfl _ rfl) (.cons (BsIn.own rfl _ rfl) (.cons (BsIn.own rfl _ rfl) .nil)))) (by simp) (by simp [hid, wordB, be2]; omega)) ?_
  have hl : ([id, wordB r, be2 n.toNat, F].flatten).length = 22 + F.length := by simp [hid, wordB, be2]; omega
  have e : sumS ([id, wordB r, be2 n.toNat, F].flatten) = sumS (id ++ wordB r ++ be2 n.toNat ++ F) := by congr 1; simp
  generalize [id, wordB r, be2 n.toNat, F].flatten = T at hl e ⊢
  simp only [↓amD, amU, Nat.reduceBEq, Nat.reduceAdd, Nat.reduceSub, Nat.reduceMul, Nat.reduceMod, Nat.reducePow, Nat.reduceLT, Nat.reduceDiv, Int.reduceToNat, BitVec.reduceToNat, zipEnv, Int.reduceLE, Int.reduceLT, Int.reduceNeg, BitVec.reduceEq, Int.reduceAdd, Int.reduceSub, Int.reduceMul, Nat.reduceLeDiff, Int.reduceEq, amR, h3]
  refine Eq.mpr (kRSum _ _ _ T (BsIn.own rfl _ rfl) (by omega)) ?_
  simp only [↓amD, amU, Nat.reduceBEq, Nat.reduceAdd, Nat.reduceSub, Nat.reduceMul, Nat.reduceMod, Nat.reducePow, Nat.reduceLT, Nat.reduceDiv, Int.reduceToNat, BitVec.reduceToNat, zipEnv, Int.reduceLE, Int.reduceLT, Int.reduceNeg, BitVec.reduceEq, Int.reduceAdd, Int.reduceSub, Int.reduceMul, Nat.reduceLeDiff, Int.reduceEq, amR, e]
  exact .val _ rfl
theorem kRHash (rows : Rows) (k : D → Rows → Prop) (id : List (BitVec 8)) (r : BitVec 32) (n : BitVec 64) (d : D) (l : List (List (BitVec 8))) (hd : RdIn rows rdBss d l) (hid : id.length = 16) (hn : n.toNat < 65536) (hll : l.length ≤ 1000) (hfl : l.flatten.length ≤ 1000000) :
    kCall fRHash rows k [.agg (.ar 16 L8) (bs id), .raw (u32 r), .raw (u64 n), d] = k (.agg (.ar 32 L8) (bs (hashS id r n.toNat l))) rows := by
  refine (kCall_g4 (rdIn_id id) (RdIn.raw (rd32_eq r)) (RdIn.raw (rd64_eq n)) hd (by simp only [Bool.and_eq_true, decide_eq_true_eq]; exact ⟨⟨⟨hid, hn⟩, hll⟩, hfl⟩) rfl k).trans ?_
  simp [d32D, shift, shiftRows, Sh.pure]
def fRHeight : Fn := fn1 rd32 (fun _ => true) fun t => (.raw (it (hT t.toNat : Int)), [])
theorem rheight_ok (C : Ctx) (hC : CtxOK C P) : Meets C.glob P 46 (Fn.run fRHeight) := by
  refine fn_meets (m_ref06_Height C hC) fun ds rows r h => ?_
  obtain ⟨d, t, rfl, rfl, hd, hp, rfl⟩ := fn1_some h
  cases rd32_some hd
  refine ⟨rfl, afun_mk rfl ?_⟩
  clear h hd hp
  unfold a_ref06_Height r_ref06_Height
  by_cases h1 : t = 5#32
  · subst h1; simp only [↓amD, amU, Nat.reduceBEq, Nat.reduceAdd, Nat.reduceSub, Nat.reduceMul, Nat.reduceMod, Nat.reducePow, Nat.reduceLT, Nat.reduceDiv, Int.reduceToNat, BitVec.reduceToNat, zipEnv, Int.reduceLE, Int.reduceLT, Int.reduceNeg, BitVec.reduceEq, Int.reduceAdd, Int.reduceSub, Int.reduceMul, Nat.reduceLeDiff, Int.reduceEq]; exact .val _ rfl
  by_cases h2 : t = 6#32
  · subst h2; simp only [↓amD, amU, Nat.reduceBEq, Nat.reduceAdd, Nat.reduceSub, Nat.reduceMul, Nat.reduceMod, Nat.reducePow, Nat.reduceLT, Nat.reduceDiv, Int.reduceToNat, BitVec.reduceToNat, zipEnv, Int.reduceLE, Int.reduceLT, Int.reduceNeg, BitVec.reduceEq, Int.reduceAdd, Int.reduceSub, Int.reduceMul, Nat.reduceLeDiff, Int.reduceEq]; exact .val _ rfl
  by_cases h3 : t = 7#32
  · subst h3; simp only [↓amD, amU, Nat.reduceBEq, Nat.reduceAdd, Nat.reduceSub, Nat.reduceMul, Nat.reduceMod, Nat.reducePow, Nat.reduceLT, Nat.reduceDiv, Int.reduceToNat, BitVec.reduceToNat, zipEnv, Int.reduceLE, Int.reduceLT, Int.reduceNeg, BitVec.reduceEq, Int.reduceAdd, Int.reduceSub, Int.reduceMul, Nat.reduceLeDiff, Int.reduceEq]; exact .val _ rfl
  by_cases h4 : t = 8#32
  · subst h4; simp only [↓amD, amU, Nat.reduceBEq, Nat.reduceAdd, Nat.reduceSub, Nat.reduceMul, Nat.reduceMod, Nat.reducePow, Nat.reduceLT, Nat.reduceDiv, Int.reduceToNat, BitVec.reduceToNat, zipEnv, Int.reduceLE, Int.reduceLT, Int.reduceNeg, BitVec.reduceEq, Int.reduceAdd, Int.reduceSub, Int.reduceMul, Nat.reduceLeDiff, Int.reduceEq]; exact .val _ rfl
  by_cases h5 : t = 9#32
  · subst h5; simp only [↓amD, amU, Nat.reduceBEq, Nat.reduceAdd, Nat.reduceSub, Nat.reduceMul, Nat.reduceMod, Nat.reducePow, Nat.reduceLT, Nat.reduceDiv, Int.reduceToNat, BitVec.reduceToNat, zipEnv, Int.reduceLE, Int.reduceLT, Int.reduceNeg, BitVec.reduceEq, Int.reduceAdd, Int.reduceSub, Int.reduceMul, Nat.reduceLeDiff, Int.reduceEq]; exact .val _ rfl
  by_cases h6 : t = 3758096385#32
  · subst h6; simp only [↓amD, amU, Nat.reduceBEq, Nat.reduceAdd, Nat.reduceSub, Nat.reduceMul, Nat.reduceMod, Nat.reducePow, Nat.reduceLT, Nat.reduceDiv, Int.reduceToNat, BitVec.reduceToNat, zipEnv, Int.reduceLE, Int.reduceLT, Int.reduceNeg, BitVec.reduceEq, Int.reduceAdd, Int.reduceSub, Int.reduceMul, Nat.reduceLeDiff, Int.reduceEq]; exact .val _ rfl
  by_cases h7 : t = 3758096386#32
  · subst h7; simp only [↓amD, amU, Nat.reduceBEq, Nat.reduceAdd, Nat.reduceSub, Nat.reduceMul, Nat.reduceMod, Nat.reducePow, Nat.reduceLT, Nat.reduceDiv, Int.reduceToNat, BitVec.reduceToNat, zipEnv, Int.reduceLE, Int.reduceLT, Int.reduceNeg, BitVec.reduceEq, Int.reduceAdd, Int.reduceSub, Int.reduceMul, Nat.reduceLeDiff, Int.reduceEq]; exact .val _ rfl
  by_cases h8 : t = 3758096387#32
  · subst h8; simp only [↓amD, amU, Nat.reduceBEq, Nat.reduceAdd, Nat.reduceSub, Nat.reduceMul, Nat.reduceMod, Nat.reducePow, Nat.reduceLT, Nat.reduceDiv, Int.reduceToNat, BitVec.reduceToNat, zipEnv, Int.reduceLE, Int.reduceLT, Int.reduceNeg, BitVec.reduceEq, Int.reduceAdd, Int.reduceSub, Int.reduceMul, Nat.reduceLeDiff, Int.reduceEq]; exact .val _ rfl
  by_cases h9 : t = 3758096388#32
  · subst h9; simp only [↓amD, amU, Nat.reduceBEq, Nat.reduceAdd, Nat.reduceSub, Nat.reduceMul, Nat.reduceMod, Nat.reducePow, Nat.reduceLT, Nat.reduceDiv, Int.reduceToNat, BitVec.reduceToNat, zipEnv, Int.reduceLE, Int.reduceLT, Int.reduceNeg, BitVec.reduceEq, Int.reduceAdd, Int.reduceSub, Int.reduceMul, Nat.reduceLeDiff, Int.reduceEq]; exact .val _ rfl
  have q : ∀ n : Nat, n < 4294967296 → t ≠ BitVec.ofNat 32 n → t.toNat ≠ n := fun n hn h e => h (by apply BitVec.eq_of_toNat_eq; rw [e, BitVec.toNat_ofNat]; omega)
  have r1 := q 5 (by omega) h1
  have r2 := q 6 (by omega) h2
  have r3 := q 7 (by omega) h3
  have r4 := q 8 (by omega) h4
  have r5 := q 9 (by omega) h5
  have r6 := q 3758096385 (by omega) h6
  have r7 := q 3758096386 (by omega) h7
  have r8 := q 3758096387 (by omega) h8
  have r9 := q 3758096388 (by omega) h9
  have e : hT t.toNat = 0 := by unfold hT; rw [if_neg (by omega), if_neg (by omega)]
  simp only [↓amD, amU, Nat.reduceBEq, Nat.reduceAdd, Nat.reduceSub, Nat.reduceMul, Nat.reduceMod, Nat.reducePow, Nat.reduceLT, Nat.reduceDiv, Int.reduceToNat, BitVec.reduceToNat, zipEnv, Int.reduceLE, Int.reduceLT, Int.reduceNeg, BitVec.reduceEq, Int.reduceAdd, Int.reduceSub, Int.reduceMul, Nat.reduceLeDiff, Int.reduceEq, h1, h2, h3, h4, h5, h6, h7, h8, h9, e]
  exact .val _ rfl
theorem kRHeight (rows : Rows) (k : D → Rows → Prop) (t : BitVec 32) : kCall fRHeight rows k [.raw (u32 t)] = k (.raw (it (hT t.toNat : Int))) rows := by
  refine (kCall_rd1 (RdIn.raw (rd32_eq t)) rfl rfl k).trans ?_
  simp [shift, shiftRows]
theorem kReadK (rows : Rows) (k : D → Rows → Prop) (d : D) (p : List (BitVec 8)) (h : BsIn rows d p) (hp : p.length ≤ 1099511627776) : kCall fReadK rows k [d] = k (.tup [keyD (readS p).1, .raw (it (readS p).2)]) rows := by
  refine (kCall_rd1 (RdIn.bs h) (by simpa [most] using hp) rfl k).trans ?_
  simp [shift, shiftL, shiftRows, keyD, Sh.pure]
def fNoneP : Fn := fn1 rdI (fun _ => true) fun e => (.tup [.raw (u32 0#32), .raw (.slice none 0 0), .raw (u32 0#32), .raw (.slice none 0 0), .raw (it e)], [])
theorem nonep_ok (C : Ctx) (hC : CtxOK C P) : Meets C.glob P 41 (Fn.run fNoneP) := by
  refine fn_meets (m_lms_Parts_1 C hC) fun ds rows r h => ?_
  obtain ⟨d, t, rfl, rfl, hd, hp, rfl⟩ := fn1_some h
  cases rdI_some hd
  refine ⟨rfl, afun_mk rfl ?_⟩
  clear h hd
  unfold a_lms_Parts_1 r_lms_Parts_1
  simp only [↓amD, amU, Nat.reduceBEq, Nat.reduceAdd, Nat.reduceSub, Nat.reduceMul, Nat.reduceMod, Nat.reducePow, Nat.reduceLT, Nat.reduceDiv, Int.reduceToNat, BitVec.reduceToNat, zipEnv, Int.reduceLE, Int.reduceLT, Int.reduceNeg, BitVec.reduceEq, Int.reduceAdd, Int.reduceSub, Int.reduceMul, Nat.reduceLeDiff, Int.reduceEq]
  exact .val _ rfl
theorem kNoneP (rows : Rows) (k : D → Rows → Prop) (e : Int) : kCall fNoneP rows k [.raw (it e)] = k (.tup [.raw (u32 0#32), .raw (.slice none 0 0), .raw (u32 0#32), .raw (.slice none 0 0), .raw (it e)]) rows := by
  refine (kCall_rd1 (RdIn.int e) rfl rfl k).trans ?_
  simp [shift, shiftL, shiftRows]
theorem readS_le (p : List (BitVec 8)) : (readS p).2 = 0 ∨ (readS p).2 = 6 ∨ (readS p).2 = 2 := by
  unfold readS
  cases decide (p.length = 56)
  · exact .inr (.inr rfl)
  · cases okH (numS p).toNat && okT (numS (p.drop 4)).toNat
    · exact .inr (.inl rfl)
    · exact .inl rfl
def lqS (p : List (BitVec 8)) : BitVec 32 := numS p
def loS (p : List (BitVec 8)) : BitVec 32 := numS (p.drop 4)
def lpS (p : List (BitVec 8)) : Nat := pT (loS p).toNat
def ltS (p : List (BitVec 8)) : BitVec 32 := numS (p.drop (40 + 32 * lpS p))
def lhS (p : List (BitVec 8)) : Nat := hT (ltS p).toNat
def oneS (p : List (BitVec 8)) : List (BitVec 8) := (p.drop 4).take (36 + 32 * lpS p)
def pcS (p : List (BitVec 8)) (i : Nat) : List (BitVec 8) := (p.drop (44 + 32 * lpS p + 32 * i)).take 32
def rstS (p : List (BitVec 8)) (i : Nat) : List (BitVec 8) := p.drop (44 + 32 * lpS p + 32 * i)
def pathS (p : List (BitVec 8)) (n : Nat) : List (List (BitVec 8)) := (List.range n).map (pcS p)
def partsE (p : List (BitVec 8)) : Int :=
  if p.length < 8 then 2 else if okT (loS p).toNat = false then 6 else if p.length < 44 + 32 * lpS p then 2 else if okH (ltS p).toNat = false then 6
  else if p.length ≠ 44 + 32 * lpS p + 32 * lhS p ∨ (lqS p).toNat >>> lhS p ≠ 0 then 2 else 0
theorem partsE_0 {p : List (BitVec 8)} (h : partsE p = 0) : okT (loS p).toNat = true ∧ okH (ltS p).toNat = true ∧ p.length = 44 + 32 * lpS p + 32 * lhS p ∧ (lqS p).toNat >>> lhS p = 0 := by
  unfold partsE at h
  split at h
  · cases h
  split at h
  · cases h
  split at h
  · cases h
  split at h
  · cases h
  split at h
  · cases h
  rename_i h1 h2 h3 h4 h5
  refine ⟨by simpa using h2, by simpa using h4, ?_, ?_⟩ <;> omega
theorem okH_pos {t : Nat} (h : okH t = true) : 1 ≤ hT t := by
  unfold okH at h
  unfold hT
  simp only [decide_eq_true_eq] at h
  split
  · omega
  · split <;> omega
noncomputable def fParts : Fn := fn1 rdBs (fun p => decide (p.length ≤ 1099511627776)) fun p => if partsE p = 0 then
    (.tup [.raw (u32 (lqS p)), .sl L8 0 [] 0 (36 + 32 * lpS p) false, .raw (u32 (ltS p)), .sl (.ar 32 L8) 1 [] 0 (lhS p) false, .raw (it 0)], [some ⟨L8, bs (oneS p)⟩, some ⟨.ar 32 L8, (pathS p (lhS p)).map d32D⟩])
  else (.tup [.raw (u32 0#32), .raw (.slice none 0 0), .raw (u32 0#32), .raw (.slice none 0 0), .raw (it (partsE p))], [])
set_option maxHeartbeats 4000000 in
theorem parts_ok (C CT : Ctx) (hC : CtxOK C P) (h1 : C.fn 44 = some fLNum) (h2 : C.fn 45 = some fHeight) (h3 : C.fn 43 = some fParams) (h4 : C.fn 41 = some fNoneP) (n5 : C.fn 42 = none) (r5 : C.fnr 42 = some (afun CT 2 r_lms_take a_lms_take)) :
    Meets C.glob P 14 (Fn.run fParts) := by
  refine fn_meetsN (m_lms_Parts C hC) fun ds rows r h => ?_
  obtain ⟨d, p, rfl, rfl, hd, hp, rfl⟩ := fn1_some h
  obtain ⟨x, hx⟩ := rdBs_nrm hd
  refine ⟨rfl, _, .cons hx .nil, afun_mk rfl ?_⟩
  simp only [decide_eq_true_eq] at hp
  clear h hx hd
  unfold a_lms_Parts r_lms_Parts
  have mb : memB 41 [41] = true := rfl
  by_cases hl : p.length < 4
  · have hq : partsE p = 2 := by unfold partsE; rw [if_pos (by omega)]
    have c1 : ((p.length : Int) < 4) = True := eq_true (by omega)
    rw [hq, if_neg (by decide)]
    simp only [↓amD, amU, Nat.reduceBEq, Nat.reduceAdd, Nat.reduceSub, Nat.reduceMul, Nat.reduceMod, Nat.reducePow, Nat.reduceLT, Nat.reduceDiv, Int.reduceToNat, BitVec.reduceToNat, zipEnv, Int.reduceLE, Int.reduceLT, Int.reduceNeg, BitVec.reduceEq, Int.reduceAdd, Int.reduceSub, Int.reduceMul, Nat.reduceLeDiff, Int.reduceEq, amR, bs_len, q_afun, n5, r5, a_lms_take, r_lms_take, c1, mb, h4, kNoneP]
    exact .val _ rfl
  have c1 : ((p.length : Int) < 4) = False := eq_false (by omega)
  have g1 : ((4 : Int) ≤ (p.length : Int)) = True := eq_true (by omega)
  have tk : (bs (p.drop 4)).take (p.length - 4) = bs (p.drop 4) := List.take_of_length_le (by rw [bs_len, List.length_drop]; exact Nat.le_refl _)
  by_cases h8 : p.length < 8
  · have hq : partsE p = 2 := by unfold partsE; rw [if_pos h8]
    have c2 : (((p.length - 4 : Nat) : Int) < 4) = True := eq_true (by omega)
    rw [hq, if_neg (by decide)]
    simp only [↓amD, amU, Nat.reduceBEq, Nat.reduceAdd, Nat.reduceSub, Nat.reduceMul, Nat.reduceMod, Nat.reducePow, Nat.reduceLT, Nat.reduceDiv, Int.reduceToNat, BitVec.reduceToNat, zipEnv, Int.reduceLE, Int.reduceLT, Int.reduceNeg, BitVec.reduceEq, Int.reduceAdd, Int.reduceSub, Int.reduceMul, Nat.reduceLeDiff, Int.reduceEq, amR, bs_len, q_afun, n5, r5, a_lms_take, r_lms_take, c1, c2, g1, bs_drop, tk, List.length_drop, mb, h4, kNoneP]
    exact .val _ rfl
  have c2 : (((p.length - 4 : Nat) : Int) < 4) = False := eq_false (by omega)
  have d4 : 4 ≤ (p.drop 4).length := by rw [List.length_drop]; omega
  have kL := fun rows k e => kLNumL rows k (p.drop 4) e d4
  have eo : numS (p.drop 4) = loS p := rfl
  have par_fits : ∀ x : Par, D.fits (.agg SPar [.raw (it (x.w : Int)), .raw (it (x.p : Int)), .raw (it (x.l : Int))]) SPar = true := fun x => rfl
  rw [eo] at kL
  cases ho : okT (loS p).toNat with
  | false =>
    have hq : partsE p = 6 := by unfold partsE; rw [if_neg h8, if_pos ho]
    rw [hq, if_neg (by decide)]
    simp only [↓amD, amU, Nat.reduceBEq, Nat.reduceAdd, Nat.reduceSub, Nat.reduceMul, Nat.reduceMod, Nat.reducePow, Nat.reduceLT, Nat.reduceDiv, Int.reduceToNat, BitVec.reduceToNat, zipEnv, Int.reduceLE, Int.reduceLT, Int.reduceNeg, BitVec.reduceEq, Int.reduceAdd, Int.reduceSub, Int.reduceMul, Nat.reduceLeDiff, Int.reduceEq, amR, bs_len, q_afun, n5, r5, a_lms_take, r_lms_take, c1, c2, g1, bs_drop, tk, List.length_drop, mb, h4, kNoneP, h1, kL, h3, kParams, parD, ho, par_fits, Bool.not_false]
    exact .val _ rfl
  | true =>
  have hpt : lpS p ≤ 265 := (parT_ok ho).2.2.1
  have ep : ((parT (loS p).toNat).p : Int) = ((lpS p : Nat) : Int) := rfl
  have q1 : wz ((lpS p : Int) + 1) = ((lpS p + 1 : Nat) : Int) := wz_succ _ (by omega)
  have q2 : wz (32 * ((lpS p + 1 : Nat) : Int)) = ((32 * (lpS p + 1) : Nat) : Int) := by rw [wz_id (by omega)]; omega
  have q3 : wz (4 + ((32 * (lpS p + 1) : Nat) : Int)) = ((36 + 32 * lpS p : Nat) : Int) := by rw [wz_id (by omega)]; omega
  simp only [↓amD, amU, Nat.reduceBEq, Nat.reduceAdd, Nat.reduceSub, Nat.reduceMul, Nat.reduceMod, Nat.reducePow, Nat.reduceLT, Nat.reduceDiv, Int.reduceToNat, BitVec.reduceToNat, zipEnv, Int.reduceLE, Int.reduceLT, Int.reduceNeg, BitVec.reduceEq, Int.reduceAdd, Int.reduceSub, Int.reduceMul, Nat.reduceLeDiff, Int.reduceEq, amR, bs_len, q_afun, n5, r5, a_lms_take, r_lms_take, c1, c2, g1, bs_drop, tk, List.length_drop, mb, h4, kNoneP, h1, kL, h3, kParams, parD, ho, par_fits, Bool.not_true, ep, q1, q2, q3]
  have b0 : ∀ n : Nat, ((0 : Int) ≤ (n : Int)) = True := fun n => eq_true (by omega)
  by_cases c : p.length - 4 < 36 + 32 * lpS p
  · have hq : partsE p = 2 := by unfold partsE; rw [if_neg h8, if_neg (by rw [ho]; decide), if_pos (by omega)]
    have c3 : (((p.length - 4 : Nat) : Int) < ((36 + 32 * lpS p : Nat) : Int)) = True := eq_true (by omega)
    rw [hq, if_neg (by decide)]
    simp only [↓amD, amU, Nat.reduceBEq, Nat.reduceAdd, Nat.reduceSub, Nat.reduceMul, Nat.reduceMod, Nat.reducePow, Nat.reduceLT, Nat.reduceDiv, Int.reduceToNat, BitVec.reduceToNat, zipEnv, Int.reduceLE, Int.reduceLT, Int.reduceNeg, BitVec.reduceEq, Int.reduceAdd, Int.reduceSub, Int.reduceMul, Nat.reduceLeDiff, Int.reduceEq, amR, c3, mb, h4, kNoneP]
    exact .val _ rfl
  have c3 : (((p.length - 4 : Nat) : Int) < ((36 + 32 * lpS p : Nat) : Int)) = False := eq_false (by omega)
  have c4 : (((36 + 32 * lpS p : Nat) : Int) ≤ ((p.length - 4 : Nat) : Int)) = True := eq_true (by omega)
  have tk2 : List.take (p.length - 4 - (36 + 32 * lpS p)) (List.drop (36 + 32 * lpS p) (List.drop 4 p)) = p.drop (40 + 32 * lpS p) := by
    rw [List.drop_drop, List.take_of_length_le (by rw [List.length_drop]; omega)]
    congr 1; omega
  have tk1 : List.take (36 + 32 * lpS p) (List.drop 4 p) = oneS p := rfl
  by_cases h3' : p.length < 44 + 32 * lpS p
  · have hq : partsE p = 2 := by unfold partsE; rw [if_neg h8, if_neg (by rw [ho]; decide), if_pos h3']
    have c5 : (((p.length - (40 + 32 * lpS p) : Nat) : Int) < 4) = True := eq_true (by omega)
    rw [hq, if_neg (by decide)]
    simp only [↓amD, amU, Nat.reduceBEq, Nat.reduceAdd, Nat.reduceSub, Nat.reduceMul, Nat.reduceMod, Nat.reducePow, Nat.reduceLT, Nat.reduceDiv, Int.reduceToNat, BitVec.reduceToNat, zipEnv, Int.reduceLE, Int.reduceLT, Int.reduceNeg, BitVec.reduceEq, Int.reduceAdd, Int.reduceSub, Int.reduceMul, Nat.reduceLeDiff, Int.reduceEq, amR, c3, c4, c5, b0, bs_len, List.length_drop, bs_drop, bs_take, tk2, mb, h4, kNoneP]
    exact .val _ rfl
  have c5 : (((p.length - (40 + 32 * lpS p) : Nat) : Int) < 4) = False := eq_false (by omega)
  have d5 : 4 ≤ (p.drop (40 + 32 * lpS p)).length := by rw [List.length_drop]; omega
  have kT := fun rows k e => kLNumL rows k (p.drop (40 + 32 * lpS p)) e d5
  rw [show numS (p.drop (40 + 32 * lpS p)) = ltS p from rfl] at kT
  cases hh : okH (ltS p).toNat with
  | false =>
    have hq : partsE p = 6 := by unfold partsE; rw [if_neg h8, if_neg (by rw [ho]; decide), if_neg h3', if_pos hh]
    rw [hq, if_neg (by decide)]
    simp only [↓amD, amU, Nat.reduceBEq, Nat.reduceAdd, Nat.reduceSub, Nat.reduceMul, Nat.reduceMod, Nat.reducePow, Nat.reduceLT, Nat.reduceDiv, Int.reduceToNat, BitVec.reduceToNat, zipEnv, Int.reduceLE, Int.reduceLT, Int.reduceNeg, BitVec.reduceEq, Int.reduceAdd, Int.reduceSub, Int.reduceMul, Nat.reduceLeDiff, Int.reduceEq, amR, c3, c4, c5, b0, bs_len, List.length_drop, bs_drop, bs_take, tk2, mb, h4, kNoneP, h1, kT, h2, kHeight, hh, Bool.not_false]
    exact .val _ rfl
  | true =>
  have hh1 := okH_pos hh
  have hh2 := hT_le (ltS p).toNat
  have ehh : hT (ltS p).toNat = lhS p := rfl
  rw [ehh] at hh1 hh2
  have d0 : 4 ≤ (p.take 4).length := by rw [List.length_take]; omega
  have kQ := fun rows k e => kLNumL rows k (p.take 4) e d0
  rw [numS_take p 4 (Nat.le_refl _), show numS p = lqS p from rfl] at kQ
  have c6 : ((4 : Int) ≤ ((p.length - (40 + 32 * lpS p) : Nat) : Int)) = True := eq_true (by omega)
  have c7 : wz (32 * ((lhS p : Nat) : Int)) = ((32 * lhS p : Nat) : Int) := by rw [wz_id (by omega)]; omega
  have tk3 : List.take (p.length - (40 + 32 * lpS p) - 4) (List.drop 4 (List.drop (40 + 32 * lpS p) p)) = p.drop (44 + 32 * lpS p) := by
    rw [List.drop_drop, List.take_of_length_le (by rw [List.length_drop]; omega)]
    congr 1; omega
  simp only [↓amD, amU, Nat.reduceBEq, Nat.reduceAdd, Nat.reduceSub, Nat.reduceMul, Nat.reduceMod, Nat.reducePow, Nat.reduceLT, Nat.reduceDiv, Int.reduceToNat, BitVec.reduceToNat, zipEnv, Int.reduceLE, Int.reduceLT, Int.reduceNeg, BitVec.reduceEq, Int.reduceAdd, Int.reduceSub, Int.reduceMul, Nat.reduceLeDiff, Int.reduceEq, amR, c3, c4, c5, c6, c7, b0, bs_len, List.length_drop, bs_drop, bs_take, tk2, tk3, mb, h4, kNoneP, h1, kT, kQ, h2, kHeight, hh, ehh, Bool.not_true]
  have bq : ∀ m : Nat, (lqS p >>> m = 0#32) ↔ (lqS p).toNat >>> m = 0 := fun m => by
    constructor
    · intro h; have := congrArg BitVec.toNat h; simpa using this
    · intro h; apply BitVec.eq_of_toNat_eq; simpa using h
  by_cases cl : p.length = 44 + 32 * lpS p + 32 * lhS p
  rotate_left
  · have hq : partsE p = 2 := by unfold partsE; rw [if_neg h8, if_neg (by rw [ho]; decide), if_neg h3', if_neg (by rw [hh]; decide), if_pos (.inl cl)]
    have c8 : (((p.length - (44 + 32 * lpS p) : Nat) : Int) = ((32 * lhS p : Nat) : Int)) = False := eq_false (by omega)
    rw [hq, if_neg (by decide)]
    simp only [↓amD, amU, Nat.reduceBEq, Nat.reduceAdd, Nat.reduceSub, Nat.reduceMul, Nat.reduceMod, Nat.reducePow, Nat.reduceLT, Nat.reduceDiv, Int.reduceToNat, BitVec.reduceToNat, zipEnv, Int.reduceLE, Int.reduceLT, Int.reduceNeg, BitVec.reduceEq, Int.reduceAdd, Int.reduceSub, Int.reduceMul, Nat.reduceLeDiff, Int.reduceEq, amR, c8, mb, h4, kNoneP]
    exact .val _ rfl
  have c8 : (((p.length - (44 + 32 * lpS p) : Nat) : Int) = ((32 * lhS p : Nat) : Int)) = True := eq_true (by omega)
  by_cases cq : (lqS p).toNat >>> lhS p = 0
  rotate_left
  · have hq : partsE p = 2 := by unfold partsE; rw [if_neg h8, if_neg (by rw [ho]; decide), if_neg h3', if_neg (by rw [hh]; decide), if_pos (.inr cq)]
    have c9 : (lqS p >>> lhS p = 0#32) = False := eq_false (fun h => cq ((bq _).1 h))
    rw [hq, if_neg (by decide)]
    simp only [↓amD, amU, Nat.reduceBEq, Nat.reduceAdd, Nat.reduceSub, Nat.reduceMul, Nat.reduceMod, Nat.reducePow, Nat.reduceLT, Nat.reduceDiv, Int.reduceToNat, BitVec.reduceToNat, zipEnv, Int.reduceLE, Int.reduceLT, Int.reduceNeg, BitVec.reduceEq, Int.reduceAdd, Int.reduceSub, Int.reduceMul, Nat.reduceLeDiff, Int.reduceEq, amR, c8, c9, b0, Int.toNat_natCast, mb, h4, kNoneP]
    exact .val _ rfl
  have hq : partsE p = 0 := by unfold partsE; rw [if_neg h8, if_neg (by rw [ho]; decide), if_neg h3', if_neg (by rw [hh]; decide), if_neg (by omega)]
  have c9 : (lqS p >>> lhS p = 0#32) = True := eq_true ((bq _).2 cq)
  rw [if_pos hq]
  simp only [↓amD, amU, Nat.reduceBEq, Nat.reduceAdd, Nat.reduceSub, Nat.reduceMul, Nat.reduceMod, Nat.reducePow, Nat.reduceLT, Nat.reduceDiv, Int.reduceToNat, BitVec.reduceToNat, zipEnv, Int.reduceLE, Int.reduceLT, Int.reduceNeg, BitVec.reduceEq, Int.reduceAdd, Int.reduceSub, Int.reduceMul, Nat.reduceLeDiff, Int.reduceEq, amR, c8, c9, b0, Int.toNat_natCast]
  have hcl : ∀ i, i < lhS p → (pcS p i).length = 32 := fun i hi => by rw [pcS, List.length_take, List.length_drop]; omega
  have hds : ∀ i, (pathS p i).map d32D ++ [.agg (.ar 32 L8) (bs (pcS p i))] = (pathS p (i + 1)).map d32D := fun i => by simp [pathS, List.range_succ, d32D]
  have hdl : ∀ i, (pathS p i).length = i := fun i => by simp [pathS]
  have tk1' : List.take (36 + 32 * lpS p - 0) (List.drop 4 p) = oneS p := rfl
  rw [tk1']
  generalize exOf (some (((36 + 32 * lpS p : Nat) : Int))) (36 + 32 * lpS p) (36 + 32 * lpS p) (p.length - 4) (exOf none p.length p.length p.length x) = e12
  generalize exOf none (p.length - (40 + 32 * lpS p)) (p.length - (40 + 32 * lpS p)) (p.length - (40 + 32 * lpS p)) (exOf none (p.length - 4) (p.length - 4) (p.length - 4) (exOf none p.length p.length p.length x)) = e0
  have er : List.drop (44 + 32 * lpS p) p = rstS p 0 := rfl
  have hrl : ∀ i, i ≤ lhS p → (rstS p i).length = 32 * (lhS p - i) := fun i hi => by rw [rstS, List.length_drop]; omega
  have hrn : ∀ i, List.drop 32 (rstS p i) = rstS p (i + 1) := fun i => by rw [rstS, List.drop_drop]; rfl
  have hrt : ∀ i, List.take 32 (rstS p i) = pcS p i := fun i => rfl
  rw [er]
  refine kLoop_up (lhS p) (fun i env rows => has env [(13, .raw (u32 (ltS p))), (15, .raw (u32 (lqS p))), (8, .ptr .ref 0 [0]), (12, .lst L8 (bs (oneS p)) e12)] ∧
    (∃ e, live rows 0 = some ⟨.ref, [.lst L8 (bs (rstS p i)) e]⟩) ∧ ∃ d', look env 16 = some d' ∧ Own (.ar 32 L8) d' rows ((pathS p i).map d32D) ∧ (∀ r ex n, d' = .sl (.ar 32 L8) r [] 0 n ex → 1 ≤ r)) ?_ ?_ ⟨?_, ⟨e0, rfl⟩, .raw (.slice none 0 0), ?_, .inl ⟨rfl, rfl⟩, fun r ex n h => ?_⟩
  · rintro i hi env rows ⟨hw, ⟨e', r0⟩, d', h16, hO, hne⟩ R hR
    simp only [has] at hw
    have hl := hrl i (by omega)
    have hn := hrn i
    have ht := hrt i
    have hpl := hcl i hi
    have hln : (rstS p (i + 1)).length = 32 * (lhS p - i) - 32 := by rw [hrl _ (by omega)]; omega
    have f0 : ((0 : Int) < ((32 * (lhS p - i) : Nat) : Int)) = True := eq_true (by omega)
    have f1 : (((32 * (lhS p - i) : Nat) : Int) < 32) = False := eq_false (by omega)
    have f2 : ((32 : Int) ≤ ((32 * (lhS p - i) : Nat) : Int)) = True := eq_true (by omega)
    have lt0 := live_lt r0
    have w0 := fun y => live_set_eq (y := y) r0
    generalize 32 * (lhS p - i) = M at *
    have tkn : List.take (M - 32) (rstS p (i + 1)) = rstS p (i + 1) := List.take_of_length_le (by omega)
    have tkp : List.take 32 (pcS p i) = pcS p i := List.take_of_length_le (by omega)
    generalize rstS p i = X at *
    simp only [↓amD, amU, Nat.reduceBEq, Nat.reduceAdd, Nat.reduceSub, Nat.reduceMul, Nat.reduceMod, Nat.reducePow, Nat.reduceLT, Nat.reduceDiv, Int.reduceToNat, BitVec.reduceToNat, zipEnv, Int.reduceLE, Int.reduceLT, Int.reduceNeg, BitVec.reduceEq, Int.reduceAdd, Int.reduceSub, Int.reduceMul, Nat.reduceLeDiff, Int.reduceEq, amR, hw, h16, r0, w0, bs_len, hl, f0, f1, f2, bs_drop, bs_take, q_afun, n5, r5, a_lms_take, r_lms_take, b0, hn, ht, tkn, tkp, hpl]
    have hL : ∀ A Y, live (rows.set 0 (some A) ++ [some Y]) rows.length = some Y := fun A Y => by
      have := live_append_new (rows.set 0 (some A)) Y
      simpa using this
    have hO1 : ∀ A, Own (.ar 32 L8) d' (rows.set 0 (some A)) ((pathS p i).map d32D) := fun A => by
      rcases hO with h | ⟨r, ex, rfl, h⟩
      · exact .inl h
      · exact .inr ⟨r, ex, rfl, live_set_o h (by have := hne _ _ _ rfl; omega)⟩
    simp only [↓amD, amU, Nat.reduceBEq, Nat.reduceAdd, Nat.reduceSub, Nat.reduceMul, Nat.reduceMod, Nat.reducePow, Nat.reduceLT, Nat.reduceDiv, Int.reduceToNat, BitVec.reduceToNat, zipEnv, Int.reduceLE, Int.reduceLT, Int.reduceNeg, BitVec.reduceEq, Int.reduceAdd, Int.reduceSub, Int.reduceMul, Nat.reduceLeDiff, Int.reduceEq, hL, List.take]
    refine app_ownA (hO1 _).push (by rw [List.length_map, hdl]; simp [most]; omega) (by rw [List.length_map, hdl]; simp [most]; omega) fun rows' hl' hfr hlen' => ?_
    rw [hds] at hl'
    have r0' := hfr 0 _ (live_push (w0 _)) (fun ex n e => by have := hne _ _ _ e; omega)
    have hlg : ∀ A : Row, (rows.set 0 (some A) ++ [some (⟨.ar 32 L8, [.agg (.ar 32 L8) (bs (pcS p i))]⟩ : Row)]).length = rows.length + 1 := fun A => by simp
    rw [hlg] at hl'
    simp only [↓amD, amU, Nat.reduceBEq, Nat.reduceAdd, Nat.reduceSub, Nat.reduceMul, Nat.reduceMod, Nat.reducePow, Nat.reduceLT, Nat.reduceDiv, Int.reduceToNat, BitVec.reduceToNat, zipEnv, Int.reduceLE, Int.reduceLT, Int.reduceNeg, BitVec.reduceEq, Int.reduceAdd, Int.reduceSub, Int.reduceMul, Nat.reduceLeDiff, Int.reduceEq, amR, hw, hlg]
    refine hR _ _ ⟨by simp only [has, ↓amD, amU, Nat.reduceBEq, Nat.reduceAdd, Nat.reduceSub, Nat.reduceMul, Nat.reduceMod, Nat.reducePow, Nat.reduceLT, Nat.reduceDiv, Int.reduceToNat, BitVec.reduceToNat, zipEnv, Int.reduceLE, Int.reduceLT, Int.reduceNeg, BitVec.reduceEq, Int.reduceAdd, Int.reduceSub, Int.reduceMul, Nat.reduceLeDiff, Int.reduceEq, hw], ⟨_, r0'⟩, .sl (.ar 32 L8) (rows.length + 1) [] 0 ((pathS p i).length + 1) false, by simp only [↓amD, amU, Nat.reduceBEq, Nat.reduceAdd, Nat.reduceSub, Nat.reduceMul, Nat.reduceMod, Nat.reducePow, Nat.reduceLT, Nat.reduceDiv, Int.reduceToNat, BitVec.reduceToNat, zipEnv, Int.reduceLE, Int.reduceLT, Int.reduceNeg, BitVec.reduceEq, Int.reduceAdd, Int.reduceSub, Int.reduceMul, Nat.reduceLeDiff, Int.reduceEq, List.length_map, hlg], .inr ⟨_, false, by rw [List.length_map, hdl, hdl], hl'⟩, fun r ex n e => by injection e with _ e; omega⟩
  · rintro env rows ⟨hw, ⟨e', r0⟩, d', h16, hO, hne⟩ R
    simp only [has] at hw
    have hl := hrl (lhS p) (Nat.le_refl _)
    rw [Nat.sub_self, Nat.mul_zero] at hl
    have hol : (oneS p).length = 36 + 32 * lpS p := by rw [oneS, List.length_take, List.length_drop]; omega
    simp only [↓amD, amU, Nat.reduceBEq, Nat.reduceAdd, Nat.reduceSub, Nat.reduceMul, Nat.reduceMod, Nat.reducePow, Nat.reduceLT, Nat.reduceDiv, Int.reduceToNat, BitVec.reduceToNat, zipEnv, Int.reduceLE, Int.reduceLT, Int.reduceNeg, BitVec.reduceEq, Int.reduceAdd, Int.reduceSub, Int.reduceMul, Nat.reduceLeDiff, Int.reduceEq, amR, hw, h16, r0, bs_len, hl, hO.nTup]
    refine ⟨by rw [hol]; omega, by rw [hol]; omega, ?_⟩
    rw [hol]
    have hp1 : 1 ≤ (pathS p (lhS p)).length := by rw [hdl]; exact hh1
    rcases hO with ⟨h, _⟩ | ⟨r, ex1, rfl, hlv⟩
    · have := congrArg List.length h; rw [List.length_map, List.length_nil] at this; omega
    · have hlt := live_lt hlv
      rw [List.length_map, hdl]
      have l1 : live (rows ++ [none, some (⟨L8, bs (oneS p)⟩ : Row)]) (rows.length + 1) = some ⟨L8, bs (oneS p)⟩ := by rw [lv_appk]; rfl
      exact .own2 [.raw (u32 (lqS p))] [.raw (u32 (ltS p))] [.raw (it 0)] L8 (.ar 32 L8) (rows.length + 1) r 0 _ 0 _ false false ex1 false _ _ l1 (live_push hlv) (by omega) rfl rfl rfl rfl rfl (fun h => h) (fun h => by cases h)
  · simp only [has, ↓amD, amU, Nat.reduceBEq, Nat.reduceAdd, Nat.reduceSub, Nat.reduceMul, Nat.reduceMod, Nat.reducePow, Nat.reduceLT, Nat.reduceDiv, Int.reduceToNat, BitVec.reduceToNat, zipEnv, Int.reduceLE, Int.reduceLT, Int.reduceNeg, BitVec.reduceEq, Int.reduceAdd, Int.reduceSub, Int.reduceMul, Nat.reduceLeDiff, Int.reduceEq]
  · simp only [↓amD, amU, Nat.reduceBEq, Nat.reduceAdd, Nat.reduceSub, Nat.reduceMul, Nat.reduceMod, Nat.reducePow, Nat.reduceLT, Nat.reduceDiv, Int.reduceToNat, BitVec.reduceToNat, zipEnv, Int.reduceLE, Int.reduceLT, Int.reduceNeg, BitVec.reduceEq, Int.reduceAdd, Int.reduceSub, Int.reduceMul, Nat.reduceLeDiff, Int.reduceEq]
  · cases h
theorem oneS_len {p : List (BitVec 8)} (h : partsE p = 0) : (oneS p).length = 36 + 32 * lpS p := by
  obtain ⟨-, -, h, -⟩ := partsE_0 h
  rw [oneS, List.length_take, List.length_drop]; omega
theorem pathS_len (p : List (BitVec 8)) (n : Nat) : (pathS p n).length = n := by simp [pathS]
theorem pathS_32 {p : List (BitVec 8)} (h : partsE p = 0) : ∀ x ∈ pathS p (lhS p), x.length = 32 := by
  obtain ⟨-, -, h, -⟩ := partsE_0 h
  intro x hx
  obtain ⟨i, hi, rfl⟩ := List.mem_map.1 hx
  have := List.mem_range.1 hi
  rw [pcS, List.length_take, List.length_drop]; omega
theorem kParts (rows : Rows) (k : D → Rows → Prop) (d : D) (p : List (BitVec 8)) (hd : BsIn rows d p) (hp : p.length ≤ 1099511627776) (he : partsE p = 0) :
    kCall fParts rows k [d] = k (.tup [.raw (u32 (lqS p)), .sl L8 (0 + rows.length) [] 0 (36 + 32 * lpS p) false, .raw (u32 (ltS p)), .sl (.ar 32 L8) (1 + rows.length) [] 0 (lhS p) false, .raw (it 0)])
      (rows ++ [some ⟨L8, bs (oneS p)⟩, some ⟨.ar 32 L8, (pathS p (lhS p)).map d32D⟩]) := by
  refine (kCall_rd1 (RdIn.bs hd) (by simpa using hp) (by simp only [if_pos he]; rfl) k).trans ?_
  simp only [if_pos he]
  simp [shift, shiftL, shiftRows, Sh.pure]
theorem kPartsE (rows : Rows) (k : D → Rows → Prop) (d : D) (p : List (BitVec 8)) (hd : BsIn rows d p) (hp : p.length ≤ 1099511627776) (he : ¬ partsE p = 0) :
    kCall fParts rows k [d] = k (.tup [.raw (u32 0#32), .raw (.slice none 0 0), .raw (u32 0#32), .raw (.slice none 0 0), .raw (it (partsE p))]) rows := by
  refine (kCall_rd1 (RdIn.bs hd) (by simpa using hp) (by simp only [if_neg he]; rfl) k).trans ?_
  simp only [if_neg he]
  simp [shift, shiftL, shiftRows]
end Job
end Go.Am
