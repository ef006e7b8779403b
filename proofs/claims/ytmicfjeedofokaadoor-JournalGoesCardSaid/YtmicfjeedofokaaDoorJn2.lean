/- the journal: the document's records; parsing -/
import Derived.Test.YtmicfjeedofokaaDoorJn1
namespace Go.Am
set_option linter.unusedSimpArgs false
set_option linter.unusedVariables false
attribute [local congr] bnd_congr kCond_congr kGd_congr kPick_congr kCall_congr kIdx_congr kSlice_congr kLoop_congr cond_congr' aBin_congr aBounds_congr aApp_congr aCopy_congr kFn_congr
namespace Job
open Go.Am.F
set_option maxRecDepth 10000
noncomputable def fRBytesJ : Fn := fn1 (rdOf jD) (fun s => rightJ s) fun s => outBs (bytesJ s) false
theorem rbytesj_ok (C : Ctx) (hC : CtxOK C P) (hn : C.fn 30 = some fNumS) (hj : C.fn 15 = some fJoin) (hs : C.fn 31 = some fRSum) : Meets C.glob P 14 (Fn.run fRBytesJ) := by
  refine fn_meets (m_ref22_Bytes C hC) fun ds rows r h => ?_
  obtain ⟨d, s, rfl, rfl, hd, hp, rfl⟩ := fn1_some h
  cases rdOf_some hd
  refine ⟨rfl, afun_mk rfl ?_⟩
  clear h hd
  unfold a_ref22_Bytes r_ref22_Bytes
  obtain ⟨a, t, n, ha, ht, hn', b1, b2, b3⟩ := right_bd hp
  have w : wz (s.t + 1) = s.t + 1 := wz_id (by omega)
  have kn := fun rows k => kNum rows k s.q
  simp only [↓amD, amU, Nat.reduceBEq, Nat.reduceAdd, Nat.reduceSub, Nat.reduceMul, Nat.reduceMod, Nat.reducePow, Nat.reduceLT, Nat.reduceDiv, Int.reduceToNat, BitVec.reduceToNat, zipEnv, Int.reduceLE, Int.reduceLT, Int.reduceNeg, BitVec.reduceEq, Int.reduceAdd, Int.reduceSub, Int.reduceMul, Nat.reduceLeDiff, Int.reduceEq, lv_app0, lv_appk, set_app0, set_appk, List.append_assoc, List.append_nil, Nat.add_assoc, jD_fits, jD_g0, jD_g1, jD_g2, jD_g3, w, hn, kn, hj]
  have hT : [D.raw (u8 66#8), D.raw (u8 67#8), D.raw (u8 84#8), D.raw (u8 76#8)] = bs bctl := rfl
  have hU : [D.raw (u8 (BitVec.ofInt 8 s.a)), .raw (u8 (BitVec.ofInt 8 (s.t + 1))), .raw (u8 (BitVec.ofInt 8 s.n)), .raw (u8 0#8)] = bs (tailJ s) := rfl
  simp only [hT, hU]
  have hfl : [bctl, wordB s.q, tailJ s].flatten = preJ s := by simp [preJ]
  refine Eq.mpr (kJoin _ _ 4 3 _ _ [bctl, wordB s.q, tailJ s] rfl rfl (.cons (BsIn.own (l := bctl) rfl 4 rfl) (.cons (BsIn.own (l := wordB s.q) rfl 4 rfl) (.cons (BsIn.own (l := tailJ s) rfl 4 rfl) .nil))) (by simp) (by rw [hfl, pre_len]; omega)) ?_
  rw [hfl]
  have hsl : (bs (sumS (preJ s))).length = 32 := by rw [bs_len, sumS_len]
  have hfin : bytesJ s = preJ s ++ (sumS (preJ s)).take 20 := rfl
  have hbl := bytes_len s
  have hp0 := pre_len s
  generalize bytesJ s = B at hfin hbl ⊢
  generalize preJ s = p at hfin hsl hp0 ⊢
  simp only [↓amD, amU, Nat.reduceBEq, Nat.reduceAdd, Nat.reduceSub, Nat.reduceMul, Nat.reduceMod, Nat.reducePow, Nat.reduceLT, Nat.reduceDiv, Int.reduceToNat, BitVec.reduceToNat, zipEnv, Int.reduceLE, Int.reduceLT, Int.reduceNeg, BitVec.reduceEq, Int.reduceAdd, Int.reduceSub, Int.reduceMul, Nat.reduceLeDiff, Int.reduceEq, hs]
  refine Eq.mpr (kRSum _ _ _ p (BsIn.own rfl _ rfl) (by omega)) ?_
  simp only [↓amD, amU, Nat.reduceBEq, Nat.reduceAdd, Nat.reduceSub, Nat.reduceMul, Nat.reduceMod, Nat.reducePow, Nat.reduceLT, Nat.reduceDiv, Int.reduceToNat, BitVec.reduceToNat, zipEnv, Int.reduceLE, Int.reduceLT, Int.reduceNeg, BitVec.reduceEq, Int.reduceAdd, Int.reduceSub, Int.reduceMul, Nat.reduceLeDiff, Int.reduceEq, hsl, hj]
  refine Eq.mpr (kJoin _ _ _ 2 _ _ [p, (sumS p).take 20] rfl rfl (.cons (BsIn.own rfl _ rfl) (.cons ?_ .nil)) (by simp) (by simp only [List.flatten_cons, List.flatten_nil, List.append_nil, ← hfin, hbl]; omega)) ?_
  · exact BsIn.arr (off := 0) (len := 20) (l := sumS p) rfl (by rw [sumS_len]; omega)
  simp only [List.flatten_cons, List.flatten_nil, List.append_nil, ← hfin]
  simp only [↓amD, amU, Nat.reduceBEq, Nat.reduceAdd, Nat.reduceSub, Nat.reduceMul, Nat.reduceMod, Nat.reducePow, Nat.reduceLT, Nat.reduceDiv, Int.reduceToNat, BitVec.reduceToNat, zipEnv, Int.reduceLE, Int.reduceLT, Int.reduceNeg, BitVec.reduceEq, Int.reduceAdd, Int.reduceSub, Int.reduceMul, Nat.reduceLeDiff, Int.reduceEq]
  have hO : outBs B false = (.sl L8 0 [] 0 32 false, [some ⟨L8, bs B⟩]) := by rw [outBs, hbl]
  rw [hO, hbl]
  exact .own L8 _ 0 32 false false _ rfl rfl id
theorem kRBytesJ (rows : Rows) (k : D → Rows → Prop) (s : JS) (h : rightJ s = true) : kCall fRBytesJ rows k [jD s] = k (.sl L8 (0 + rows.length) [] 0 32 false) (rows ++ [some ⟨L8, bs (bytesJ s)⟩]) := by
  refine (kCall_val (by simp [hasRefL, jD_ref]) (r := outBs (bytesJ s) false) ?_).trans ?_
  · rw [fRBytesJ, fn1_eq (rdOf_eq jD_inj s) h]
  · simp [outBs, shift, shiftRows, bytes_len, Sh.pure]
/-- what 32 bytes tell -/
def ofJ (p : List (BitVec 8)) : JS := ⟨numS (p.drop 4), (p.getD 8 0#8).toNat, ((p.getD 9 0#8).toNat : Int) - 1, (p.getD 10 0#8).toNat⟩
def zeroJ : JS := ⟨0#32, 0, 0, 0⟩
def parseJ (p : List (BitVec 8)) : JS × Bool :=
  bif decide (p.length = 32) && (rightJ (ofJ p) && decide (bytesJ (ofJ p) = p)) then (ofJ p, true) else (zeroJ, false)
theorem int_u8 (b : BitVec 8) : BitVec.ofInt 8 ((b.toNat : Nat) : Int) = b := by
  apply BitVec.eq_of_toNat_eq
  show (BitVec.ofNat 8 b.toNat).toNat = b.toNat
  rw [BitVec.toNat_ofNat]
  exact Nat.mod_eq_of_lt b.isLt
theorem pre_of (p : List (BitVec 8)) (h : 12 ≤ p.length) : preJ (ofJ p) = p.take 12 ↔ p.take 4 = bctl ∧ p.getD 11 0#8 = 0#8 := by
  match p, h with
  | a0 :: a1 :: a2 :: a3 :: a4 :: a5 :: a6 :: a7 :: a8 :: a9 :: a10 :: a11 :: l, _ =>
    have e : preJ (ofJ (a0 :: a1 :: a2 :: a3 :: a4 :: a5 :: a6 :: a7 :: a8 :: a9 :: a10 :: a11 :: l)) = bctl ++ ([a4, a5, a6, a7] ++ [a8, a9, a10, 0#8]) := by
      have w := word_num a4 a5 a6 a7
      have e1 : numS ((a0 :: a1 :: a2 :: a3 :: a4 :: a5 :: a6 :: a7 :: a8 :: a9 :: a10 :: a11 :: l).drop 4) = numS [a4, a5, a6, a7] := rfl
      have e2 : (((a9.toNat : Nat) : Int) - 1) + 1 = ((a9.toNat : Nat) : Int) := by omega
      show bctl ++ (wordB (numS ((a0 :: a1 :: a2 :: a3 :: a4 :: a5 :: a6 :: a7 :: a8 :: a9 :: a10 :: a11 :: l).drop 4)) ++ [BitVec.ofInt 8 ((a8.toNat : Nat) : Int), BitVec.ofInt 8 ((((a9.toNat : Nat) : Int) - 1) + 1), BitVec.ofInt 8 ((a10.toNat : Nat) : Int), 0#8]) = _
      rw [e1, w, e2, int_u8, int_u8, int_u8]
    rw [e]
    show [66#8, 67#8, 84#8, 76#8, a4, a5, a6, a7, a8, a9, a10, 0#8] = [a0, a1, a2, a3, a4, a5, a6, a7, a8, a9, a10, a11] ↔ [a0, a1, a2, a3] = [66#8, 67#8, 84#8, 76#8] ∧ a11 = 0#8
    simp only [List.cons.injEq, and_true, true_and]
    constructor
    · rintro ⟨rfl, rfl, rfl, rfl, rfl⟩; simp
    · rintro ⟨⟨rfl, rfl, rfl, rfl⟩, rfl⟩; simp
theorem bytes_of (p : List (BitVec 8)) (h : p.length = 32) : bytesJ (ofJ p) = p ↔ (p.take 4 = bctl ∧ p.getD 11 0#8 = 0#8) ∧ p.drop 12 = (sumS (p.take 12)).take 20 := by
  rw [← pre_of p (by omega)]
  constructor
  · intro hb
    have h1 : bytesJ (ofJ p) = p.take 12 ++ p.drop 12 := by rw [hb, List.take_append_drop]
    obtain ⟨h2, h3⟩ := List.append_inj (s₁ := preJ (ofJ p)) (s₂ := p.take 12) h1 (by rw [pre_len, List.length_take, h]; rfl)
    exact ⟨h2, by rw [← h3, h2]⟩
  · rintro ⟨h1, h2⟩
    rw [bytesJ, h1, ← h2, List.take_append_drop]
theorem bytes_take (s : JS) : (bytesJ s).take 12 = preJ s := by rw [bytesJ, ← pre_len s, List.take_left]
theorem of_bytes (s : JS) (h : rightJ s = true) : ofJ (bytesJ s) = s := by
  obtain ⟨a, t, n, ha, ht, hn, b1, b2, b3⟩ := right_bd h
  have g : ∀ i, i < 12 → (bytesJ s).getD i 0#8 = (preJ s).getD i 0#8 := fun i hi => by
    rw [bytesJ, List.getD_eq_getElem?_getD, List.getElem?_append_left (by rw [pre_len]; exact hi), ← List.getD_eq_getElem?_getD]
  have hx : ∀ x : Nat, x ≤ 3 → ((BitVec.ofInt 8 (x : Int)).toNat : Int) = (x : Int) := fun x hx => by
    show ((BitVec.ofNat 8 x).toNat : Int) = _
    rw [BitVec.toNat_ofNat]; omega
  have e1 : numS ((bytesJ s).drop 4) = s.q := by
    rw [numS_drop, g 4 (by omega), g (4 + 1) (by omega), g (4 + 2) (by omega), g (4 + 3) (by omega)]
    show numS (wordB s.q) = s.q
    obtain ⟨q, _, _, _⟩ := s
    show numS (wordB q) = q
    have hb : ∀ x : BitVec 32, numS (wordB x) = x := fun x => by
      simp only [numS, wordB, List.getD_cons_zero, List.getD_cons_succ]
      apply BitVec.eq_of_getLsbD_eq
      intro i hi
      simp only [BitVec.getLsbD_or, BitVec.getLsbD_shiftLeft, BitVec.getLsbD_setWidth, BitVec.getLsbD_ushiftRight]
      rcases (by omega : i < 8 ∨ (8 ≤ i ∧ i < 16) ∨ (16 ≤ i ∧ i < 24) ∨ (24 ≤ i ∧ i < 32)) with c | ⟨c, c'⟩ | ⟨c, c'⟩ | ⟨c, c'⟩
      · simp [show i < 24 by omega, show i < 16 by omega, show i < 8 by omega, show i < 32 by omega]
      · simp [show i < 24 by omega, show i < 16 by omega, show ¬ i < 8 by omega, show i < 32 by omega, show i - 8 < 8 by omega, show 8 + (i - 8) = i by omega, show i - 8 < 32 by omega]
      · simp [show i < 24 by omega, show ¬ i < 16 by omega, show ¬ i < 8 by omega, show i < 32 by omega, show i - 16 < 8 by omega, show 16 + (i - 16) = i by omega, show ¬ i - 8 < 8 by omega, show i - 16 < 32 by omega]
      · simp [show ¬ i < 24 by omega, show ¬ i < 16 by omega, show ¬ i < 8 by omega, show i < 32 by omega, show i - 24 < 8 by omega, show 24 + (i - 24) = i by omega, show ¬ i - 8 < 8 by omega, show ¬ i - 16 < 8 by omega, show i - 24 < 32 by omega]
    exact hb q
  have e2 : ((bytesJ s).getD 8 0#8) = BitVec.ofInt 8 s.a := by rw [g 8 (by omega)]; rfl
  have e3 : ((bytesJ s).getD 9 0#8) = BitVec.ofInt 8 (s.t + 1) := by rw [g 9 (by omega)]; rfl
  have e4 : ((bytesJ s).getD 10 0#8) = BitVec.ofInt 8 s.n := by rw [g 10 (by omega)]; rfl
  unfold ofJ
  rw [e1, e2, e3, e4, ha, ht, hn, show ((t : Int) - 1 + 1) = (t : Int) by omega, hx a (by omega), hx t (by omega), hx n b3, ← ha, ← ht, ← hn]
theorem parse_bytes (s : JS) (h : rightJ s = true) : parseJ (bytesJ s) = (s, true) := by
  rw [parseJ, of_bytes s h, bytes_len, h]
  simp
noncomputable def fParseJ : Fn := fn1 rdBs (fun p => Nat.ble p.length most) fun p => (.tup [jD (parseJ p).1, .raw (.bool (parseJ p).2)], [])
set_option maxHeartbeats 1000000 in
theorem parsej_ok (C : Ctx) (hC : CtxOK C P) (hb : C.fn 10 = some fBytesJ) (he : C.fn 32 = some fEqual) : Meets C.glob P 16 (Fn.run fParseJ) := by
  refine fn_meetsN (m_journal_Parse C hC) fun ds rows r h => ?_
  obtain ⟨d, p, rfl, rfl, hd, hp, rfl⟩ := fn1_some h
  obtain ⟨x, hx⟩ := rdBs_nrm hd
  refine ⟨rfl, _, .cons hx .nil, afun_mk rfl ?_⟩
  simp only [Nat.ble_eq] at hp
  unfold most at hp
  clear h hx hd
  unfold a_journal_Parse r_journal_Parse
  have hz : D.agg SJ [.raw (u32 0#32), .raw (it 0), .raw (it 0), .raw (it 0)] = jD zeroJ := rfl
  by_cases hl : p.length = 32
  · have g : ∀ i, i < 32 → (bs p)[i]? = some (.raw (u8 (p.getD i 0#8))) := fun i hi => bs_get (by omega)
    have hn : (p.getD 4 0#8).setWidth 32 <<< 24 ||| (p.getD 5 0#8).setWidth 32 <<< 16 ||| (p.getD 6 0#8).setWidth 32 <<< 8 ||| (p.getD 7 0#8).setWidth 32 = numS (p.drop 4) := by
      rw [numS_drop]; rfl
    have w : wz (((p.getD 9 0#8).toNat : Int) - 1) = ((p.getD 9 0#8).toNat : Int) - 1 := by
      have := (p.getD 9 0#8).isLt
      rw [wz_id (by omega)]
    have hof : ∀ q : BitVec 32, q = numS (p.drop 4) → D.agg SJ [.raw (u32 q), .raw (it ((p.getD 8 0#8).toNat : Int)), .raw (it (((p.getD 9 0#8).toNat : Int) - 1)), .raw (it ((p.getD 10 0#8).toNat : Int))] = jD (ofJ p) := fun q hq => by rw [hq]; rfl
    have hof' := hof _ hn
    simp only [↓amD, amU, Nat.reduceBEq, Nat.reduceAdd, Nat.reduceSub, Nat.reduceMul, Nat.reduceMod, Nat.reducePow, Nat.reduceLT, Nat.reduceDiv, Int.reduceToNat, BitVec.reduceToNat, zipEnv, Int.reduceLE, Int.reduceLT, Int.reduceNeg, BitVec.reduceEq, Int.reduceAdd, Int.reduceSub, Int.reduceMul, Nat.reduceLeDiff, Int.reduceEq, bs_len, hl, g 4 (by omega), g 5 (by omega), g 6 (by omega), g 7 (by omega), g 8 (by omega), g 9 (by omega), g 10 (by omega), w, hn, hz, hof _ rfl, jD_fits, hb]
    cases hk : rightJ (ofJ p)
    · have hq : parseJ p = (zeroJ, false) := by rw [parseJ, hk]; simp
      have kb := fun rows k => kBytesN rows k (ofJ p) hk
      have ke := fun rows k => kEqual rows k (.raw (.slice none 0 0)) (.lst L8 (bs p) x) [] p (IsBs.to (.inl ⟨rfl, rfl⟩)) (IsBs.to (.inr ⟨x, rfl⟩)) (by simp) hp
      have hne : decide (([] : List (BitVec 8)) = p) = false := decide_eq_false (by intro h; rw [← h] at hl; cases hl)
      rw [hne] at ke
      rw [hq]
      simp only [↓amD, amU, Nat.reduceBEq, Nat.reduceAdd, Nat.reduceSub, Nat.reduceMul, Nat.reduceMod, Nat.reducePow, Nat.reduceLT, Nat.reduceDiv, Int.reduceToNat, BitVec.reduceToNat, zipEnv, Int.reduceLE, Int.reduceLT, Int.reduceNeg, BitVec.reduceEq, Int.reduceAdd, Int.reduceSub, Int.reduceMul, Nat.reduceLeDiff, Int.reduceEq, kb, he, ke, hz, jD_fits]
      exact .val _ rfl
    · have kb := fun rows k => kBytesJ rows k (ofJ p) hk
      simp only [↓amD, amU, Nat.reduceBEq, Nat.reduceAdd, Nat.reduceSub, Nat.reduceMul, Nat.reduceMod, Nat.reducePow, Nat.reduceLT, Nat.reduceDiv, Int.reduceToNat, BitVec.reduceToNat, zipEnv, Int.reduceLE, Int.reduceLT, Int.reduceNeg, BitVec.reduceEq, Int.reduceAdd, Int.reduceSub, Int.reduceMul, Nat.reduceLeDiff, Int.reduceEq, kb, he]
      refine Eq.mpr (kEqual _ _ _ _ (bytesJ (ofJ p)) p (BsIn.own rfl _ (bytes_len _).symm) (IsBs.to (.inr ⟨x, rfl⟩)) (by rw [bytes_len]; omega) hp) ?_
      by_cases hq2 : bytesJ (ofJ p) = p
      · have hq : parseJ p = (ofJ p, true) := by rw [parseJ, hk, hl, decide_eq_true hq2]; simp
        rw [hq, decide_eq_true hq2]
        simp only [↓amD, amU, Nat.reduceBEq, Nat.reduceAdd, Nat.reduceSub, Nat.reduceMul, Nat.reduceMod, Nat.reducePow, Nat.reduceLT, Nat.reduceDiv, Int.reduceToNat, BitVec.reduceToNat, zipEnv, Int.reduceLE, Int.reduceLT, Int.reduceNeg, BitVec.reduceEq, Int.reduceAdd, Int.reduceSub, Int.reduceMul, Nat.reduceLeDiff, Int.reduceEq, jD_fits]
        exact .val _ rfl
      · have hq : parseJ p = (zeroJ, false) := by rw [parseJ, decide_eq_false hq2]; simp
        rw [hq, decide_eq_false hq2]
        simp only [↓amD, amU, Nat.reduceBEq, Nat.reduceAdd, Nat.reduceSub, Nat.reduceMul, Nat.reduceMod, Nat.reducePow, Nat.reduceLT, Nat.reduceDiv, Int.reduceToNat, BitVec.reduceToNat, zipEnv, Int.reduceLE, Int.reduceLT, Int.reduceNeg, BitVec.reduceEq, Int.reduceAdd, Int.reduceSub, Int.reduceMul, Nat.reduceLeDiff, Int.reduceEq, hz, jD_fits]
        exact .val _ rfl
  · have hl1 : ((p.length : Int) = 32) = False := eq_false (by omega)
    have hq : parseJ p = (zeroJ, false) := by rw [parseJ, decide_eq_false hl]; rfl
    rw [hq]
    simp only [↓amD, amU, Nat.reduceBEq, Nat.reduceAdd, Nat.reduceSub, Nat.reduceMul, Nat.reduceMod, Nat.reducePow, Nat.reduceLT, Nat.reduceDiv, Int.reduceToNat, BitVec.reduceToNat, zipEnv, Int.reduceLE, Int.reduceLT, Int.reduceNeg, BitVec.reduceEq, Int.reduceAdd, Int.reduceSub, Int.reduceMul, Nat.reduceLeDiff, Int.reduceEq, bs_len, hl1, hz, jD_fits]
    exact .val _ rfl
theorem val_q4 (q : List (BitVec 8)) (h : 4 ≤ q.length) : (valS (q.take 4)).setWidth 32 = numS q := by
  match q, h with
  | a :: b :: c :: d :: l, _ => exact val_num a b c d
theorem u8_ne (x y : BitVec 8) (k : D → Prop) : aBin .neq (u8 x) (u8 y) k = k (.raw (.bool (decide (x ≠ y)))) := by
  by_cases h : x = y
  · subst h; simp [aBin, u8]
  · have : ¬ (x.toNat : Int) = (y.toNat : Int) := fun e => h (BitVec.eq_of_toNat_eq (by omega))
    simp [aBin, u8, h, this]
set_option maxHeartbeats 1000000 in
theorem rparsej_ok (C : Ctx) (hC : CtxOK C P) (hr : C.fn 11 = some fRightJ) (hs : C.fn 31 = some fRSum) (hv : C.fn 33 = some fValue) (hsame : C.fn 13 = some fSame) : Meets C.glob P 17 (Fn.run fParseJ) := by
  refine fn_meetsN (m_ref22_Parse C hC) fun ds rows r h => ?_
  obtain ⟨d, p, rfl, rfl, hd, hp, rfl⟩ := fn1_some h
  obtain ⟨x, hx⟩ := rdBs_nrm hd
  refine ⟨rfl, _, .cons hx .nil, afun_mk rfl ?_⟩
  simp only [Nat.ble_eq] at hp
  unfold most at hp
  clear h hx hd
  unfold a_ref22_Parse r_ref22_Parse
  have hz : D.agg SJ [.raw (u32 0#32), .raw (it 0), .raw (it 0), .raw (it 0)] = jD zeroJ := rfl
  by_cases hl : p.length = 32
  · have g : ∀ i, i < 32 → (bs p)[i]? = some (.raw (u8 (p.getD i 0#8))) := fun i hi => bs_get (by omega)
    have hsh : ∀ l e, sshape L8 (.lst L8 (bs l) e) = true := fun l e => IsBs.sshape (.inr ⟨e, rfl⟩)
    have hst : (⟨(ub (p.take 4)).toArray⟩ : ByteArray).toList = ub (p.take 4) := by rw [ByteArray.toList_eq]
    have hst2 : (⟨#[66, 67, 84, 76]⟩ : ByteArray).toList = ub bctl := by rw [ByteArray.toList_eq]; rfl
    have h11 := (bytes_of p hl)
    simp only [↓amD, amU, Nat.reduceBEq, Nat.reduceAdd, Nat.reduceSub, Nat.reduceMul, Nat.reduceMod, Nat.reducePow, Nat.reduceLT, Nat.reduceDiv, Int.reduceToNat, BitVec.reduceToNat, zipEnv, Int.reduceLE, Int.reduceLT, Int.reduceNeg, BitVec.reduceEq, Int.reduceAdd, Int.reduceSub, Int.reduceMul, Nat.reduceLeDiff, Int.reduceEq, bs_len, hl, bs_take, hsh, byte_bs, hst, hst2, ub_beq]
    by_cases ht : p.take 4 = bctl
    · simp only [ht, decide_true]
      by_cases h0 : p.getD 11 0#8 = 0#8
      · have w : wz (((p.getD 9 0#8).toNat : Int) - 1) = ((p.getD 9 0#8).toNat : Int) - 1 := by
          have := (p.getD 9 0#8).isLt
          rw [wz_id (by omega)]
        have d4 : ((p.drop 4).take 4).length ≤ 64 := by rw [List.length_take]; omega
        have v2 := val_q4 (p.drop 4) (by rw [List.length_drop]; omega)
        have hof : D.agg SJ [.raw (u32 (numS (p.drop 4))), .raw (it ((p.getD 8 0#8).toNat : Int)), .raw (it (((p.getD 9 0#8).toNat : Int) - 1)), .raw (it ((p.getD 10 0#8).toNat : Int))] = jD (ofJ p) := rfl
        have hsl : (bs (sumS (p.take 12))).length = 32 := by rw [bs_len, sumS_len]
        have k12 : (p.take 12).length = 12 := by rw [List.length_take, hl]; rfl
        have ks := fun rows k e => kRSum rows k (.lst L8 (bs (p.take 12)) e) (p.take 12) (IsBs.to (.inr ⟨e, rfl⟩)) (by omega)
        have kR := fun rows k => kRightJ rows k (ofJ p)
        simp only [↓amD, amU, Nat.reduceBEq, Nat.reduceAdd, Nat.reduceSub, Nat.reduceMul, Nat.reduceMod, Nat.reducePow, Nat.reduceLT, Nat.reduceDiv, Int.reduceToNat, BitVec.reduceToNat, zipEnv, Int.reduceLE, Int.reduceLT, Int.reduceNeg, BitVec.reduceEq, Int.reduceAdd, Int.reduceSub, Int.reduceMul, Nat.reduceLeDiff, Int.reduceEq, g 11 (by omega), g 8 (by omega), g 9 (by omega), g 10 (by omega), h0, u8_ne, ne_eq, not_true_eq_false, decide_false, hs, ks, hsl, w, bs_drop, bs_take, hv, kVal _ _ _ _ d4, v2, hof, jD_fits, hsame, List.length_drop, hl, bs_len]
        have t20 : (p.drop 12).take 20 = p.drop 12 := List.take_of_length_le (by rw [List.length_drop]; omega)
        rw [t20]
        refine Eq.mpr (kSame _ _ _ _ (p.drop 12) ((sumS (p.take 12)).take 20) (IsBs.to (.inr ⟨_, rfl⟩)) (BsIn.arr (off := 0) (len := 20) (l := sumS (p.take 12)) rfl (by rw [sumS_len]; omega)) (by rw [List.length_drop]; omega) (by rw [s20_len]; omega)) ?_
        by_cases hq2 : p.drop 12 = (sumS (p.take 12)).take 20
        · have hB : bytesJ (ofJ p) = p := h11.2 ⟨⟨ht, h0⟩, hq2⟩
          rw [decide_eq_true hq2]
          cases hk : rightJ (ofJ p)
          · have hq : parseJ p = (zeroJ, false) := by rw [parseJ, hk]; simp
            rw [hk] at kR
            rw [hq]
            simp only [↓amD, amU, Nat.reduceBEq, Nat.reduceAdd, Nat.reduceSub, Nat.reduceMul, Nat.reduceMod, Nat.reducePow, Nat.reduceLT, Nat.reduceDiv, Int.reduceToNat, BitVec.reduceToNat, zipEnv, Int.reduceLE, Int.reduceLT, Int.reduceNeg, BitVec.reduceEq, Int.reduceAdd, Int.reduceSub, Int.reduceMul, Nat.reduceLeDiff, Int.reduceEq, jD_fits, hr, kR, hz]
            exact .val _ rfl
          · have hq : parseJ p = (ofJ p, true) := by rw [parseJ, hk, hl, decide_eq_true hB]; simp
            rw [hk] at kR
            rw [hq]
            simp only [↓amD, amU, Nat.reduceBEq, Nat.reduceAdd, Nat.reduceSub, Nat.reduceMul, Nat.reduceMod, Nat.reducePow, Nat.reduceLT, Nat.reduceDiv, Int.reduceToNat, BitVec.reduceToNat, zipEnv, Int.reduceLE, Int.reduceLT, Int.reduceNeg, BitVec.reduceEq, Int.reduceAdd, Int.reduceSub, Int.reduceMul, Nat.reduceLeDiff, Int.reduceEq, jD_fits, hr, kR, hz]
            exact .val _ rfl
        · have hB : ¬ bytesJ (ofJ p) = p := fun e => hq2 (h11.1 e).2
          have hq : parseJ p = (zeroJ, false) := by rw [parseJ, decide_eq_false hB]; simp
          rw [decide_eq_false hq2, hq]
          simp only [↓amD, amU, Nat.reduceBEq, Nat.reduceAdd, Nat.reduceSub, Nat.reduceMul, Nat.reduceMod, Nat.reducePow, Nat.reduceLT, Nat.reduceDiv, Int.reduceToNat, BitVec.reduceToNat, zipEnv, Int.reduceLE, Int.reduceLT, Int.reduceNeg, BitVec.reduceEq, Int.reduceAdd, Int.reduceSub, Int.reduceMul, Nat.reduceLeDiff, Int.reduceEq, jD_fits, hz]
          exact .val _ rfl
      · have hq : parseJ p = (zeroJ, false) := by
          have : ¬ bytesJ (ofJ p) = p := fun e => h0 (h11.1 e).1.2
          rw [parseJ, decide_eq_false this]; simp
        rw [hq]
        simp only [↓amD, amU, Nat.reduceBEq, Nat.reduceAdd, Nat.reduceSub, Nat.reduceMul, Nat.reduceMod, Nat.reducePow, Nat.reduceLT, Nat.reduceDiv, Int.reduceToNat, BitVec.reduceToNat, zipEnv, Int.reduceLE, Int.reduceLT, Int.reduceNeg, BitVec.reduceEq, Int.reduceAdd, Int.reduceSub, Int.reduceMul, Nat.reduceLeDiff, Int.reduceEq, g 11 (by omega), u8_ne, ne_eq, h0, not_false_eq_true, decide_true, hz, jD_fits, bs_len, hl]
        exact .val _ rfl
    · have hq : parseJ p = (zeroJ, false) := by
        have : ¬ bytesJ (ofJ p) = p := fun e => ht (h11.1 e).1.1
        rw [parseJ, decide_eq_false this]; simp
      rw [hq]
      simp only [ht, decide_false]
      simp only [↓amD, amU, Nat.reduceBEq, Nat.reduceAdd, Nat.reduceSub, Nat.reduceMul, Nat.reduceMod, Nat.reducePow, Nat.reduceLT, Nat.reduceDiv, Int.reduceToNat, BitVec.reduceToNat, zipEnv, Int.reduceLE, Int.reduceLT, Int.reduceNeg, BitVec.reduceEq, Int.reduceAdd, Int.reduceSub, Int.reduceMul, Nat.reduceLeDiff, Int.reduceEq, hz, jD_fits]
      exact .val _ rfl
  · have hl1 : ((p.length : Int) = 32) = False := eq_false (by omega)
    have hq : parseJ p = (zeroJ, false) := by rw [parseJ, decide_eq_false hl]; rfl
    rw [hq]
    simp only [↓amD, amU, Nat.reduceBEq, Nat.reduceAdd, Nat.reduceSub, Nat.reduceMul, Nat.reduceMod, Nat.reducePow, Nat.reduceLT, Nat.reduceDiv, Int.reduceToNat, BitVec.reduceToNat, zipEnv, Int.reduceLE, Int.reduceLT, Int.reduceNeg, BitVec.reduceEq, Int.reduceAdd, Int.reduceSub, Int.reduceMul, Nat.reduceLeDiff, Int.reduceEq, bs_len, hl1, hz, jD_fits]
    exact .val _ rfl
theorem kParseJ (rows : Rows) (k : D → Rows → Prop) (d : D) (p : List (BitVec 8)) (h : BsIn rows d p) (hp : p.length ≤ 1099511627776) : kCall fParseJ rows k [d] = k (.tup [jD (parseJ p).1, .raw (.bool (parseJ p).2)]) rows := by
  refine (kCall_bs1 h (by simpa [most] using hp) ?_).trans ?_
  · simp [jD, noLst, noLstL, noLstRows, Sh.pure]
  · simp [shift, shiftL, jD_shift, shiftRows]
end Job
end Go.Am
