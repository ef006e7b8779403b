import Derived.Test.YtpepmhbdblldeaaDoorPg15
namespace Go.Am
set_option linter.unusedSimpArgs false
set_option linter.unusedVariables false
attribute [local congr] bnd_congr kCond_congr kGd_congr kPick_congr kCall_congr kIdx_congr kSlice_congr kLoop_congr cond_congr' aBin_congr aBounds_congr aApp_congr aCopy_congr kFn_congr
namespace Job
open Go.Am.F
set_option maxRecDepth 10000
def us (l : List (BitVec 32)) : List D := l.map fun x => .raw (u32 x)
theorem us_len (l : List (BitVec 32)) : (us l).length = l.length := by simp [us]
theorem us_get {l : List (BitVec 32)} {i : Nat} (h : i < l.length) : (us l)[i]? = some (.raw (u32 (l.getD i 0#32))) := by
 simp [us, List.getElem?_map, h]
theorem us_set (l : List (BitVec 32)) (i : Nat) (x : BitVec 32) : (us l).set i (.raw (u32 x)) = us (l.set i x) := by simp [us, List.map_set]
theorem us_inj {a b : List (BitVec 32)} (h : us a = us b) : a = b := (List.map_inj_right fun x y hxy => by cases (D.raw.inj hxy : u32 x = u32 y) |> u32_inj.1; rfl).1 h
theorem us_rep (n : Nat) (x : BitVec 32) : List.replicate n (D.raw (u32 x)) = us (List.replicate n x) := by simp [us]
theorem bs_inj {a b : List (BitVec 8)} (h : bs a = bs b) : a = b := (List.map_inj_right fun x y hxy => by cases (D.raw.inj hxy : u8 x = u8 y) |> u8_inj.1; rfl).1 h
def h8D (l : List (BitVec 32)) : D := .agg (.ar 8 L32) (us l)
def w64D (l : List (BitVec 32)) : D := .agg (.ar 64 L32) (us l)
def b64D (l : List (BitVec 8)) : D := .agg (.ar 64 L8) (bs l)
def d32D (l : List (BitVec 8)) : D := .agg (.ar 32 L8) (bs l)
theorem h8D_inj (x y : List (BitVec 32)) (h : h8D x = h8D y) : x = y := by unfold h8D at h; injection h with _ h; exact us_inj h
theorem b64D_inj (x y : List (BitVec 8)) (h : b64D x = b64D y) : x = y := by unfold b64D at h; injection h with _ h; exact bs_inj h
theorem d32D_inj (x y : List (BitVec 8)) (h : d32D x = d32D y) : x = y := by unfold d32D at h; injection h with _ h; exact bs_inj h
def ror (x : BitVec 32) (n : Nat) : BitVec 32 := x >>> n ||| x <<< (32 - n)
theorem ror_add (x : BitVec 32) (n : Nat) (h0 : 0 < n) (h1 : n < 32) : x >>> n + x <<< (32 - n) = ror x n := by
 refine BitVec.add_eq_or_of_and_eq_zero _ _ ?_
 apply BitVec.eq_of_getLsbD_eq
 intro i hi
 simp only [BitVec.getLsbD_and, BitVec.getLsbD_ushiftRight, BitVec.getLsbD_shiftLeft, BitVec.getLsbD_zero]
 by_cases hh : i < 32 - n
 ·simp [hh]
 ·have : x.getLsbD (n + i) = false := BitVec.getLsbD_of_ge _ _ (by omega)
  simp [this]
def fTurn : Fn := fn2 rd32 rdI (fun _ k => decide (0 < k) && decide (k < 32)) fun x k => (.raw (u32 (ror x k.toNat)), [])
theorem turn_ok (C : Ctx) (hC : CtxOK C P) : Meets C.glob P 74 (Fn.run fTurn) := by
 refine fn_meets (m_ref01_turn C hC) fun ds rows r h => ?_
 obtain ⟨d, e, x, k, rfl, rfl, hd, he, hp, rfl⟩ := fn2_some h
 cases rd32_some hd
 cases rdI_some he
 simp only [Bool.and_eq_true, decide_eq_true_eq] at hp
 obtain ⟨k, rfl⟩ := Int.eq_ofNat_of_zero_le (by omega : 0 ≤ k)
 refine ⟨rfl, afun_mk rfl ?_⟩
 unfold a_ref01_turn r_ref01_turn
 have e1 : ((0 : Int) ≤ (k : Int)) = True := eq_true (by omega)
 have e2 : ((0 : Int) ≤ 32 - (k : Int)) = True := eq_true (by omega)
 have e3 : wz (32 - (k : Int)) = 32 - (k : Int) := wz_id (by omega)
 have e4 : (32 - (k : Int)).toNat = 32 - k := by omega
 simp only [↓amD, amU, simprocAttr, zipEnv, e1, e2, e3, e4, ror_add x k (by omega) (by omega)]
 exact .val _ rfl
theorem kTurn (rows : Rows) (k : D → Rows → Prop) (x : BitVec 32) (n : Nat) (h0 : 0 < n) (h1 : n < 32) : kCall fTurn rows k [.raw (u32 x), .raw (it n)] = k (.raw (u32 (ror x n))) rows := by
 refine (kCall_val rfl (r := (.raw (u32 (ror x n)), [])) ?_).trans ?_
 ·rw [fTurn, fn2_eq (rd32_eq x) (rdI_eq n) (by simp; omega)]; simp
 ·simp [shift, shiftRows]
def fRot : Fn := fn2 rd32 rdI (fun _ k => decide (-32 < k) && decide (k < 0)) fun x k => (.raw (u32 (ror x (-k).toNat)), [])
theorem rot_ok (C : Ctx) (hC : CtxOK C P) : Meets C.glob P 87 (Fn.run fRot) := by
 refine fn_meets (m_math_bits_RotateLeft32 C hC) fun ds rows r h => ?_
 obtain ⟨d, e, x, k, rfl, rfl, hd, he, hp, rfl⟩ := fn2_some h
 cases rd32_some hd
 cases rdI_some he
 simp only [Bool.and_eq_true, decide_eq_true_eq] at hp
 obtain ⟨n, hn⟩ := Int.eq_ofNat_of_zero_le (by omega : 0 ≤ -k)
 obtain rfl : k = -(n : Int) := by omega
 refine ⟨rfl, afun_mk rfl ?_⟩
 unfold a_math_bits_RotateLeft32 r_math_bits_RotateLeft32
 have e1 : BitVec.ofInt 64 (-(n : Int)) &&& 31#64 = BitVec.ofNat 64 (32 - n) := by
  have : ∀ m : Fin 32, 0 < m.val → BitVec.ofInt 64 (-(m.val : Int)) &&& 31#64 = BitVec.ofNat 64 (32 - m.val) := by decide
  exact this ⟨n, by omega⟩ (by simp; omega)
 have e2 : (BitVec.ofNat 64 (32 - n)).toNat = 32 - n := by simp; omega
 have e3 : (32#64 - BitVec.ofNat 64 (32 - n)).toNat = n := by
  rw [BitVec.toNat_sub]; simp; omega
 simp only [↓amD, amU, simprocAttr, zipEnv, e1, e2, e3]
 have : x <<< (32 - n) ||| x >>> n = ror x n := by rw [ror, BitVec.or_comm]
 rw [this]
 simp only [Int.neg_neg, Int.toNat_natCast]
 exact .val _ rfl
theorem kRot (rows : Rows) (k : D → Rows → Prop) (x : BitVec 32) (n : Nat) (h0 : 0 < n) (h1 : n < 32) : kCall fRot rows k [.raw (u32 x), .raw (it (-(n : Int)))] = k (.raw (u32 (ror x n))) rows := by
 refine (kCall_val rfl (r := (.raw (u32 (ror x n)), [])) ?_).trans ?_
 ·rw [fRot, fn2_eq (rd32_eq x) (rdI_eq _) (by simp; omega)]; simp
 ·simp [shift, shiftRows]
def fWord : Fn := fn1 rdBs (fun a => Nat.ble 4 a.length) fun a => (.raw (u32 (numS a)), [])
theorem word_ok (C : Ctx) (hC : CtxOK C P) : Meets C.glob P 88 (Fn.run fWord) := by
 refine fn_meets (m_sha_word C hC) fun ds rows r h => ?_
 obtain ⟨d, a, rfl, rfl, hd, hp, rfl⟩ := fn1_some h
 have ha := rdBs_some hd
 simp only [Nat.ble_eq] at hp
 refine ⟨rfl, afun_mk rfl ?_⟩
 unfold a_sha_word r_sha_word
 have e0 : ∀ (k : D → Rows → Prop) rows, kIdx (.leaf (.int .u8)) 0 rows k d = k (.cptr (.raw (u8 (a.getD 0 0#8)))) rows := fun k rows => by have := kIdx_bs (k := k) (rows := rows) (n := 0) ha (by omega); simpa using this
 have e1 : ∀ (k : D → Rows → Prop) rows, kIdx (.leaf (.int .u8)) 1 rows k d = k (.cptr (.raw (u8 (a.getD 1 0#8)))) rows := fun k rows => by have := kIdx_bs (k := k) (rows := rows) (n := 1) ha (by omega); simpa using this
 have e2 : ∀ (k : D → Rows → Prop) rows, kIdx (.leaf (.int .u8)) 2 rows k d = k (.cptr (.raw (u8 (a.getD 2 0#8)))) rows := fun k rows => by have := kIdx_bs (k := k) (rows := rows) (n := 2) ha (by omega); simpa using this
 have e3 : ∀ (k : D → Rows → Prop) rows, kIdx (.leaf (.int .u8)) 3 rows k d = k (.cptr (.raw (u8 (a.getD 3 0#8)))) rows := fun k rows => by have := kIdx_bs (k := k) (rows := rows) (n := 3) ha (by omega); simpa using this
 simp only [↓amD, amU, simprocAttr, zipEnv, e0, e1, e2, e3]
 exact .val _ rfl
theorem BsIn.arr {rows : Rows} {r n off len : Nat} {e : Bool} {l : List (BitVec 8)} (h : live rows r = some ⟨.ar n L8, [.agg (.ar n L8) (bs l)]⟩) (hle : off + len ≤ l.length) : BsIn rows (.sl L8 r [0] off len e) ((l.drop off).take len) := by
 refine ⟨⟨.lst L8 (bs ((l.drop off).take len)) e, ?_, .inr ⟨e, rfl⟩⟩, fun h => by simp [hasRef] at h⟩
 have h2 : Am.elems rows (.sl L8 r [0] off len e) = some (bs ((l.drop off).take len)) := by
  simp only [elems, h, rowGet]
  simp [bs, D.get]
 simp only [Am.view]
 rw [h2]
 have hl : (bs ((l.drop off).take len)).length = len := by simp [bs]; omega
 simp [Sh.pure, hl]
theorem kWord (rows : Rows) (k : D → Rows → Prop) (d : D) (a : List (BitVec 8)) (h : BsIn rows d a) (hl : 4 ≤ a.length) : kCall fWord rows k [d] = k (.raw (u32 (numS a))) rows := by
 refine (kCall_bs1 h (by simpa using hl) rfl).trans ?_
 simp [shift, shiftRows]
def sg0 (a : BitVec 32) : BitVec 32 := ror a 7 ^^^ ror a 18 ^^^ a >>> 3
def sg1 (a : BitVec 32) : BitVec 32 := ror a 17 ^^^ ror a 19 ^^^ a >>> 10
def nxt (w : List (BitVec 32)) (i : Nat) : BitVec 32 := w.getD (i - 16) 0#32 + sg0 (w.getD (i - 15) 0#32) + w.getD (i - 7) 0#32 + sg1 (w.getD (i - 2) 0#32)
def words (n : Nat) (b : List (BitVec 8)) : List (BitVec 32) := (List.range n).map fun i => numS ((b.drop (4 * i)).take 4)
def sch : Nat → List (BitVec 32) → List (BitVec 32)
 | 0, w => w
 | n + 1, w => sch n w ++ [nxt (sch n w) (sch n w).length]
theorem sch_len (n : Nat) (w : List (BitVec 32)) : (sch n w).length = w.length + n := by
 induction n with
 | zero => rfl
 | succ n ih => simp [sch, ih]; omega
theorem words_len (n : Nat) (b : List (BitVec 8)) : (words n b).length = n := by simp [words]
theorem words_succ (n : Nat) (b : List (BitVec 8)) : words (n + 1) b = words n b ++ [numS ((b.drop (4 * n)).take 4)] := by simp [words, List.range_succ]
def schW (b : List (BitVec 8)) : List (BitVec 32) := sch 48 (words 16 b)
def fill (l : List (BitVec 32)) (n : Nat) : List (BitVec 32) := l ++ List.replicate (n - l.length) 0#32
theorem fill_len {l : List (BitVec 32)} {n : Nat} (h : l.length ≤ n) : (fill l n).length = n := by simp [fill]; omega
theorem fill_get {l : List (BitVec 32)} {n i : Nat} (h : i < l.length) : (fill l n).getD i 0#32 = l.getD i 0#32 := by
 simp [fill, List.getD, List.getElem?_append_left h]
theorem fill_set {l : List (BitVec 32)} {n : Nat} (h : l.length < n) (x : BitVec 32) : (fill l n).set l.length x = fill (l ++ [x]) n := by
 obtain ⟨k, hk⟩ : ∃ k, n - l.length = k + 1 := ⟨n - l.length - 1, by omega⟩
 have h2 : n - (l ++ [x]).length = k := by simp; omega
 rw [fill, fill, hk, h2, List.replicate_succ, List.set_append_right _ _ (Nat.le_refl _)]
 simp
theorem fill_full {l : List (BitVec 32)} {n : Nat} (h : l.length = n) : fill l n = l := by simp [fill, h]
noncomputable def fSpread : Fn := fn1 (rdOf b64D) (fun b => decide (b.length = 64)) fun b => (w64D (schW b), [])
theorem spread_ok (C : Ctx) (hC : CtxOK C P) (hw : C.fn 88 = some fWord) (hr : C.fn 87 = some fRot) : Meets C.glob P 86 (Fn.run fSpread) := by
 refine fn_meets (m_sha_spread C hC) fun ds rows r h => ?_
 obtain ⟨d, b, rfl, rfl, hd, hp, rfl⟩ := fn1_some h
 cases rdOf_some hd
 simp only [decide_eq_true_eq] at hp
 refine ⟨rfl, afun_mk rfl ?_⟩
 clear h hd
 unfold a_sha_spread r_sha_spread
 have hb : (bs b).length = 64 := by rw [bs_len, hp]
 simp only [b64D, ↓amD, amU, simprocAttr, zipEnv]
 refine kLoop_up 16 (fun i env rows => has env [(10, .raw (it (i : Int))), (1, .ptr (.ar 64 L8) 0 [0]), (2, .ptr (.ar 64 L32) 1 [0]), (3, .ptr (.ar 64 L32) 2 [0])] ∧
  ∃ z, rows = [some ⟨.ar 64 L8, [.agg (.ar 64 L8) (bs b)]⟩, some ⟨.ar 64 L32, [z]⟩, some ⟨.ar 64 L32, [.agg (.ar 64 L32) (us (fill (words i b) 64))]⟩]) ?_ ?_ ⟨?_, .agg (.ar 64 L32) (List.replicate 64 (.raw (u32 0#32))), ?_⟩
 ·rintro i hi env rows ⟨hh, z, rfl⟩ R hR
  simp only [has] at hh
  obtain ⟨h10, h1, h2, h3, -⟩ := hh
  have e0 : ((i : Int) < 16) = True := eq_true (by omega)
  have e1 : ((0 : Int) ≤ 4 * (i : Int)) = True := eq_true (by omega)
  have e2 : wz (4 * (i : Int)) = 4 * (i : Int) := wz_id (by omega)
  have e3 : wz (4 * (i : Int) + 4) = 4 * (i : Int) + 4 := wz_id (by omega)
  have e4 : (4 * (i : Int) ≤ 4 * (i : Int) + 4) = True := eq_true (by omega)
  have e5 : (4 * (i : Int) + 4 ≤ 64) = True := eq_true (by omega)
  have e6 : (4 * (i : Int)).toNat = 4 * i := by omega
  have e7 : (4 * (i : Int) + 4).toNat = 4 * i + 4 := by omega
  have e8 : 4 * i + 4 - 4 * i = 4 := by omega
  have e9 : ((0 : Int) ≤ (i : Int)) = True := eq_true (by omega)
  have e10 : ((i : Int) < 64) = True := eq_true (by omega)
  have e11 := wz_succ i (by omega)
  simp only [↓amD, amU, simprocAttr, zipEnv, h10, h1, h2, h3, hw, e0, e1, e2, e3, e4, e5, e6, e7, e8, decide_true]
  refine Eq.mpr (kWord _ _ _ _ (BsIn.arr rfl (by omega)) (by rw [List.length_take, List.length_drop]; omega)) ?_
  have eg : (us (fill (words i b) 64))[i]? = some (.raw (u32 ((fill (words i b) 64).getD i 0#32))) := us_get (by rw [fill_len (by rw [words_len]; omega)]; omega)
  have es : (us (fill (words i b) 64)).set i (.raw (u32 (numS ((b.drop (4 * i)).take 4)))) = us (fill (words (i + 1) b) 64) := by
   have := fill_set (l := words i b) (n := 64) (by rw [words_len]; omega) (numS ((b.drop (4 * i)).take 4))
   rw [words_len] at this
   rw [us_set, this, ← words_succ]
  simp only [↓amD, amU, simprocAttr, zipEnv, h10, h1, h2, h3, e9, e10, e11, eg, es]
  exact hR _ _ ⟨by simp only [has, ↓amD, amU, simprocAttr, zipEnv, h1, h2, h3], z, rfl⟩
 ·rintro env rows ⟨hh, z, rfl⟩ R
  simp only [has] at hh
  obtain ⟨h10, h1, h2, h3, -⟩ := hh
  simp only [↓amD, amU, simprocAttr, zipEnv, h10, h1, h2, h3]
  refine kLoop_up 48 (fun i env rows => has env [(5, .raw (it ((16 + i : Nat) : Int))), (1, .ptr (.ar 64 L8) 0 [0]), (2, .ptr (.ar 64 L32) 1 [0]), (3, .ptr (.ar 64 L32) 2 [0])] ∧
   rows = [some ⟨.ar 64 L8, [.agg (.ar 64 L8) (bs b)]⟩, some ⟨.ar 64 L32, [z]⟩, some ⟨.ar 64 L32, [.agg (.ar 64 L32) (us (fill (sch i (words 16 b)) 64))]⟩]) ?_ ?_ ⟨?_, rfl⟩
  ·rintro i hi env rows ⟨hh, rfl⟩ R hR
   simp only [has] at hh
   obtain ⟨h5, h1, h2, h3, -⟩ := hh
   have hlen : (sch i (words 16 b)).length = 16 + i := by rw [sch_len, words_len]
   have hfl : (fill (sch i (words 16 b)) 64).length = 64 := fill_len (by omega)
   have e0 : (((16 + i : Nat) : Int) < 64) = True := eq_true (by omega)
   have a1 : wz (((16 + i : Nat) : Int) - 15) = ((16 + i - 15 : Nat) : Int) := by rw [wz_id (by omega)]; omega
   have a2 : wz (((16 + i : Nat) : Int) - 2) = ((16 + i - 2 : Nat) : Int) := by rw [wz_id (by omega)]; omega
   have a3 : wz (((16 + i : Nat) : Int) - 16) = ((16 + i - 16 : Nat) : Int) := by rw [wz_id (by omega)]; omega
   have a4 : wz (((16 + i : Nat) : Int) - 7) = ((16 + i - 7 : Nat) : Int) := by rw [wz_id (by omega)]; omega
   have b1 : ∀ j : Nat, ((0 : Int) ≤ (j : Int)) = True := fun j => eq_true (by omega)
   have c1 : (((16 + i - 15 : Nat) : Int) < 64) = True := eq_true (by omega)
   have c2 : (((16 + i - 2 : Nat) : Int) < 64) = True := eq_true (by omega)
   have c3 : (((16 + i - 16 : Nat) : Int) < 64) = True := eq_true (by omega)
   have c4 : (((16 + i - 7 : Nat) : Int) < 64) = True := eq_true (by omega)
   have gg : ∀ j, j < 16 + i → (us (fill (sch i (words 16 b)) 64))[j]? = some (.raw (u32 ((sch i (words 16 b)).getD j 0#32))) := fun j hj => by
    rw [us_get (by omega), fill_get (by omega)]
   have g1 := gg (16 + i - 15) (by omega)
   have g2 := gg (16 + i - 2) (by omega)
   have g3 := gg (16 + i - 16) (by omega)
   have g4 := gg (16 + i - 7) (by omega)
   have g5 : (us (fill (sch i (words 16 b)) 64))[16 + i]? = some (.raw (u32 ((fill (sch i (words 16 b)) 64).getD (16 + i) 0#32))) := us_get (by omega)
   have r1 := fun rows k x => kRot rows k x 7 (by decide) (by decide)
   have r2 := fun rows k x => kRot rows k x 18 (by decide) (by decide)
   have r3 := fun rows k x => kRot rows k x 17 (by decide) (by decide)
   have r4 := fun rows k x => kRot rows k x 19 (by decide) (by decide)
   simp only [Int.cast_ofNat_Int] at r1 r2 r3 r4
   have es : (us (fill (sch i (words 16 b)) 64)).set (16 + i) (.raw (u32 (nxt (sch i (words 16 b)) (16 + i)))) = us (fill (sch (i + 1) (words 16 b)) 64) := by
    have := fill_set (l := sch i (words 16 b)) (n := 64) (by omega) (nxt (sch i (words 16 b)) (16 + i))
    rw [hlen] at this
    rw [us_set, this, sch, hlen]
   have e11 : wz (((16 + i : Nat) : Int) + 1) = ((16 + (i + 1) : Nat) : Int) := by rw [wz_id (by omega)]; omega
   have es' : (us (fill (sch i (words 16 b)) 64)).set (16 + i) (.raw (u32 ((sch i (words 16 b)).getD (16 + i - 16) 0#32 + (ror ((sch i (words 16 b)).getD (16 + i - 15) 0#32) 7 ^^^ ror ((sch i (words 16 b)).getD (16 + i - 15) 0#32) 18 ^^^ (sch i (words 16 b)).getD (16 + i - 15) 0#32 >>> 3) + (sch i (words 16 b)).getD (16 + i - 7) 0#32 + (ror ((sch i (words 16 b)).getD (16 + i - 2) 0#32) 17 ^^^ ror ((sch i (words 16 b)).getD (16 + i - 2) 0#32) 19 ^^^ (sch i (words 16 b)).getD (16 + i - 2) 0#32 >>> 10)))) = us (fill (sch (i + 1) (words 16 b)) 64) := es
   simp only [↓amD, amU, simprocAttr, zipEnv, h5, h1, h2, h3, hr, e0, a1, a2, a3, a4, b1, c1, c2, c3, c4, g1, g2, g3, g4, g5, r1, r2, r3, r4, e11, es', decide_true]
   exact hR _ _ ⟨by simp only [has, ↓amD, amU, simprocAttr, zipEnv, h1, h2, h3], rfl⟩
  ·rintro env rows ⟨hh, rfl⟩ R
   simp only [has] at hh
   obtain ⟨h5, h1, h2, h3, -⟩ := hh
   simp only [↓amD, amU, simprocAttr, zipEnv, h5, h1, h2, h3]
   rw [fill_full (by rw [sch_len, words_len])]
   exact .val _ rfl
  ·have : fill (words 16 b) 64 = fill (sch 0 (words 16 b)) 64 := rfl
   simp only [has, ↓amD, amU, simprocAttr, zipEnv, h1, h2, h3]
 ·simp only [has, ↓amD, amU, simprocAttr, zipEnv]
 ·rw [us_rep]; rfl
def firstL : List (BitVec 32) := [0x6a09e667#32, 0xbb67ae85#32, 0x3c6ef372#32, 0xa54ff53a#32, 0x510e527f#32, 0x9b05688c#32, 0x1f83d9ab#32, 0x5be0cd19#32]
def roundsL : List (BitVec 32) := [
 0x428a2f98#32, 0x71374491#32, 0xb5c0fbcf#32, 0xe9b5dba5#32, 0x3956c25b#32, 0x59f111f1#32, 0x923f82a4#32, 0xab1c5ed5#32,
 0xd807aa98#32, 0x12835b01#32, 0x243185be#32, 0x550c7dc3#32, 0x72be5d74#32, 0x80deb1fe#32, 0x9bdc06a7#32, 0xc19bf174#32,
 0xe49b69c1#32, 0xefbe4786#32, 0x0fc19dc6#32, 0x240ca1cc#32, 0x2de92c6f#32, 0x4a7484aa#32, 0x5cb0a9dc#32, 0x76f988da#32,
 0x983e5152#32, 0xa831c66d#32, 0xb00327c8#32, 0xbf597fc7#32, 0xc6e00bf3#32, 0xd5a79147#32, 0x06ca6351#32, 0x14292967#32,
 0x27b70a85#32, 0x2e1b2138#32, 0x4d2c6dfc#32, 0x53380d13#32, 0x650a7354#32, 0x766a0abb#32, 0x81c2c92e#32, 0x92722c85#32,
 0xa2bfe8a1#32, 0xa81a664b#32, 0xc24b8b70#32, 0xc76c51a3#32, 0xd192e819#32, 0xd6990624#32, 0xf40e3585#32, 0x106aa070#32,
 0x19a4c116#32, 0x1e376c08#32, 0x2748774c#32, 0x34b0bcb5#32, 0x391c0cb3#32, 0x4ed8aa4a#32, 0x5b9cca4f#32, 0x682e6ff3#32,
 0x748f82ee#32, 0x78a5636f#32, 0x84c87814#32, 0x8cc70208#32, 0x90befffa#32, 0xa4506ceb#32, 0xbef9a3f7#32, 0xc67178f2#32]
def rnd (v : List (BitVec 32)) (k w : BitVec 32) : List (BitVec 32) :=
 match v with
 | [a, b, c, d, e, f, g, h] =>
  let t := h + (ror e 6 ^^^ ror e 11 ^^^ ror e 25) + (e &&& f ^^^ ~~~e &&& g) + k + w
  [t + (ror a 2 ^^^ ror a 13 ^^^ ror a 22) + (a &&& b ^^^ a &&& c ^^^ b &&& c), a, b, c, d + t, e, f, g]
 | _ => v
def rnds (ws : List (BitVec 32)) : Nat → List (BitVec 32) → List (BitVec 32)
 | 0, v => v
 | n + 1, v => rnd (rnds ws n v) (roundsL.getD n 0#32) (ws.getD n 0#32)
theorem eight {v : List (BitVec 32)} (h : v.length = 8) : ∃ a b c d e f g i, v = [a, b, c, d, e, f, g, i] := by
 match v, h with
 | [a, b, c, d, e, f, g, i], _ => exact ⟨a, b, c, d, e, f, g, i, rfl⟩
theorem rnd_len (v : List (BitVec 32)) (k w : BitVec 32) (h : v.length = 8) : (rnd v k w).length = 8 := by
 obtain ⟨a, b, c, d, e, f, g, i, rfl⟩ := eight h; rfl
theorem rnds_len (ws : List (BitVec 32)) (n : Nat) (v : List (BitVec 32)) (h : v.length = 8) : (rnds ws n v).length = 8 := by
 induction n with
 | zero => exact h
 | succ n ih => exact rnd_len _ _ _ ih
def mix (x y : List (BitVec 32)) (i : Nat) : List (BitVec 32) := (List.zipWith (· + ·) x y).take i ++ x.drop i
theorem mix_len (x y : List (BitVec 32)) (i : Nat) (h : x.length = y.length) (hi : i ≤ x.length) : (mix x y i).length = x.length := by simp [mix]; omega
theorem mix_get (x y : List (BitVec 32)) (i : Nat) (h : x.length = y.length) (hi : i < x.length) : (mix x y i).getD i 0#32 = x.getD i 0#32 := by
 have : ((List.zipWith (· + ·) x y).take i).length = i := by simp; omega
 simp only [mix, List.getD]
 rw [List.getElem?_append_right (by omega), this, Nat.sub_self, List.getElem?_drop]
 rfl
theorem mix_set (x y : List (BitVec 32)) (i : Nat) (h : x.length = y.length) (hi : i < x.length) : (mix x y i).set i (x.getD i 0#32 + y.getD i 0#32) = mix x y (i + 1) := by
 have hl : ((List.zipWith (· + ·) x y).take i).length = i := by simp; omega
 have e1 : x.drop i = x.getD i 0#32 :: x.drop (i + 1) := by
  rw [List.drop_eq_getElem_cons hi]; simp [List.getD, hi]
 have e2 : (List.zipWith (· + ·) x y).take (i + 1) = (List.zipWith (· + ·) x y).take i ++ [x.getD i 0#32 + y.getD i 0#32] := by
  have hz : i < (List.zipWith (· + ·) x y).length := by simp; omega
  rw [List.take_succ_eq_append_getElem hz]
  have hy : i < y.length := by omega
  simp [List.getD, hi, hy]
 rw [mix, mix, e2, List.set_append_right _ _ (by omega), hl, Nat.sub_self, e1]
 simp
theorem mix_all (x y : List (BitVec 32)) (h : x.length = y.length) : mix x y x.length = List.zipWith (· + ·) x y := by
 rw [mix, List.drop_length, List.append_nil, List.take_of_length_le (by simp; omega)]
def pressS (h : List (BitVec 32)) (b : List (BitVec 8)) : List (BitVec 32) := List.zipWith (· + ·) h (rnds (schW b) 64 h)
theorem schW_len (b : List (BitVec 8)) : (schW b).length = 64 := by rw [schW, sch_len, words_len]
theorem press_len (h : List (BitVec 32)) (b : List (BitVec 8)) (hh : h.length = 8) : (pressS h b).length = 8 := by simp [pressS, hh, rnds_len]
noncomputable def fPress : Fn := fn2 (rdOf h8D) (rdOf b64D) (fun h b => decide (h.length = 8) && decide (b.length = 64)) fun h b => (h8D (pressS h b), [])
theorem kSpread (rows : Rows) (k : D → Rows → Prop) (b : List (BitVec 8)) (h : b.length = 64) : kCall fSpread rows k [.agg (.ar 64 L8) (bs b)] = k (.agg (.ar 64 L32) (us (schW b))) rows := by
 refine (kCall_val (by simp [hasRefL, hasRef, Sh.pure]) (r := (w64D (schW b), [])) ?_).trans ?_
 ·exact fn1_eq (rdOf_eq b64D_inj b) (by simp [h])
 ·simp [shift, shiftRows, w64D, Sh.pure]
theorem press_ok (C : Ctx) (hC : CtxOK C P) (hg : C.glob 2 = some (w64D roundsL)) (hs : C.fn 86 = some fSpread) (hr : C.fn 87 = some fRot) : Meets C.glob P 82 (Fn.run fPress) := by
 refine fn_meets (m_sha_Press C hC) fun ds rows r h => ?_
 obtain ⟨d, e, h0, b, rfl, rfl, hd, he, hp, rfl⟩ := fn2_some h
 cases rdOf_some hd
 cases rdOf_some he
 simp only [Bool.and_eq_true, decide_eq_true_eq] at hp
 obtain ⟨hp, hb⟩ := hp
 refine ⟨rfl, afun_mk rfl ?_⟩
 clear h hd he
 unfold a_sha_Press r_sha_Press
 simp only [h8D, b64D, ↓amD, amU, simprocAttr, zipEnv, hs]
 refine Eq.mpr (kSpread _ _ _ hb) ?_
 simp only [↓amD, amU, simprocAttr, zipEnv]
 refine kLoop_up 64 (fun i env rows => has env [(17, .raw (it (i : Int))), (16, .agg (.ar 64 L32) (us (schW b))), (2, .ptr (.ar 8 L32) 0 [0]), (4, .ptr (.ar 8 L32) 2 [0]), (5, .ptr (.ar 8 L32) 3 [0])] ∧
  ∃ z y, rows = [some ⟨.ar 8 L32, [.agg (.ar 8 L32) (us h0)]⟩, some y, some ⟨.ar 8 L32, [z]⟩, some ⟨.ar 8 L32, [.agg (.ar 8 L32) (us (rnds (schW b) i h0))]⟩]) ?_ ?_ ⟨?_, _, _, rfl⟩
 ·rintro i hi env rows ⟨hh, z, y, rfl⟩ R hR
  simp only [has] at hh
  obtain ⟨h17, h16, h2, h4, h5, -⟩ := hh
  obtain ⟨va, vb, vc, vd, ve, vf, vg, vh, hv⟩ := eight (rnds_len (schW b) i h0 hp)
  have e0 : ((i : Int) < 64) = True := eq_true (by omega)
  have e1 : ((0 : Int) ≤ (i : Int)) = True := eq_true (by omega)
  have e2 := wz_succ i (by omega)
  have g1 : (us (schW b))[i]? = some (.raw (u32 ((schW b).getD i 0#32))) := us_get (by rw [schW_len]; omega)
  have g2 : (us roundsL)[i]? = some (.raw (u32 (roundsL.getD i 0#32))) := us_get (by simp [roundsL]; omega)
  have r1 := fun rows k x => kRot rows k x 6 (by decide) (by decide)
  have r2 := fun rows k x => kRot rows k x 11 (by decide) (by decide)
  have r3 := fun rows k x => kRot rows k x 25 (by decide) (by decide)
  have r4 := fun rows k x => kRot rows k x 2 (by decide) (by decide)
  have r5 := fun rows k x => kRot rows k x 13 (by decide) (by decide)
  have r6 := fun rows k x => kRot rows k x 22 (by decide) (by decide)
  simp only [Int.cast_ofNat_Int] at r1 r2 r3 r4 r5 r6
  have hn : us (rnds (schW b) (i + 1) h0) = us (rnd [va, vb, vc, vd, ve, vf, vg, vh] (roundsL.getD i 0#32) ((schW b).getD i 0#32)) := by rw [rnds, hv]
  rw [hv]
  have hu : us [va, vb, vc, vd, ve, vf, vg, vh] = [.raw (u32 va), .raw (u32 vb), .raw (u32 vc), .raw (u32 vd), .raw (u32 ve), .raw (u32 vf), .raw (u32 vg), .raw (u32 vh)] := rfl
  simp only [↓amD, amU, simprocAttr, zipEnv, w64D, h17, h16, h2, h4, h5, hr, hg, e0, e1, e2, g1, g2, r1, r2, r3, r4, r5, r6, hu, decide_true]
  exact hR _ _ ⟨by simp only [has, ↓amD, amU, simprocAttr, zipEnv, h16, h2, h4, h5], z, y, by rw [hn]; rfl⟩
 ·rintro env rows ⟨hh, z, y, rfl⟩ R
  simp only [has] at hh
  obtain ⟨h17, h16, h2, h4, h5, -⟩ := hh
  simp only [↓amD, amU, simprocAttr, zipEnv, h17, h16, h2, h4, h5]
  have hv := rnds_len (schW b) 64 h0 hp
  have hq : h0.length = (rnds (schW b) 64 h0).length := by omega
  refine kLoop_up 8 (fun i env rows => has env [(107, .raw (it (i : Int))), (2, .ptr (.ar 8 L32) 0 [0]), (4, .ptr (.ar 8 L32) 2 [0]), (5, .ptr (.ar 8 L32) 3 [0])] ∧
   rows = [some ⟨.ar 8 L32, [.agg (.ar 8 L32) (us (mix h0 (rnds (schW b) 64 h0) i))]⟩, some y, some ⟨.ar 8 L32, [z]⟩, some ⟨.ar 8 L32, [.agg (.ar 8 L32) (us (rnds (schW b) 64 h0))]⟩]) ?_ ?_ ⟨?_, by rfl⟩
  ·rintro i hi env rows ⟨hh, rfl⟩ R hR
   simp only [has] at hh
   obtain ⟨h7, h2, h4, h5, -⟩ := hh
   have e0 : ((i : Int) < 8) = True := eq_true (by omega)
   have e1 : ((0 : Int) ≤ (i : Int)) = True := eq_true (by omega)
   have e2 := wz_succ i (by omega)
   have g1 : (us (mix h0 (rnds (schW b) 64 h0) i))[i]? = some (.raw (u32 (h0.getD i 0#32))) := by
    rw [us_get (by rw [mix_len _ _ _ hq (by omega)]; omega), mix_get _ _ _ hq (by omega)]
   have g2 : (us (rnds (schW b) 64 h0))[i]? = some (.raw (u32 ((rnds (schW b) 64 h0).getD i 0#32))) := us_get (by omega)
   have es : (us (mix h0 (rnds (schW b) 64 h0) i)).set i (.raw (u32 (h0.getD i 0#32 + (rnds (schW b) 64 h0).getD i 0#32))) = us (mix h0 (rnds (schW b) 64 h0) (i + 1)) := by
    rw [us_set, mix_set _ _ _ hq (by omega)]
   simp only [↓amD, amU, simprocAttr, zipEnv, h7, h2, h4, h5, e0, e1, e2, g1, g2, es, decide_true]
   exact hR _ _ ⟨by simp only [has, ↓amD, amU, simprocAttr, zipEnv, h2, h4, h5], rfl⟩
  ·rintro env rows ⟨hh, rfl⟩ R
   simp only [has] at hh
   obtain ⟨h7, h2, h4, h5, -⟩ := hh
   simp only [↓amD, amU, simprocAttr, zipEnv, h7, h2, h4, h5]
   have : mix h0 (rnds (schW b) 64 h0) 8 = pressS h0 b := by rw [← hp, mix_all _ _ hq]; rfl
   rw [this]
   exact .val _ rfl
  ·simp only [has, ↓amD, amU, simprocAttr, zipEnv, h2, h4, h5]
 ·simp only [has, ↓amD, amU, simprocAttr, zipEnv]
theorem sch_take (n k : Nat) (w : List (BitVec 32)) : (sch (n + k) w).take (w.length + n) = sch n w := by
 induction k with
 | zero => rw [Nat.add_zero, ← sch_len n w, List.take_length]
 | succ k ih => rw [← Nat.add_assoc, sch, List.take_append_of_le_length (by rw [sch_len]; omega), ih]
theorem getD_take {l : List (BitVec 32)} {i n : Nat} (h : i < n) : (l.take n).getD i 0#32 = l.getD i 0#32 := by
 simp [List.getD, List.getElem?_take, h]
theorem words_getD {n i : Nat} (b : List (BitVec 8)) (h : i < n) : (words n b).getD i 0#32 = numS ((b.drop (4 * i)).take 4) := by
 simp [words, List.getD, h]
theorem schW_lo {b : List (BitVec 8)} {i : Nat} (h : i < 16) : (schW b).getD i 0#32 = numS ((b.drop (4 * i)).take 4) := by
 have := sch_take 0 48 (words 16 b)
 rw [words_len, Nat.zero_add, Nat.add_zero] at this
 rw [← getD_take (n := 16) h, schW, this, sch, words_getD _ h]
theorem schW_hi {b : List (BitVec 8)} {n : Nat} (h : n < 48) : (schW b).getD (16 + n) 0#32 = nxt ((schW b).take (16 + n)) (16 + n) := by
 have h1 := sch_take n (48 - n) (words 16 b)
 have h2 := sch_take (n + 1) (47 - n) (words 16 b)
 rw [words_len, show n + (48 - n) = 48 by omega] at h1
 rw [words_len, show n + 1 + (47 - n) = 48 by omega] at h2
 rw [← getD_take (n := 16 + (n + 1)) (by omega), schW, h1, h2, sch]
 have : (sch n (words 16 b)).length = 16 + n := by rw [sch_len, words_len]
 rw [this]
 simp [List.getD, List.getElem?_append_right (by omega : (sch n (words 16 b)).length ≤ 16 + n), this]
theorem take_snoc {l : List (BitVec 32)} {i : Nat} (h : i < l.length) : l.take (i + 1) = l.take i ++ [l.getD i 0#32] := take_succ_getD h
theorem four {v : List (BitVec 8)} (h : v.length = 4) : ∃ a b c d, v = [a, b, c, d] := by
 match v, h with
 | [a, b, c, d], _ => exact ⟨a, b, c, d, rfl⟩
def fRoots : Fn
 | [], [] => some (w64D roundsL, [])
 | _, _ => none
theorem roots_ok (C : Ctx) (hC : CtxOK C P) : Meets C.glob P 75 (Fn.run fRoots) := by
 refine fn_meets (m_ref01_roots C hC) fun ds rows r h => ?_
 unfold fRoots at h
 split at h
 ·cases h
  refine ⟨rfl, afun_mk rfl ?_⟩
  unfold a_ref01_roots r_ref01_roots
  simp only [↓amD, amU, simprocAttr, zipEnv]
  exact .val _ rfl
 ·cases h
theorem kRoots (rows : Rows) (k : D → Rows → Prop) : kCall fRoots rows k [] = k (.agg (.ar 64 L32) (us roundsL)) rows := by
 refine (kCall_val rfl (r := (w64D roundsL, [])) rfl).trans ?_
 simp [shift, shiftRows, w64D, Sh.pure]
theorem not_sub (x : BitVec 32) : 4294967295#32 - x = ~~~x := by
 apply BitVec.eq_of_toNat_eq
 have := x.isLt
 rw [BitVec.toNat_sub, BitVec.toNat_not]
 simp; omega
noncomputable def fPressR : Fn := fn2 (rdOf h8D) rdBs (fun h b => decide (h.length = 8) && decide (b.length = 64)) fun h b => (h8D (pressS h b), [])
theorem zip_comm (x y : List (BitVec 32)) : List.zipWith (· + ·) x y = List.zipWith (· + ·) y x := by
 rw [List.zipWith_comm]; congr 1; funext a b; exact BitVec.add_comm _ _
theorem pressR_ok (C : Ctx) (hC : CtxOK C P) (hv : C.fn 73 = some fValue) (ht : C.fn 74 = some fTurn) (hr : C.fn 75 = some fRoots) : Meets C.glob P 43 (Fn.run fPressR) := by
 refine fn_meetsN (m_ref01_Press C hC) fun ds rows r h => ?_
 obtain ⟨d, e, h0, b, rfl, rfl, hd, he, hp, rfl⟩ := fn2_some h
 cases rdOf_some hd
 obtain ⟨x, hx⟩ := rdBs_nrm he
 simp only [Bool.and_eq_true, decide_eq_true_eq] at hp
 obtain ⟨hp, hb⟩ := hp
 refine ⟨rfl, _, .cons (.refl _) (.cons hx .nil), afun_mk rfl ?_⟩
 clear h hd he hx
 unfold a_ref01_Press r_ref01_Press
 simp only [h8D, ↓amD, amU, simprocAttr, zipEnv]
 have hwl := schW_len b
 refine kLoop_up 64 (fun i env rows => has env [(24, .raw (it (i : Int))), (1, .lst L8 (bs b) x), (23, .raw (it 64)), (2, .ptr (.ar 8 L32) 0 [0]), (4, .ptr (.ar 8 L32) 1 [0]), (5, .sl L32 2 [] 0 64 true)] ∧
  ∃ z, rows = [some ⟨.ar 8 L32, [.agg (.ar 8 L32) (us h0)]⟩, some ⟨.ar 8 L32, [z]⟩, some ⟨L32, us (fill ((schW b).take i) 64)⟩]) ?_ ?_ ⟨?_, .agg (.ar 8 L32) (List.replicate 8 (.raw (u32 0#32))), ?_⟩
 ·rintro i hi env rows ⟨hh, z, rfl⟩ R hR
  simp only [has] at hh
  obtain ⟨h24, h1, h23, h2, h4, h5, -⟩ := hh
  have e0 : ((i : Int) < 64) = True := eq_true (by omega)
  have e11 := wz_succ i (by omega)
  have e9 : ((0 : Int) ≤ (i : Int)) = True := eq_true (by omega)
  have hl : ((schW b).take i).length = i := by rw [List.length_take]; omega
  have hfl : (fill ((schW b).take i) 64).length = 64 := fill_len (by omega)
  have g5 : (us (fill ((schW b).take i) 64))[i]? = some (.raw (u32 ((fill ((schW b).take i) 64).getD i 0#32))) := us_get (by omega)
  have es0 : (fill ((schW b).take i) 64).set i ((schW b).getD i 0#32) = fill ((schW b).take (i + 1)) 64 := by
   have := fill_set (l := (schW b).take i) (n := 64) (by omega) ((schW b).getD i 0#32)
   rw [hl] at this
   rw [this, ← take_snoc (by omega)]
  by_cases hlo : i < 16
  ·have hlo' : ((i : Int) < 16) = True := eq_true (by omega)
   have e1 : ((0 : Int) ≤ 4 * (i : Int)) = True := eq_true (by omega)
   have e2 : wz (4 * (i : Int)) = 4 * (i : Int) := wz_id (by omega)
   have e3 : wz (4 * (i : Int) + 4) = 4 * (i : Int) + 4 := wz_id (by omega)
   have e4 : (4 * (i : Int) ≤ 4 * (i : Int) + 4) = True := eq_true (by omega)
   have e5 : (4 * (i : Int) + 4 ≤ 64) = True := eq_true (by omega)
   have e6 : (4 * (i : Int)).toNat = 4 * i := by omega
   have e7 : (4 * (i : Int) + 4).toNat = 4 * i + 4 := by omega
   have e8 : 4 * i + 4 - 4 * i = 4 := by omega
   have h4l : ((b.drop (4 * i)).take 4).length = 4 := by rw [List.length_take, List.length_drop]; omega
   obtain ⟨va, vb, vc, vd, hq⟩ := four h4l
   have kv := fun rows k e => kVal rows k ((b.drop (4 * i)).take 4) e (by omega)
   have ev : (valS ((b.drop (4 * i)).take 4)).setWidth 32 = (schW b).getD i 0#32 := by rw [schW_lo hlo, hq, val_num]
   have ee : ((4 * i + 4 : Nat) : Int) = 4 * (i : Int) + 4 := by omega
   simp only [↓amD, amU, simprocAttr, zipEnv, h24, h1, h23, h2, h4, h5, hv, hlo', e0, e1, e2, e3, e4, e5, e6, e7, e8, e9, e11, bs_len, hb, bs_drop, bs_take, kv, ev, g5, us_set, es0, decide_true, us_len, hfl, Int.cast_ofNat_Int]
   exact hR _ _ ⟨by simp only [has, ↓amD, amU, simprocAttr, zipEnv, h1, h23, h2, h4, h5], z, rfl⟩
  ·obtain ⟨j, rfl⟩ : ∃ j, i = 16 + j := ⟨i - 16, by omega⟩
   have hlo' : (((16 + j : Nat) : Int) < 16) = False := eq_false (by omega)
   have a1 : wz (((16 + j : Nat) : Int) - 15) = ((16 + j - 15 : Nat) : Int) := by rw [wz_id (by omega)]; omega
   have a2 : wz (((16 + j : Nat) : Int) - 2) = ((16 + j - 2 : Nat) : Int) := by rw [wz_id (by omega)]; omega
   have a3 : wz (((16 + j : Nat) : Int) - 16) = ((16 + j - 16 : Nat) : Int) := by rw [wz_id (by omega)]; omega
   have a4 : wz (((16 + j : Nat) : Int) - 7) = ((16 + j - 7 : Nat) : Int) := by rw [wz_id (by omega)]; omega
   have b1 : ∀ j : Nat, ((0 : Int) ≤ (j : Int)) = True := fun j => eq_true (by omega)
   have c1 : (((16 + j - 15 : Nat) : Int) < 64) = True := eq_true (by omega)
   have c2 : (((16 + j - 2 : Nat) : Int) < 64) = True := eq_true (by omega)
   have c3 : (((16 + j - 16 : Nat) : Int) < 64) = True := eq_true (by omega)
   have c4 : (((16 + j - 7 : Nat) : Int) < 64) = True := eq_true (by omega)
   have gg : ∀ m, m < 16 + j → (us (fill ((schW b).take (16 + j)) 64))[m]? = some (.raw (u32 (((schW b).take (16 + j)).getD m 0#32))) := fun m hm => by
    rw [us_get (by omega), fill_get (by omega)]
   have g1 := gg (16 + j - 15) (by omega)
   have g2 := gg (16 + j - 2) (by omega)
   have g3 := gg (16 + j - 16) (by omega)
   have g4 := gg (16 + j - 7) (by omega)
   have r1 := fun rows k x => kTurn rows k x 7 (by decide) (by decide)
   have r2 := fun rows k x => kTurn rows k x 18 (by decide) (by decide)
   have r3 := fun rows k x => kTurn rows k x 17 (by decide) (by decide)
   have r4 := fun rows k x => kTurn rows k x 19 (by decide) (by decide)
   simp only [Int.cast_ofNat_Int] at r1 r2 r3 r4
   have hn := schW_hi (b := b) (n := j) (by omega)
   simp only [nxt, sg0, sg1] at hn
   simp only [↓amD, amU, simprocAttr, zipEnv, h24, h1, h23, h2, h4, h5, ht, hlo', e0, a1, a2, a3, a4, b1, c1, c2, c3, c4, g1, g2, g3, g4, g5, r1, r2, r3, r4, e11, ← hn, us_set, es0, decide_true, decide_false, us_len, hfl, Int.cast_ofNat_Int]
   exact hR _ _ ⟨by simp only [has, ↓amD, amU, simprocAttr, zipEnv, h1, h23, h2, h4, h5], z, rfl⟩
 ·rintro env rows ⟨hh, z, rfl⟩ R
  simp only [has] at hh
  obtain ⟨h24, h1, h23, h2, h4, h5, -⟩ := hh
  have hf : fill ((schW b).take 64) 64 = schW b := by rw [← hwl, List.take_length]; exact fill_full rfl
  rw [hf]
  obtain ⟨a0, b0, c0, d0, e0, f0, g0, i0, hv8⟩ := eight hp
  have hu : us [a0, b0, c0, d0, e0, f0, g0, i0] = [.raw (u32 a0), .raw (u32 b0), .raw (u32 c0), .raw (u32 d0), .raw (u32 e0), .raw (u32 f0), .raw (u32 g0), .raw (u32 i0)] := rfl
  rw [hv8]
  simp only [↓amD, amU, simprocAttr, zipEnv, h24, h1, h23, h2, h4, h5, hu, hr, kRoots]
  refine kLoop_up 64 (fun i env rows => ∃ va vb vc vd ve vf vg vh, rnds (schW b) i h0 = [va, vb, vc, vd, ve, vf, vg, vh] ∧ has env [(117, .raw (it (i : Int))), (116, .raw (it 64)), (2, .ptr (.ar 8 L32) 0 [0]), (4, .ptr (.ar 8 L32) 1 [0]), (5, .sl L32 2 [] 0 64 true), (15, .ptr (.ar 64 L32) 3 [0]),
    (7, .raw (u32 va)), (8, .raw (u32 vb)), (9, .raw (u32 vc)), (10, .raw (u32 vd)), (11, .raw (u32 ve)), (12, .raw (u32 vf)), (13, .raw (u32 vg)), (14, .raw (u32 vh))] ∧
   rows = [some ⟨.ar 8 L32, [.agg (.ar 8 L32) (us h0)]⟩, some ⟨.ar 8 L32, [z]⟩, some ⟨L32, us (schW b)⟩, some ⟨.ar 64 L32, [.agg (.ar 64 L32) (us roundsL)]⟩]) ?_ ?_ ⟨_, _, _, _, _, _, _, _, hv8, ?_, by rw [hv8]; rfl⟩
  ·rintro i hi env rows ⟨va, vb, vc, vd, ve, vf, vg, vh, hvv, hh, rfl⟩ R hR
   simp only [has] at hh
   obtain ⟨h117, h116, h2, h4, h5, h15, q7, q8, q9, q10, q11, q12, q13, q14, -⟩ := hh
   have e0 : ((i : Int) < 64) = True := eq_true (by omega)
   have e11 := wz_succ i (by omega)
   have e9 : ((0 : Int) ≤ (i : Int)) = True := eq_true (by omega)
   have g1 : (us (schW b))[i]? = some (.raw (u32 ((schW b).getD i 0#32))) := us_get (by rw [schW_len]; omega)
   have g2 : (us roundsL)[i]? = some (.raw (u32 (roundsL.getD i 0#32))) := us_get (by simp [roundsL]; omega)
   have r1 := fun rows k x => kTurn rows k x 6 (by decide) (by decide)
   have r2 := fun rows k x => kTurn rows k x 11 (by decide) (by decide)
   have r3 := fun rows k x => kTurn rows k x 25 (by decide) (by decide)
   have r4 := fun rows k x => kTurn rows k x 2 (by decide) (by decide)
   have r5 := fun rows k x => kTurn rows k x 13 (by decide) (by decide)
   have r6 := fun rows k x => kTurn rows k x 22 (by decide) (by decide)
   simp only [Int.cast_ofNat_Int] at r1 r2 r3 r4 r5 r6
   simp only [↓amD, amU, simprocAttr, zipEnv, h117, h116, h2, h4, h5, h15, q7, q8, q9, q10, q11, q12, q13, q14, ht, e0, e9, e11, g1, g2, r1, r2, r3, r4, r5, r6, not_sub, decide_true, us_len, hwl, Int.cast_ofNat_Int]
   have hN : rnds (schW b) (i + 1) h0 = [vh + (ror ve 6 ^^^ ror ve 11 ^^^ ror ve 25) + (ve &&& vf ^^^ ~~~ve &&& vg) + roundsL.getD i 0#32 + (schW b).getD i 0#32 + ((ror va 2 ^^^ ror va 13 ^^^ ror va 22) + (va &&& vb ^^^ va &&& vc ^^^ vb &&& vc)), va, vb, vc,
     vd + (vh + (ror ve 6 ^^^ ror ve 11 ^^^ ror ve 25) + (ve &&& vf ^^^ ~~~ve &&& vg) + roundsL.getD i 0#32 + (schW b).getD i 0#32), ve, vf, vg] := by
    rw [rnds, hvv, rnd]; simp only [BitVec.add_assoc]
   exact hR _ _ ⟨_, _, _, _, _, _, _, _, hN, by simp only [has, ↓amD, amU, simprocAttr, zipEnv, h116, h2, h4, h5, h15], rfl⟩
  ·rintro env rows ⟨va, vb, vc, vd, ve, vf, vg, vh, hvv, hh, rfl⟩ R
   simp only [has] at hh
   obtain ⟨h117, h116, h2, h4, h5, h15, q7, q8, q9, q10, q11, q12, q13, q14, -⟩ := hh
   simp only [↓amD, amU, simprocAttr, zipEnv, h117, h116, h2, h4, h5, h15, q7, q8, q9, q10, q11, q12, q13, q14]
   have hu2 : us [va, vb, vc, vd, ve, vf, vg, vh] = [.raw (u32 va), .raw (u32 vb), .raw (u32 vc), .raw (u32 vd), .raw (u32 ve), .raw (u32 vf), .raw (u32 vg), .raw (u32 vh)] := rfl
   rw [← hu2, ← hvv]
   have hl2 := rnds_len (schW b) 64 h0 hp
   have hq : (rnds (schW b) 64 h0).length = h0.length := by omega
   refine kLoop_up 8 (fun i env rows => has env [(190, .raw (it (i : Int))), (2, .ptr (.ar 8 L32) 0 [0]), (4, .ptr (.ar 8 L32) 1 [0]), (19, .ptr (.ar 8 L32) 4 [0])] ∧
    rows = [some ⟨.ar 8 L32, [.agg (.ar 8 L32) (us h0)]⟩, some ⟨.ar 8 L32, [z]⟩, some ⟨L32, us (schW b)⟩, some ⟨.ar 64 L32, [.agg (.ar 64 L32) (us roundsL)]⟩, some ⟨.ar 8 L32, [.agg (.ar 8 L32) (us (mix (rnds (schW b) 64 h0) h0 i))]⟩]) ?_ ?_ ⟨?_, by rfl⟩
   ·rintro i hi env rows ⟨hh, rfl⟩ R hR
    simp only [has] at hh
    obtain ⟨h190, h2, h4, h19, -⟩ := hh
    have e0 : ((i : Int) < 8) = True := eq_true (by omega)
    have e1 : ((0 : Int) ≤ (i : Int)) = True := eq_true (by omega)
    have e2 := wz_succ i (by omega)
    have g1 : (us (mix (rnds (schW b) 64 h0) h0 i))[i]? = some (.raw (u32 ((rnds (schW b) 64 h0).getD i 0#32))) := by
     rw [us_get (by rw [mix_len _ _ _ hq (by omega)]; omega), mix_get _ _ _ hq (by omega)]
    have g2 : (us h0)[i]? = some (.raw (u32 (h0.getD i 0#32))) := us_get (by omega)
    have es : (mix (rnds (schW b) 64 h0) h0 i).set i ((rnds (schW b) 64 h0).getD i 0#32 + h0.getD i 0#32) = mix (rnds (schW b) 64 h0) h0 (i + 1) := mix_set _ _ _ hq (by omega)
    simp only [↓amD, amU, simprocAttr, zipEnv, h190, h2, h4, h19, e0, e1, e2, g1, g2, us_set, es, decide_true]
    exact hR _ _ ⟨by simp only [has, ↓amD, amU, simprocAttr, zipEnv, h2, h4, h19], rfl⟩
   ·rintro env rows ⟨hh, rfl⟩ R
    simp only [has] at hh
    obtain ⟨h190, h2, h4, h19, -⟩ := hh
    simp only [↓amD, amU, simprocAttr, zipEnv, h190, h2, h4, h19]
    have : mix (rnds (schW b) 64 h0) h0 8 = pressS h0 b := by rw [← hl2, mix_all _ _ hq, zip_comm]; rfl
    rw [this, ← hv8]
    exact .val _ rfl
   ·simp only [has, ↓amD, amU, simprocAttr, zipEnv, h2, h4]
  ·simp only [has, ↓amD, amU, simprocAttr, zipEnv, h2, h4, h5]
 ·simp only [has, ↓amD, amU, simprocAttr, zipEnv]
 ·rw [us_rep]; rfl
theorem bs_splice (l x : List (BitVec 8)) (off : Nat) : splice (bs l) off (bs x) = bs (splice l off x) := by
 simp [splice, bs]
theorem copy_arr {rows : Rows} {r i off len : Nat} {p : List Nat} {ex : Bool} {row : Row} {l src : List (BitVec 8)} {u : Sh} {els : List D} {k : D → Rows → Prop} (hl : live rows r = some row) (hg : rowGet row.els (i :: p) = some (.agg u (bs l))) (hn : off + len ≤ l.length)
  (hs : rowSet row.els (i :: p) (.agg u (bs (splice l off (src.take (min src.length len))))) = some els) : aCopy rows L8 (.sl L8 r (i :: p) off len ex) (bs src) k = k (.raw (it ((min src.length len : Nat) : Int))) (rows.set r (some ⟨row.sh, els⟩)) := by
 unfold aCopy
 simp only [hl, hg, bnd, bs_len, bs_take, bs_splice, hs, hn, true_and]
 rfl
theorem copy_arr0 {rows : Rows} {r n off len : Nat} {ex : Bool} {l src : List (BitVec 8)} {k : D → Rows → Prop} (hl : live rows r = some ⟨.ar n L8, [.agg (.ar n L8) (bs l)]⟩) (hn : off + len ≤ l.length) :
  aCopy rows L8 (.sl L8 r [0] off len ex) (bs src) k = k (.raw (it ((min src.length len : Nat) : Int))) (rows.set r (some ⟨.ar n L8, [.agg (.ar n L8) (bs (splice l off (src.take (min src.length len))))]⟩)) :=
 copy_arr hl rfl hn rfl
def digS (w : List (BitVec 32)) : List (BitVec 8) := (w.map wordB).flatten
theorem wordB_len (x : BitVec 32) : (wordB x).length = 4 := rfl
theorem digS_len (w : List (BitVec 32)) : (digS w).length = 4 * w.length := by
 induction w with
 | nil => rfl
 | cons x w ih => simp only [digS, List.map_cons, List.flatten_cons, List.length_append, List.length_cons] at ih ⊢; rw [ih, wordB_len]; omega
theorem digS_app (a b : List (BitVec 32)) : digS (a ++ b) = digS a ++ digS b := by simp [digS]
def fill8 (l : List (BitVec 8)) (n : Nat) : List (BitVec 8) := l ++ List.replicate (n - l.length) 0#8
theorem fill8_len {l : List (BitVec 8)} {n : Nat} (h : l.length ≤ n) : (fill8 l n).length = n := by simp [fill8]; omega
theorem fill8_splice {l x : List (BitVec 8)} {n : Nat} (h : l.length + x.length ≤ n) : splice (fill8 l n) l.length x = fill8 (l ++ x) n := by
 unfold splice fill8
 have h1 : (l ++ List.replicate (n - l.length) 0#8).take l.length = l := by simp
 have h2 : (l ++ List.replicate (n - l.length) 0#8).drop (l.length + x.length) = List.replicate (n - (l ++ x).length) 0#8 := by
  rw [List.drop_append, List.drop_eq_nil_of_le (by omega), List.nil_append, List.drop_replicate]
  congr 1; simp; omega
 rw [h1, h2]
theorem fill8_full {l : List (BitVec 8)} {n : Nat} (h : l.length = n) : fill8 l n = l := by simp [fill8, h]
noncomputable def fDigest : Fn := fn1 (rdOf h8D) (fun b => decide (b.length = 8)) fun b => (d32D (digS b), [])
theorem digest_ok (C : Ctx) (hC : CtxOK C P) : Meets C.glob P 84 (Fn.run fDigest) := by
 refine fn_meets (m_sha_Digest C hC) fun ds rows r h => ?_
 obtain ⟨d, w, rfl, rfl, hd, hp, rfl⟩ := fn1_some h
 cases rdOf_some hd
 simp only [decide_eq_true_eq] at hp
 refine ⟨rfl, afun_mk rfl ?_⟩
 clear h hd
 unfold a_sha_Digest r_sha_Digest
 simp only [h8D, ↓amD, amU, simprocAttr, zipEnv]
 refine kLoop_up 8 (fun i env rows => has env [(7, .raw (it (i : Int))), (6, .agg (.ar 8 L32) (us w)), (1, .ptr (.ar 8 L32) 0 [0]), (2, .ptr (.ar 32 L8) 1 [0]), (3, .ptr (.ar 32 L8) 2 [0])] ∧
  (∃ z, live rows 1 = some ⟨.ar 32 L8, [z]⟩) ∧ live rows 2 = some ⟨.ar 32 L8, [.agg (.ar 32 L8) (bs (fill8 (digS (w.take i)) 32))]⟩) ?_ ?_ ⟨?_, ⟨_, rfl⟩, ?_⟩
 ·rintro i hi env rows ⟨hh, ⟨z, r1⟩, r2⟩ R hR
  simp only [has] at hh
  obtain ⟨h7, h6, h1, h2, h3, -⟩ := hh
  have e0 : ((i : Int) < 8) = True := eq_true (by omega)
  have e1 : ((0 : Int) ≤ 4 * (i : Int)) = True := eq_true (by omega)
  have e2 : wz (4 * (i : Int)) = 4 * (i : Int) := wz_id (by omega)
  have e5 : (4 * (i : Int) ≤ 32) = True := eq_true (by omega)
  have e6 : (4 * (i : Int)).toNat = 4 * i := by omega
  have e9 : ((0 : Int) ≤ (i : Int)) = True := eq_true (by omega)
  have e11 := wz_succ i (by omega)
  have eg : (us w)[i]? = some (.raw (u32 (w.getD i 0#32))) := us_get (by omega)
  have hl : (digS (w.take i)).length = 4 * i := by rw [digS_len, List.length_take]; omega
  have hsp : splice (fill8 (digS (w.take i)) 32) (4 * i) ((wordB (w.getD i 0#32)).take (min 4 (32 - 4 * i))) = fill8 (digS (w.take (i + 1))) 32 := by
   have := fill8_splice (l := digS (w.take i)) (x := wordB (w.getD i 0#32)) (n := 32) (by rw [hl, wordB_len]; omega)
   rw [hl] at this
   have ht : (wordB (w.getD i 0#32)).take (min 4 (32 - 4 * i)) = wordB (w.getD i 0#32) := List.take_of_length_le (by rw [wordB_len]; omega)
   rw [ht, this, take_snoc (by omega), digS_app]
   simp [digS]
  simp only [↓amD, amU, simprocAttr, zipEnv, amR, h7, h6, h1, h2, h3, e0, e1, e2, e5, e6, e9, e11, eg, decide_true]
  refine Eq.mpr (copy_arr0 (src := wordB (w.getD i 0#32)) (live_push r2) (by rw [fill8_len (by omega)]; omega)) ?_
  rw [wordB_len, hsp]
  have hr1 : ∀ x y : Rows, live ((rows ++ x).set 2 (some ⟨.ar 32 L8, [.agg (.ar 32 L8) (bs (fill8 (digS (w.take (i + 1))) 32))]⟩)) 1 = some ⟨.ar 32 L8, [z]⟩ := fun x y => (live_set_ne (by decide)).trans (live_push r1)
  simp only [↓amD, amU, simprocAttr, zipEnv, h7, h6, h1, h2, h3, e11]
  exact hR _ _ ⟨by simp only [has, ↓amD, amU, simprocAttr, zipEnv, h6, h1, h2, h3], ⟨z, hr1 _ []⟩, live_set_same (live_push r2)⟩
 ·rintro env rows ⟨hh, ⟨z, r1⟩, r2⟩ R
  simp only [has] at hh
  obtain ⟨h7, h6, h1, h2, h3, -⟩ := hh
  have s1 : ∀ x, live (rows.set 1 (some x)) 1 = some x := fun x => live_set_same r1
  simp only [↓amD, amU, simprocAttr, zipEnv, h7, h6, h1, h2, h3, r1, r2, s1]
  have : fill8 (digS (w.take 8)) 32 = digS w := by rw [List.take_of_length_le (by omega), fill8_full (by rw [digS_len]; omega)]
  rw [this]
  exact .val _ rfl
 ·simp only [has, ↓amD, amU, simprocAttr, zipEnv]
 ·rfl
theorem kDigest (rows : Rows) (k : D → Rows → Prop) (w : List (BitVec 32)) (h : w.length = 8) : kCall fDigest rows k [.agg (.ar 8 L32) (us w)] = k (.agg (.ar 32 L8) (bs (digS w))) rows := by
 refine (kCall_val (by simp [hasRefL, hasRef, Sh.pure]) (r := (d32D (digS w), [])) ?_).trans ?_
 ·exact fn1_eq (rdOf_eq h8D_inj w) (by simp [h])
 ·simp [shift, shiftRows, d32D, Sh.pure]
def zerosN (n : BitVec 64) : Nat := ((119#64 - n % 64#64) % 64#64).toNat
def be8 (m : BitVec 64) (i : Nat) : List (BitVec 8) := (List.range i).map fun j => (m >>> (56 - 8 * j)).setWidth 8
theorem be8_succ (m : BitVec 64) (i : Nat) : be8 m (i + 1) = be8 m i ++ [(m >>> (56 - 8 * i)).setWidth 8] := by simp [be8, List.range_succ]
theorem be8_len (m : BitVec 64) (i : Nat) : (be8 m i).length = i := by simp [be8]
def padS (n : BitVec 64) : List (BitVec 8) := [128#8] ++ List.replicate (zerosN n) 0#8 ++ be8 (n <<< 3) 8
theorem zerosN_lt (n : BitVec 64) : zerosN n < 64 := by
 unfold zerosN; rw [BitVec.toNat_umod]; exact Nat.mod_lt _ (by decide)
def fPad : Fn := fn1 rd64 (fun _ => true) fun n => outBs (padS n) false
theorem pad_ok (C : Ctx) (hC : CtxOK C P) : Meets C.glob P 85 (Fn.run fPad) := by
 refine fn_meets (m_sha_Pad C hC) fun ds rows r h => ?_
 obtain ⟨d, n, rfl, rfl, hd, hp, rfl⟩ := fn1_some h
 cases rd64_some hd
 refine ⟨rfl, afun_mk rfl ?_⟩
 clear h hd
 have hz := zerosN_lt n
 have h0 : ((0 : Int) ≤ ((((119#64 - n % 64#64) % 64#64).toNat : Nat) : Int)) = True := eq_true (by omega)
 have hzn : ((119#64 - n % 64#64) % 64#64).toNat = zerosN n := rfl
 rw [hzn] at h0
 unfold a_sha_Pad r_sha_Pad
 simp only [↓amD, amU, simprocAttr, zipEnv, hzn, h0, List.length_replicate]
 refine ⟨by omega, by omega, ?_⟩
 have e : bs ([128#8] ++ List.replicate (zerosN n) 0#8 ++ be8 (n <<< 3) 0) = .raw (u8 128#8) :: List.replicate (zerosN n) (.raw (u8 0#8)) := by
  simp [be8, bs]
 have how0 : Own L8 (.sl L8 1 [] 0 (1 + zerosN n) false) [none, some ⟨L8, .raw (u8 128#8) :: List.replicate (zerosN n) (.raw (u8 0#8))⟩] (bs ([128#8] ++ List.replicate (zerosN n) 0#8 ++ be8 (n <<< 3) 0)) := by
  rw [e]
  refine .inr ⟨1, false, ?_, rfl⟩
  rw [List.length_cons, List.length_replicate, Nat.add_comm]
 refine kLoop_up 8 (fun i env rows => ∃ x, has env [(0, .raw (u64 n)), (3, x), (4, .raw (it (56 - 8 * (i : Int))))] ∧ Own L8 x rows (bs ([128#8] ++ List.replicate (zerosN n) 0#8 ++ be8 (n <<< 3) i))) ?_ ?_ ⟨_, ?_, how0⟩
 ·rintro i hi env rows ⟨x, hh, how⟩ R hR
  simp only [has] at hh
  obtain ⟨h0, h3, h4, -⟩ := hh
  have e0 : ((0 : Int) ≤ 56 - 8 * (i : Int)) = True := eq_true (by omega)
  have e1 : (56 - 8 * (i : Int)).toNat = 56 - 8 * i := by omega
  have e2 : wz (56 - 8 * (i : Int) - 8) = 56 - 8 * ((i + 1 : Nat) : Int) := by rw [wz_id (by omega)]; omega
  have hl : (bs ([128#8] ++ List.replicate (zerosN n) 0#8 ++ be8 (n <<< 3) i)).length ≤ 100 := by
   rw [bs_len, List.length_append, List.length_append, be8_len, List.length_replicate]; simp only [List.length_cons, List.length_nil]; omega
  simp only [↓amD, amU, simprocAttr, zipEnv, h0, h3, h4, e0, e1, decide_true]
  refine app_own how.push (by simp only [List.length_cons, List.length_nil]; unfold most; omega) (by simp only [List.length_cons, List.length_nil]; unfold most; omega) ?_
  intro x' rows' how' _ _ _
  simp only [↓amD, amU, simprocAttr, zipEnv, h0, h3, h4, e2]
  refine hR _ _ ⟨x', by simp only [has, ↓amD, amU, simprocAttr, zipEnv, h0], ?_⟩
  rw [be8_succ, ← List.append_assoc, bs_snoc]
  exact how'
 ·rintro env rows ⟨x, hh, how⟩ R
  simp only [has] at hh
  obtain ⟨h0, h3, h4, -⟩ := hh
  have e0 : ((0 : Int) ≤ 56 - 8 * ((8 : Nat) : Int)) = False := eq_false (by omega)
  simp only [↓amD, amU, simprocAttr, zipEnv, h0, h3, h4, e0, decide_false, how.nTup]
  exact how.expo
 ·simp only [has, ↓amD, amU, simprocAttr, zipEnv]
theorem padS_len (n : BitVec 64) : (padS n).length = 9 + zerosN n := by
 simp only [padS, List.length_append, be8_len, List.length_replicate, List.length_cons, List.length_nil]; omega
theorem kPad (rows : Rows) (k : D → Rows → Prop) (n : BitVec 64) : kCall fPad rows k [.raw (u64 n)] = k (.sl L8 (0 + rows.length) [] 0 (padS n).length false) (rows ++ [some ⟨L8, bs (padS n)⟩]) := by
 refine (kCall_val rfl (r := outBs (padS n) false) ?_).trans ?_
 ·exact fn1_eq (rd64_eq n) rfl
 ·simp [outBs, shift, shiftRows, Sh.pure]
end Job
end Go.Am
