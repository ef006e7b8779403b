/- repeated bytes -/
import Derived.Test.YtmicfjeedofokaaDoorCom
namespace Go.Am
set_option linter.unusedSimpArgs false
set_option linter.unusedVariables false
attribute [local congr] bnd_congr kCond_congr kGd_congr kPick_congr kCall_congr kIdx_congr kSlice_congr kLoop_congr cond_congr' aBin_congr aBounds_congr aApp_congr aCopy_congr kFn_congr
namespace Job
open Go.Am.F
set_option maxRecDepth 10000
def fMul64 : Fn := fn2 rd64 rd64 (fun x y => decide (x = 1#64) && decide (y.toNat < 4294967296)) fun _ y => (.tup [.raw (u64 0#64), .raw (u64 y)], [])
theorem mul64_ok (C : Ctx) (hC : CtxOK C P) : Meets C.glob P 60 (Fn.run fMul64) := by
  refine fn_meets (m_math_bits_Mul64 C hC) fun ds rows r h => ?_
  obtain ⟨d, e, x, y, rfl, rfl, hd, he, hp, rfl⟩ := fn2_some h
  cases rd64_some hd
  cases rd64_some he
  simp only [Bool.and_eq_true, decide_eq_true_eq] at hp
  obtain ⟨rfl, hy⟩ := hp
  refine ⟨rfl, afun_mk rfl ?_⟩
  clear h hd he
  unfold a_math_bits_Mul64 r_math_bits_Mul64
  have h1 : y &&& 4294967295#64 = y := by
    apply BitVec.eq_of_toNat_eq
    rw [BitVec.toNat_and]
    have : (4294967295#64).toNat = 2 ^ 32 - 1 := by decide
    rw [this, Nat.and_two_pow_sub_one_eq_mod]; omega
  have h2 : y >>> 32 = 0#64 := by
    apply BitVec.eq_of_toNat_eq
    rw [BitVec.toNat_ushiftRight, Nat.shiftRight_eq_div_pow]; simp; omega
  have h3 : 1#64 &&& 4294967295#64 = 1#64 := by decide
  have h4 : 1#64 >>> 32 = 0#64 := by decide
  have h5 : 0#64 &&& 4294967295#64 = 0#64 := by decide
  have h6 : 0#64 >>> 32 = 0#64 := by decide
  simp only [↓amD, amU, Nat.reduceBEq, Nat.reduceAdd, Nat.reduceSub, Nat.reduceMul, Nat.reduceMod, Nat.reducePow, Nat.reduceLT, Nat.reduceDiv, Int.reduceToNat, BitVec.reduceToNat, zipEnv, Int.reduceLE, Int.reduceLT, Int.reduceNeg, BitVec.reduceEq, Int.reduceAdd, Int.reduceSub, Int.reduceMul, Nat.reduceLeDiff, Int.reduceEq, h1, h2, h3, h4, h5, h6, BitVec.one_mul, BitVec.zero_mul, BitVec.mul_zero, BitVec.add_zero]
  exact .val _ rfl
theorem kMul64 (rows : Rows) (k : D → Rows → Prop) (y : BitVec 64) (h : y.toNat < 4294967296) : kCall fMul64 rows k [.raw (u64 1#64), .raw (u64 y)] = k (.tup [.raw (u64 0#64), .raw (u64 y)]) rows := by
  refine (kCall_val rfl (r := (.tup [.raw (u64 0#64), .raw (u64 y)], [])) ?_).trans ?_
  · rw [fMul64, fn2_eq (rd64_eq _) (rd64_eq _) (by simp [h])]
  · simp [shift, shiftL, shiftRows]
theorem bmul_ok (C : Ctx) (hC : CtxOK C P) (hm : C.fn 60 = some fMul64) : Meets C.glob P 48 (Fn.run fMul64) := by
  refine fn_meets (m_math_bits_Mul C hC) fun ds rows r h => ?_
  obtain ⟨d, e, x, y, rfl, rfl, hd, he, hp, rfl⟩ := fn2_some h
  cases rd64_some hd
  cases rd64_some he
  simp only [Bool.and_eq_true, decide_eq_true_eq] at hp
  obtain ⟨rfl, hy⟩ := hp
  refine ⟨rfl, afun_mk rfl ?_⟩
  clear h hd he
  unfold a_math_bits_Mul r_math_bits_Mul
  have k1 := fun rows k => kMul64 rows k y hy
  simp only [↓amD, amU, Nat.reduceBEq, Nat.reduceAdd, Nat.reduceSub, Nat.reduceMul, Nat.reduceMod, Nat.reducePow, Nat.reduceLT, Nat.reduceDiv, Int.reduceToNat, BitVec.reduceToNat, zipEnv, Int.reduceLE, Int.reduceLT, Int.reduceNeg, BitVec.reduceEq, Int.reduceAdd, Int.reduceSub, Int.reduceMul, Nat.reduceLeDiff, Int.reduceEq, hm, k1]
  exact .val _ rfl
def fRepeat : Fn := fn2 rdBs rdI (fun b n => decide (b.length = 1) && decide (0 ≤ n) && decide (n ≤ 1048576)) fun b n => outBs (List.replicate n.toNat (b.getD 0 0#8)) false
theorem rep_take (l : List (BitVec 8)) (x : BitVec 8) (bp c n : Nat) (hl : l.length = n) (h : l.take bp = List.replicate bp x) (hb : bp ≤ n) (hc : c ≤ bp) (m : Nat) (hm : m = min c (n - bp)) : (splice l bp ((l.take c).take m)).take (bp + m) = List.replicate (bp + m) x := by
  have e1 : (l.take c).take m = List.replicate m x := by
    have h2 : l.take c = List.replicate c x := by
      have := congrArg (List.take c) h
      rw [List.take_take, List.take_replicate, show min c bp = c by omega] at this
      exact this
    rw [h2, List.take_replicate, show min m c = m by omega]
  rw [splice, e1, h, List.take_append_of_le_length (by simp), List.replicate_append_replicate, List.take_of_length_le (by simp)]
theorem splice_len {α : Type} (l : List α) (off : Nat) (xs : List α) (h : off + xs.length ≤ l.length) : (splice l off xs).length = l.length := by
  simp [splice]; omega
theorem bs_spliceF (l : List (BitVec 8)) (off : Nat) (xs : List (BitVec 8)) : splice (bs l) off (bs xs) = bs (splice l off xs) := by
  simp [splice, bs]
theorem copy_own {rows : Rows} {r off len : Nat} {ex : Bool} {l src : List (BitVec 8)} {k : D → Rows → Prop} (h : live rows r = some ⟨L8, bs l⟩) (hle : off + len ≤ l.length) :
    aCopy rows L8 (.sl L8 r [] off len ex) (bs src) k = k (.raw (it (min src.length len : Nat))) (rows.set r (some ⟨L8, bs (splice l off (src.take (min src.length len)))⟩)) := by
  unfold aCopy
  simp only [h, bnd, bs_len, bs_take, bs_spliceF, hle, true_and]
  rfl
theorem repeat_ok (C : Ctx) (hC : CtxOK C P) (hm : C.fn 48 = some fMul64) : Meets C.glob P 34 (Fn.run fRepeat) := by
  refine fn_meetsN (m_bytes_Repeat C hC) fun ds rows r h => ?_
  obtain ⟨d, e, b, n, rfl, rfl, hd, he, hp, rfl⟩ := fn2_some h
  obtain ⟨x, hx⟩ := rdBs_nrm hd
  cases rdI_some he
  simp only [Bool.and_eq_true, decide_eq_true_eq] at hp
  obtain ⟨⟨hb, h0⟩, hn⟩ := hp
  obtain ⟨n, rfl⟩ := Int.eq_ofNat_of_zero_le h0
  refine ⟨rfl, _, .cons hx (.cons (.refl _) .nil), afun_mk rfl ?_⟩
  obtain ⟨b0, rfl⟩ : ∃ b0, b = [b0] := by
    match b, hb with
    | [b0], _ => exact ⟨b0, rfl⟩
  clear h hd he hx hb
  unfold a_bytes_Repeat r_bytes_Repeat
  have hbs : bs [b0] = [.raw (u8 b0)] := rfl
  have hg : [b0].getD 0 0#8 = b0 := rfl
  simp only [hbs, hg, Int.toNat_natCast]
  by_cases hz : n = 0
  · subst hz
    simp only [↓amD, amU, Nat.reduceBEq, Nat.reduceAdd, Nat.reduceSub, Nat.reduceMul, Nat.reduceMod, Nat.reducePow, Nat.reduceLT, Nat.reduceDiv, Int.reduceToNat, BitVec.reduceToNat, zipEnv, Int.reduceLE, Int.reduceLT, Int.reduceNeg, BitVec.reduceEq, Int.reduceAdd, Int.reduceSub, Int.reduceMul, Nat.reduceLeDiff, Int.reduceEq]
    exact .own L8 0 0 0 true false _ rfl rfl (fun h => by cases h)
  · have e0 : ((n : Int) = 0) = False := eq_false (by omega)
    have e1 : ((n : Int) < 0) = False := eq_false (by omega)
    have e2 : BitVec.ofInt 64 (n : Int) = BitVec.ofNat 64 n := by simp
    have hnn : (BitVec.ofNat 64 n).toNat = n := by simp; omega
    have e3 : BitVec.ofInt 64 1 = 1#64 := by decide
    have km := fun rows k => kMul64 rows k (BitVec.ofNat 64 n) (by omega)
    have e4 : (0#64 < 0#64) = False := eq_false (by decide)
    have e5 : (9223372036854775807#64 < BitVec.ofNat 64 n) = False := eq_false (by rw [BitVec.lt_def, hnn]; simp; omega)
    have e6 : wz (n : Int) = (n : Int) := wz_id (by omega)
    have main : ∀ c : Nat, c = min n 8192 → True := fun _ _ => trivial
    obtain ⟨c, hc⟩ : ∃ c, c = min n 8192 := ⟨_, rfl⟩
    have hcz : ((n : Int) = ((n : Nat) : Int)) := rfl
    have z1 : ((0 : Int) ≤ (n : Int)) = True := eq_true (by omega)
    have z2 : ((n : Int) ≤ 1099511627776) = True := eq_true (by omega)
    have z3 : ∀ l : List (BitVec 8), (l.map fun b => D.raw (.int .u8 (b.toNat : Int))) = bs l := fun _ => rfl
    by_cases hbig : 8192 < n
    all_goals
      have e7 : ((8192 : Int) < (n : Int)) = (8192 < n) := by rw [eq_iff_iff]; omega
      simp only [hbig, not_true_eq_false, not_false_eq_true] at e7
      have z4 : Int.tdiv 8192 1 = 8192 := by decide
      simp only [↓amD, amU, Nat.reduceBEq, Nat.reduceAdd, Nat.reduceSub, Nat.reduceMul, Nat.reduceMod, Nat.reducePow, Nat.reduceLT, Nat.reduceDiv, Int.reduceToNat, BitVec.reduceToNat, zipEnv, Int.reduceLE, Int.reduceLT, Int.reduceNeg, BitVec.reduceEq, Int.reduceAdd, Int.reduceSub, Int.reduceMul, Nat.reduceLeDiff, Int.reduceEq, e0, e1, e2, e3, e4, e5, e6, e7, hm, km, hnn, z1, z2, z3, z4]
      try simp only [↓amD, amU, Nat.reduceBEq, Nat.reduceAdd, Nat.reduceSub, Nat.reduceMul, Nat.reduceMod, Nat.reducePow, Nat.reduceLT, Nat.reduceDiv, Int.reduceToNat, BitVec.reduceToNat, zipEnv, Int.reduceLE, Int.reduceLT, Int.reduceNeg, BitVec.reduceEq, Int.reduceAdd, Int.reduceSub, Int.reduceMul, Nat.reduceLeDiff, Int.reduceEq, e0, e1, e2, e3, e4, e5, e6, e7, hm, km, hnn, z1, z2, z3, z4]
      intro l hl
      refine Eq.mpr (copy_own (l := l) (src := [b0]) rfl (by omega)) ?_
      have hm1 : min [b0].length (n - 0) = 1 := by simp; omega
      have hsp : (splice l 0 ([b0].take 1)).take 1 = List.replicate 1 b0 := by simp [splice]
      have hsl : (splice l 0 ([b0].take 1)).length = n := by rw [splice_len _ _ _ (by simp; omega), hl]
      rw [hm1]
      generalize splice l 0 ([b0].take 1) = l1 at *
      simp only [↓amD, amU, Nat.reduceBEq, Nat.reduceAdd, Nat.reduceSub, Nat.reduceMul, Nat.reduceMod, Nat.reducePow, Nat.reduceLT, Nat.reduceDiv, Int.reduceToNat, BitVec.reduceToNat, zipEnv, Int.reduceLE, Int.reduceLT, Int.reduceNeg, BitVec.reduceEq, Int.reduceAdd, Int.reduceSub, Int.reduceMul, Nat.reduceLeDiff, Int.reduceEq]
      refine kLoop_inv (fun k env rows => ∃ bp : Nat, ∃ l2 : List (BitVec 8), k = n - bp ∧ 1 ≤ bp ∧ bp ≤ n ∧ l2.length = n ∧ l2.take bp = List.replicate bp b0 ∧ has env [(10, .raw (it (bp : Int))), (7, .raw (it (n : Int))), (8, .raw (it (c : Int))), (9, .sl L8 0 [] 0 n (exOf (some (n : Int)) n n n false))] ∧ rows = [some ⟨L8, bs l2⟩]) ?_ (n - 1) ⟨1, l1, rfl, Nat.le_refl _, by omega, hsl, hsp, ?_, rfl⟩
      · rintro k env rows ⟨bp, l2, rfl, hb1, hbn, hl2, ht, hh, rfl⟩ R hR
        simp only [has] at hh
        obtain ⟨h10, h7, h8, h9, -⟩ := hh
        by_cases hlt : bp < n
        · have f0 : ((bp : Int) < (n : Int)) = True := eq_true (by omega)
          have f1 : min (bp : Int) (c : Int) = ((min bp c : Nat) : Int) := by omega
          have f2 : ((0 : Int) ≤ (bp : Int)) = True := eq_true (by omega)
          have f3 : ((bp : Int) ≤ (n : Int)) = True := eq_true (by omega)
          have f4 : ((0 : Int) ≤ ((min bp c : Nat) : Int)) = True := eq_true (by omega)
          have f5 : (((min bp c : Nat) : Int) ≤ (n : Int)) = True := eq_true (by omega)
          simp only [↓amD, amU, Nat.reduceBEq, Nat.reduceAdd, Nat.reduceSub, Nat.reduceMul, Nat.reduceMod, Nat.reducePow, Nat.reduceLT, Nat.reduceDiv, Int.reduceToNat, BitVec.reduceToNat, zipEnv, Int.reduceLE, Int.reduceLT, Int.reduceNeg, BitVec.reduceEq, Int.reduceAdd, Int.reduceSub, Int.reduceMul, Nat.reduceLeDiff, Int.reduceEq, h10, h7, h8, h9, f0, f1, f2, f3, f4, f5, decide_true]
          rw [Nat.sub_zero, bs_take]
          refine ⟨by rw [bs_len, List.length_take]; omega, Eq.mpr (copy_own rfl (by omega)) ?_⟩
          obtain ⟨m, hm'⟩ : ∃ m, m = min ((l2.take (min bp c)).length) (n - bp) := ⟨_, rfl⟩
          have hm2 : m = min (min bp c) (n - bp) := by rw [hm', List.length_take]; omega
          have hr := rep_take l2 b0 bp (min bp c) n hl2 ht hbn (by omega) m hm2
          have hsl2 : (splice l2 bp ((l2.take (min bp c)).take m)).length = n := by rw [splice_len _ _ _ (by rw [List.length_take, List.length_take]; omega), hl2]
          rw [← hm']
          generalize splice l2 bp ((l2.take (min bp c)).take m) = l3 at *
          have f6 : wz ((bp : Int) + (m : Int)) = ((bp + m : Nat) : Int) := by rw [wz_id (by omega)]; omega
          simp only [↓amD, amU, Nat.reduceBEq, Nat.reduceAdd, Nat.reduceSub, Nat.reduceMul, Nat.reduceMod, Nat.reducePow, Nat.reduceLT, Nat.reduceDiv, Int.reduceToNat, BitVec.reduceToNat, zipEnv, Int.reduceLE, Int.reduceLT, Int.reduceNeg, BitVec.reduceEq, Int.reduceAdd, Int.reduceSub, Int.reduceMul, Nat.reduceLeDiff, Int.reduceEq, h10, h7, h8, h9, f6]
          exact hR (n - (bp + m)) _ _ (by omega) ⟨bp + m, l3, rfl, by omega, by omega, hsl2, hr, by simp only [has, ↓amD, amU, Nat.reduceBEq, Nat.reduceAdd, Nat.reduceSub, Nat.reduceMul, Nat.reduceMod, Nat.reducePow, Nat.reduceLT, Nat.reduceDiv, Int.reduceToNat, BitVec.reduceToNat, zipEnv, Int.reduceLE, Int.reduceLT, Int.reduceNeg, BitVec.reduceEq, Int.reduceAdd, Int.reduceSub, Int.reduceMul, Nat.reduceLeDiff, Int.reduceEq, h7, h8, h9], rfl⟩
        · obtain rfl : bp = n := by omega
          have f0 : ((bp : Int) < (bp : Int)) = False := eq_false (by omega)
          rw [List.take_of_length_le (by omega)] at ht
          simp only [↓amD, amU, Nat.reduceBEq, Nat.reduceAdd, Nat.reduceSub, Nat.reduceMul, Nat.reduceMod, Nat.reducePow, Nat.reduceLT, Nat.reduceDiv, Int.reduceToNat, BitVec.reduceToNat, zipEnv, Int.reduceLE, Int.reduceLT, Int.reduceNeg, BitVec.reduceEq, Int.reduceAdd, Int.reduceSub, Int.reduceMul, Nat.reduceLeDiff, Int.reduceEq, h10, h7, h8, h9, f0, decide_false, ht]
          subst ht
          exact Own.expo (l := List.replicate bp b0) (.inr ⟨0, _, by rw [bs_len, List.length_replicate], rfl⟩)
      · simp only [has, ↓amD, amU, Nat.reduceBEq, Nat.reduceAdd, Nat.reduceSub, Nat.reduceMul, Nat.reduceMod, Nat.reducePow, Nat.reduceLT, Nat.reduceDiv, Int.reduceToNat, BitVec.reduceToNat, zipEnv, Int.reduceLE, Int.reduceLT, Int.reduceNeg, BitVec.reduceEq, Int.reduceAdd, Int.reduceSub, Int.reduceMul, Nat.reduceLeDiff, Int.reduceEq, hc, Nat.sub_zero]
        first | (rw [show min n 8192 = 8192 by omega]; rfl) | rw [show min n 8192 = n by omega]
theorem kRepeat {rows : Rows} {d : D} {b : BitVec 8} (h : BsIn rows d [b]) (n : Nat) (hn : n ≤ 1048576) (k : D → Rows → Prop) :
    kCall fRepeat rows k [d, .raw (it (n : Int))] = k (.sl L8 (0 + rows.length) [] 0 n false) (rows ++ [some ⟨L8, bs (List.replicate n b)⟩]) := by
  refine (kCall_bs_raw h (rdI_eq (n : Int)) (by simp; omega) rfl).trans ?_
  simp [outBs, shift, shiftRows, Sh.pure]
end Job
end Go.Am
namespace Go.Am
set_option linter.unusedSimpArgs false
set_option linter.unusedVariables false
attribute [local congr] bnd_congr kCond_congr kGd_congr kPick_congr kCall_congr kIdx_congr kSlice_congr kLoop_congr cond_congr' aBin_congr aBounds_congr aApp_congr aCopy_congr kFn_congr
namespace Job
open Go.Am.F
set_option maxRecDepth 10000
abbrev SF : Sh := S3
abbrev FV := Option (List (BitVec 8) × Bool)
def flD : FV → D
  | none => .raw (.pointer none)
  | some (x, e) => .cptr (.agg SF [.lst L8 (bs x) e])
theorem bs_injF {a b : List (BitVec 8)} (h : bs a = bs b) : a = b := (List.map_inj_right fun x y hxy => by cases (D.raw.inj hxy : u8 x = u8 y) |> u8_inj.1; rfl).1 h
theorem flD_inj (x y : FV) (h : flD x = flD y) : x = y := by
  rcases x with _ | ⟨x, e⟩ <;> rcases y with _ | ⟨y, f⟩
  · rfl
  · cases h
  · cases h
  · unfold flD at h
    injection h with h
    injection h with _ h
    injection h with h _
    injection h with _ h h2
    rw [bs_injF h, h2]
def flLen : FV → Nat
  | none => 0
  | some (x, _) => x.length
def errW : FV → Int → Int → Int
  | none, _, _ => 3
  | some (x, _), a, n => if a < 0 ∨ n < 0 ∨ (x.length : Int) < a ∨ (x.length : Int) - a < n then 9 else 0
def errP : FV → Int → Int
  | none, _ => 3
  | some (x, _), i => if i < 0 ∨ ((x.length / 256 : Nat) : Int) ≤ i then 9 else 0
noncomputable def fWithin : Fn := fn3 (rdOf flD) rdI rdI (fun K _ _ => decide (flLen K ≤ 1048576)) fun K a n => (.raw (it (errW K a n)), [])
theorem within_ok (C : Ctx) (hC : CtxOK C P) : Meets C.glob P 50 (Fn.run fWithin) := by
  refine fn_meets (m_flash_Flash_within C hC) fun ds rows r h => ?_
  obtain ⟨d, e, f, K, a, n, rfl, rfl, hd, he, hf, hp, rfl⟩ := fn3_some h
  cases rdOf_some hd
  cases rdI_some he
  cases rdI_some hf
  simp only [decide_eq_true_eq] at hp
  refine ⟨rfl, afun_mk rfl ?_⟩
  clear h hd he hf
  unfold a_flash_Flash_within r_flash_Flash_within
  rcases K with _ | ⟨x, e⟩
  · simp only [flD, ↓amD, amU, Nat.reduceBEq, Nat.reduceAdd, Nat.reduceSub, Nat.reduceMul, Nat.reduceMod, Nat.reducePow, Nat.reduceLT, Nat.reduceDiv, Int.reduceToNat, BitVec.reduceToNat, zipEnv, Int.reduceLE, Int.reduceLT, Int.reduceNeg, BitVec.reduceEq, Int.reduceAdd, Int.reduceSub, Int.reduceMul, Nat.reduceLeDiff, Int.reduceEq, errW]
    exact .val _ rfl
  · simp only [flLen] at hp
    simp only [flD, errW]
    by_cases c1 : a < 0
    · simp only [↓amD, amU, Nat.reduceBEq, Nat.reduceAdd, Nat.reduceSub, Nat.reduceMul, Nat.reduceMod, Nat.reducePow, Nat.reduceLT, Nat.reduceDiv, Int.reduceToNat, BitVec.reduceToNat, zipEnv, Int.reduceLE, Int.reduceLT, Int.reduceNeg, BitVec.reduceEq, Int.reduceAdd, Int.reduceSub, Int.reduceMul, Nat.reduceLeDiff, Int.reduceEq, c1, true_or, if_true]
      exact .val _ rfl
    by_cases c2 : n < 0
    · simp only [↓amD, amU, Nat.reduceBEq, Nat.reduceAdd, Nat.reduceSub, Nat.reduceMul, Nat.reduceMod, Nat.reducePow, Nat.reduceLT, Nat.reduceDiv, Int.reduceToNat, BitVec.reduceToNat, zipEnv, Int.reduceLE, Int.reduceLT, Int.reduceNeg, BitVec.reduceEq, Int.reduceAdd, Int.reduceSub, Int.reduceMul, Nat.reduceLeDiff, Int.reduceEq, c1, c2, true_or, or_true, if_true, decide_false, decide_true]
      exact .val _ rfl
    by_cases c3 : (x.length : Int) < a
    · simp only [↓amD, amU, Nat.reduceBEq, Nat.reduceAdd, Nat.reduceSub, Nat.reduceMul, Nat.reduceMod, Nat.reducePow, Nat.reduceLT, Nat.reduceDiv, Int.reduceToNat, BitVec.reduceToNat, zipEnv, Int.reduceLE, Int.reduceLT, Int.reduceNeg, BitVec.reduceEq, Int.reduceAdd, Int.reduceSub, Int.reduceMul, Nat.reduceLeDiff, Int.reduceEq, bs_len, c1, c2, c3, true_or, or_true, if_true, decide_false, decide_true]
      exact .val _ rfl
    have e1 : wz ((x.length : Int) - a) = (x.length : Int) - a := wz_id (by omega)
    by_cases c4 : (x.length : Int) - a < n
    · simp only [↓amD, amU, Nat.reduceBEq, Nat.reduceAdd, Nat.reduceSub, Nat.reduceMul, Nat.reduceMod, Nat.reducePow, Nat.reduceLT, Nat.reduceDiv, Int.reduceToNat, BitVec.reduceToNat, zipEnv, Int.reduceLE, Int.reduceLT, Int.reduceNeg, BitVec.reduceEq, Int.reduceAdd, Int.reduceSub, Int.reduceMul, Nat.reduceLeDiff, Int.reduceEq, bs_len, c1, c2, c3, c4, e1, true_or, or_true, if_true, decide_false, decide_true]
      exact .val _ rfl
    · simp only [↓amD, amU, Nat.reduceBEq, Nat.reduceAdd, Nat.reduceSub, Nat.reduceMul, Nat.reduceMod, Nat.reducePow, Nat.reduceLT, Nat.reduceDiv, Int.reduceToNat, BitVec.reduceToNat, zipEnv, Int.reduceLE, Int.reduceLT, Int.reduceNeg, BitVec.reduceEq, Int.reduceAdd, Int.reduceSub, Int.reduceMul, Nat.reduceLeDiff, Int.reduceEq, bs_len, c1, c2, c3, c4, e1, or_self, if_false, decide_false, decide_true]
      exact .val _ rfl
noncomputable def fPageE : Fn := fn2 (rdOf flD) rdI (fun K _ => decide (flLen K ≤ 1048576)) fun K i => (.raw (it (errP K i)), [])
theorem page_ok (C : Ctx) (hC : CtxOK C P) : Meets C.glob P 37 (Fn.run fPageE) := by
  refine fn_meets (m_flash_Flash_page C hC) fun ds rows r h => ?_
  obtain ⟨d, e, K, i, rfl, rfl, hd, he, hp, rfl⟩ := fn2_some h
  cases rdOf_some hd
  cases rdI_some he
  simp only [decide_eq_true_eq] at hp
  refine ⟨rfl, afun_mk rfl ?_⟩
  clear h hd he
  unfold a_flash_Flash_page r_flash_Flash_page
  rcases K with _ | ⟨x, e⟩
  · simp only [flD, ↓amD, amU, Nat.reduceBEq, Nat.reduceAdd, Nat.reduceSub, Nat.reduceMul, Nat.reduceMod, Nat.reducePow, Nat.reduceLT, Nat.reduceDiv, Int.reduceToNat, BitVec.reduceToNat, zipEnv, Int.reduceLE, Int.reduceLT, Int.reduceNeg, BitVec.reduceEq, Int.reduceAdd, Int.reduceSub, Int.reduceMul, Nat.reduceLeDiff, Int.reduceEq, errP]
    exact .val _ rfl
  · simp only [flLen] at hp
    simp only [flD, errP]
    have e1 : (x.length : Int).tdiv 256 = ((x.length / 256 : Nat) : Int) := rfl
    have e2 : wz ((x.length / 256 : Nat) : Int) = ((x.length / 256 : Nat) : Int) := wz_id (by omega)
    by_cases c1 : i < 0
    · simp only [↓amD, amU, Nat.reduceBEq, Nat.reduceAdd, Nat.reduceSub, Nat.reduceMul, Nat.reduceMod, Nat.reducePow, Nat.reduceLT, Nat.reduceDiv, Int.reduceToNat, BitVec.reduceToNat, zipEnv, Int.reduceLE, Int.reduceLT, Int.reduceNeg, BitVec.reduceEq, Int.reduceAdd, Int.reduceSub, Int.reduceMul, Nat.reduceLeDiff, Int.reduceEq, c1, true_or, if_true]
      exact .val _ rfl
    by_cases c2 : ((x.length / 256 : Nat) : Int) ≤ i
    · simp only [↓amD, amU, Nat.reduceBEq, Nat.reduceAdd, Nat.reduceSub, Nat.reduceMul, Nat.reduceMod, Nat.reducePow, Nat.reduceLT, Nat.reduceDiv, Int.reduceToNat, BitVec.reduceToNat, zipEnv, Int.reduceLE, Int.reduceLT, Int.reduceNeg, BitVec.reduceEq, Int.reduceAdd, Int.reduceSub, Int.reduceMul, Nat.reduceLeDiff, Int.reduceEq, bs_len, e1, e2, c1, c2, true_or, or_true, if_true, decide_false, decide_true]
      exact .val _ rfl
    · simp only [↓amD, amU, Nat.reduceBEq, Nat.reduceAdd, Nat.reduceSub, Nat.reduceMul, Nat.reduceMod, Nat.reducePow, Nat.reduceLT, Nat.reduceDiv, Int.reduceToNat, BitVec.reduceToNat, zipEnv, Int.reduceLE, Int.reduceLT, Int.reduceNeg, BitVec.reduceEq, Int.reduceAdd, Int.reduceSub, Int.reduceMul, Nat.reduceLeDiff, Int.reduceEq, bs_len, e1, e2, c1, c2, or_self, if_false, decide_false, decide_true]
      exact .val _ rfl
/-- does it clear bits alone? -/
def clr1 (a b : List (BitVec 8)) (i : Nat) : Prop := b.getD i 0#8 &&& ~~~ a.getD i 0#8 = 0#8
def clears (a b : List (BitVec 8)) : Prop := ∀ i, i < b.length → clr1 a b i
noncomputable def fClears : Fn := fn2 rdBs rdBs (fun a b => decide (b.length ≤ a.length) && decide (a.length ≤ 1048576)) fun a b => (.raw (.bool (open Classical in decide (clears a b))), [])
theorem clears_ok (C : Ctx) (hC : CtxOK C P) : Meets C.glob P 52 (Fn.run fClears) := by
  refine fn_meetsN (m_flash_clears C hC) fun ds rows r h => ?_
  obtain ⟨d, e, a, b, rfl, rfl, hd, he, hp, rfl⟩ := fn2_some h
  obtain ⟨x, hx⟩ := rdBs_nrm hd
  obtain ⟨y, hy⟩ := rdBs_nrm he
  simp only [Bool.and_eq_true, decide_eq_true_eq] at hp
  obtain ⟨hp, hp2⟩ := hp
  refine ⟨rfl, _, .cons hx (.cons hy .nil), afun_mk rfl ?_⟩
  clear h hd he hx hy
  unfold a_flash_clears r_flash_clears
  simp only [↓amD, amU, Nat.reduceBEq, Nat.reduceAdd, Nat.reduceSub, Nat.reduceMul, Nat.reduceMod, Nat.reducePow, Nat.reduceLT, Nat.reduceDiv, Int.reduceToNat, BitVec.reduceToNat, zipEnv, Int.reduceLE, Int.reduceLT, Int.reduceNeg, BitVec.reduceEq, Int.reduceAdd, Int.reduceSub, Int.reduceMul, Nat.reduceLeDiff, Int.reduceEq, bs_len]
  refine kLoop_up b.length (fun i env rows => has env [(9, .raw (it (i : Int))), (8, .raw (it (b.length : Int))), (7, .lst L8 (bs b) y), (0, .lst L8 (bs a) x)] ∧ rows = [] ∧ ∀ j, j < i → clr1 a b j) ?_ ?_ ⟨?_, rfl, fun j h => by omega⟩
  · rintro i hi env rows ⟨hh, rfl, hc⟩ R hR
    simp only [has] at hh
    obtain ⟨h9, h8, h7, h0, -⟩ := hh
    have e0 : ((i : Int) < (b.length : Int)) = True := eq_true (by omega)
    have e2 := wz_succ i (by omega)
    have g1 : ∀ rows k, kIdx L8 (i : Int) rows k (.lst L8 (bs b) y) = k (.cptr (.raw (u8 (b.getD i 0#8)))) rows := fun rows k => idx_bs b y i hi rows k
    have g2 : ∀ rows k, kIdx L8 (i : Int) rows k (.lst L8 (bs a) x) = k (.cptr (.raw (u8 (a.getD i 0#8)))) rows := fun rows k => idx_bs a x i (by omega) rows k
    by_cases hz : clr1 a b i
    · have hz' : b.getD i 0#8 &&& ~~~ a.getD i 0#8 = 0#8 := hz
      simp only [↓amD, amU, Nat.reduceBEq, Nat.reduceAdd, Nat.reduceSub, Nat.reduceMul, Nat.reduceMod, Nat.reducePow, Nat.reduceLT, Nat.reduceDiv, Int.reduceToNat, BitVec.reduceToNat, zipEnv, Int.reduceLE, Int.reduceLT, Int.reduceNeg, BitVec.reduceEq, Int.reduceAdd, Int.reduceSub, Int.reduceMul, Nat.reduceLeDiff, Int.reduceEq, h9, h8, h7, h0, e0, e2, g1, g2, hz', decide_true]
      exact hR _ _ ⟨by simp only [has, ↓amD, amU, Nat.reduceBEq, Nat.reduceAdd, Nat.reduceSub, Nat.reduceMul, Nat.reduceMod, Nat.reducePow, Nat.reduceLT, Nat.reduceDiv, Int.reduceToNat, BitVec.reduceToNat, zipEnv, Int.reduceLE, Int.reduceLT, Int.reduceNeg, BitVec.reduceEq, Int.reduceAdd, Int.reduceSub, Int.reduceMul, Nat.reduceLeDiff, Int.reduceEq, h8, h7, h0], rfl, fun j hj => by
        rcases Nat.lt_or_ge j i with h | h
        · exact hc j h
        · obtain rfl : j = i := by omega
          exact hz⟩
    · have hz' : (b.getD i 0#8 &&& ~~~ a.getD i 0#8 = 0#8) = False := eq_false hz
      have hno : (open Classical in decide (clears a b)) = false := by
        classical
        rw [decide_eq_false_iff_not]
        exact fun h => hz (h i hi)
      simp only [↓amD, amU, Nat.reduceBEq, Nat.reduceAdd, Nat.reduceSub, Nat.reduceMul, Nat.reduceMod, Nat.reducePow, Nat.reduceLT, Nat.reduceDiv, Int.reduceToNat, BitVec.reduceToNat, zipEnv, Int.reduceLE, Int.reduceLT, Int.reduceNeg, BitVec.reduceEq, Int.reduceAdd, Int.reduceSub, Int.reduceMul, Nat.reduceLeDiff, Int.reduceEq, h9, h8, h7, h0, e0, e2, g1, g2, hz', hno, decide_true, decide_false]
      exact .val _ rfl
  · rintro env rows ⟨hh, rfl, hc⟩ R
    simp only [has] at hh
    obtain ⟨h9, h8, h7, h0, -⟩ := hh
    have e0 : ((b.length : Int) < (b.length : Int)) = False := eq_false (by omega)
    have hy : (open Classical in decide (clears a b)) = true := by
      classical
      rw [decide_eq_true_iff]
      exact hc
    simp only [↓amD, amU, Nat.reduceBEq, Nat.reduceAdd, Nat.reduceSub, Nat.reduceMul, Nat.reduceMod, Nat.reducePow, Nat.reduceLT, Nat.reduceDiv, Int.reduceToNat, BitVec.reduceToNat, zipEnv, Int.reduceLE, Int.reduceLT, Int.reduceNeg, BitVec.reduceEq, Int.reduceAdd, Int.reduceSub, Int.reduceMul, Nat.reduceLeDiff, Int.reduceEq, h9, h8, h7, h0, e0, hy, decide_false]
    exact .val _ rfl
  · simp only [has, ↓amD, amU, Nat.reduceBEq, Nat.reduceAdd, Nat.reduceSub, Nat.reduceMul, Nat.reduceMod, Nat.reducePow, Nat.reduceLT, Nat.reduceDiv, Int.reduceToNat, BitVec.reduceToNat, zipEnv, Int.reduceLE, Int.reduceLT, Int.reduceNeg, BitVec.reduceEq, Int.reduceAdd, Int.reduceSub, Int.reduceMul, Nat.reduceLeDiff, Int.reduceEq]
noncomputable def fSize : Fn := fn1 (rdOf flD) (fun _ => true) fun K => (.raw (it (flLen K : Int)), [])
theorem size_ok (C : Ctx) (hC : CtxOK C P) : Meets C.glob P 39 (Fn.run fSize) := by
  refine fn_meets (m_flash_Flash_Size C hC) fun ds rows r h => ?_
  obtain ⟨d, K, rfl, rfl, hd, hp, rfl⟩ := fn1_some h
  cases rdOf_some hd
  refine ⟨rfl, afun_mk rfl ?_⟩
  clear h hd
  unfold a_flash_Flash_Size r_flash_Flash_Size
  rcases K with _ | ⟨x, e⟩
  · simp only [flD, ↓amD, amU, Nat.reduceBEq, Nat.reduceAdd, Nat.reduceSub, Nat.reduceMul, Nat.reduceMod, Nat.reducePow, Nat.reduceLT, Nat.reduceDiv, Int.reduceToNat, BitVec.reduceToNat, zipEnv, Int.reduceLE, Int.reduceLT, Int.reduceNeg, BitVec.reduceEq, Int.reduceAdd, Int.reduceSub, Int.reduceMul, Nat.reduceLeDiff, Int.reduceEq, flLen]
    exact .val _ rfl
  · simp only [flD, ↓amD, amU, Nat.reduceBEq, Nat.reduceAdd, Nat.reduceSub, Nat.reduceMul, Nat.reduceMod, Nat.reducePow, Nat.reduceLT, Nat.reduceDiv, Int.reduceToNat, BitVec.reduceToNat, zipEnv, Int.reduceLE, Int.reduceLT, Int.reduceNeg, BitVec.reduceEq, Int.reduceAdd, Int.reduceSub, Int.reduceMul, Nat.reduceLeDiff, Int.reduceEq, flLen, bs_len]
    exact .val _ rfl
/-- a flash, as it lies in the rows -/
structure FlAt (rows : Rows) (r m : Nat) (x : List (BitVec 8)) : Prop where
  ptr : ∃ ex, live rows r = some ⟨SF, [.agg SF [.sl L8 m [] 0 x.length ex]]⟩
  dat : live rows m = some ⟨L8, bs x⟩
theorem FlAt.view {rows : Rows} {r m : Nat} {x : List (BitVec 8)} (h : FlAt rows r m x) : ∃ e, view rows 9 (.ptr SF r [0]) = some (flD (some (x, e))) := by
  obtain ⟨⟨ex, h1⟩, h2⟩ := h
  refine ⟨ex, ?_⟩
  have he : elems rows (.sl L8 m [] 0 x.length ex) = some (bs x) := by
    simp only [elems, h2]; simp [bs_take_len]
  simp only [Am.view, h1, rowGet, List.getElem?_cons_zero, D.get, flD, Sh.pure, mapO]
  rw [he]
  simp [bs_len, mapO, he]
theorem FlAt.push {rows : Rows} {r m : Nat} {x : List (BitVec 8)} (h : FlAt rows r m x) (more : Rows) : FlAt (rows ++ more) r m x := by
  obtain ⟨⟨ex, h1⟩, h2⟩ := h
  exact ⟨⟨ex, live_push h1⟩, live_push h2⟩
theorem FlAt.set {rows : Rows} {r m : Nat} {x : List (BitVec 8)} (h : FlAt rows r m x) {q : Nat} {y : Row} (h1 : q ≠ r) (h2 : q ≠ m) : FlAt (rows.set q (some y)) r m x := by
  obtain ⟨⟨ex, g1⟩, g2⟩ := h
  exact ⟨⟨ex, live_set_o g1 h1⟩, live_set_o g2 h2⟩
/-- a flash, or none, as a callee sees it -/
def FlIn (rows : Rows) (d : D) (K : FV) : Prop := (hasRef d = true ∧ view rows 9 d = some (flD K)) ∨ (d = flD K ∧ hasRef d = false)
theorem FlAt.to {rows : Rows} {r m : Nat} {x : List (BitVec 8)} (h : FlAt rows r m x) : ∃ e, FlIn rows (.ptr SF r [0]) (some (x, e)) := by
  obtain ⟨e, h⟩ := h.view
  exact ⟨e, .inl ⟨by simp [hasRef], h⟩⟩
theorem flNil (rows : Rows) : FlIn rows (.raw (.pointer none)) none := .inr ⟨rfl, rfl⟩
theorem kCall_fl {F : Fn} {rows : Rows} {d : D} {K : FV} (h : FlIn rows d K) {vs : List D} (hv : mapO (view rows 9) vs = some vs) (hn : hasRefL vs = false) {r : D × Rows} (hF : F (flD K :: vs) [] = some r) (hr : (noLst r.1 && noLstRows r.2) = true) (k : D → Rows → Prop) :
    kCall F rows k (d :: vs) = k (shift rows.length r.1) (rows ++ shiftRows rows.length r.2) := by
  unfold kCall
  rcases h with ⟨h1, h2⟩ | ⟨rfl, h2⟩
  · simp [hasRefL, h1, mapO, h2, hv, bnd, hF, hr]
  · simp [hasRefL, h2, hn, bnd, hF]
theorem kWithin {rows : Rows} {d : D} {K : FV} (h : FlIn rows d K) (hl : flLen K ≤ 1048576) (a n : Int) (k : D → Rows → Prop) : kCall fWithin rows k [d, .raw (it a), .raw (it n)] = k (.raw (it (errW K a n))) rows := by
  refine (kCall_fl h rfl rfl (r := (.raw (it (errW K a n)), [])) ?_ rfl k).trans ?_
  · simp only [fWithin, fn3_ev, rdOf_eq flD_inj, rdI_eq, Option.bind_some, hl, decide_true, cond_true]
  · simp [shift, shiftRows]
theorem kPageE {rows : Rows} {d : D} {K : FV} (h : FlIn rows d K) (hl : flLen K ≤ 1048576) (i : Int) (k : D → Rows → Prop) : kCall fPageE rows k [d, .raw (it i)] = k (.raw (it (errP K i))) rows := by
  refine (kCall_fl h rfl rfl (r := (.raw (it (errP K i)), [])) ?_ rfl k).trans ?_
  · simp only [fPageE, fn2_ev, rdOf_eq flD_inj, rdI_eq, Option.bind_some, hl, decide_true, cond_true]
  · simp [shift, shiftRows]
theorem kSize {rows : Rows} {d : D} {K : FV} (h : FlIn rows d K) (k : D → Rows → Prop) : kCall fSize rows k [d] = k (.raw (it (flLen K : Int))) rows := by
  refine (kCall_fl h (vs := []) rfl rfl (r := (.raw (it (flLen K : Int)), [])) ?_ rfl k).trans ?_
  · simp only [fSize, fn1_ev, rdOf_eq flD_inj, Option.bind_some, cond_true]
  · simp [shift, shiftRows]
theorem kClears {rows : Rows} {d e : D} {a b : List (BitVec 8)} (h : BsIn rows d a) (h' : BsIn rows e b) (hb : b.length ≤ a.length) (ha : a.length ≤ 1048576) (k : D → Rows → Prop) : kCall fClears rows k [d, e] = k (.raw (.bool (open Classical in decide (clears a b)))) rows := by
  refine (kCall_bs2 h h' (by simp [hb, ha]) rfl).trans ?_
  simp [shift, shiftRows]
end Job
end Go.Am
namespace Go.Am
set_option linter.unusedSimpArgs false
set_option linter.unusedVariables false
attribute [local congr] bnd_congr kCond_congr kGd_congr kPick_congr kCall_congr kIdx_congr kSlice_congr kLoop_congr cond_congr' aBin_congr aBounds_congr aApp_congr aCopy_congr kFn_congr
namespace Job
open Go.Am.F
set_option maxRecDepth 10000
theorem errW_0 {x : List (BitVec 8)} {e : Bool} {a n : Int} (h : errW (some (x, e)) a n = 0) : 0 ≤ a ∧ 0 ≤ n ∧ a ≤ x.length ∧ n ≤ x.length - a := by
  simp only [errW] at h
  split at h
  · cases h
  · omega
theorem errP_0 {x : List (BitVec 8)} {e : Bool} {i : Int} (h : errP (some (x, e)) i = 0) : 0 ≤ i ∧ 256 * i + 256 ≤ x.length := by
  simp only [errP] at h
  split at h
  · cases h
  · omega
def sub (x : List (BitVec 8)) (a n : Nat) : List (BitVec 8) := (x.drop a).take n
theorem sub_len {x : List (BitVec 8)} {a n : Nat} (h : a + n ≤ x.length) : (sub x a n).length = n := by
  rw [sub, List.length_take, List.length_drop]; omega
def flDat : FV → List (BitVec 8)
  | none => []
  | some (x, _) => x
def outR (K : FV) (a n : Int) : D × Rows :=
  if errW K a n = 0 then (.tup [.sl L8 0 [] 0 n.toNat false, .raw (it 0)], [some ⟨L8, bs (sub (flDat K) a.toNat n.toNat)⟩]) else (.tup [.raw (.slice none 0 0), .raw (it (errW K a n))], [])
noncomputable def fRead : Fn := fn3 (rdOf flD) rdI rdI (fun K _ _ => decide (flLen K ≤ 1048576)) outR
theorem lstIn (rows : Rows) (l : List (BitVec 8)) (e : Bool) : BsIn rows (.lst L8 (bs l) e) l := IsBs.to (.inr ⟨e, rfl⟩)
theorem flIn_c (rows : Rows) (K : FV) : FlIn rows (flD K) K := by
  refine .inr ⟨rfl, ?_⟩
  rcases K with _ | ⟨x, e⟩ <;> simp [flD, hasRef, hasRefL, Sh.pure]
theorem read_ok (C : Ctx) (hC : CtxOK C P) (hw : C.fn 50 = some fWithin) (hc : C.fn 51 = some fClone) : Meets C.glob P 36 (Fn.run fRead) := by
  refine fn_meets (m_flash_Flash_Read C hC) fun ds rows r h => ?_
  obtain ⟨d, e, f, K, a, n, rfl, rfl, hd, he, hf, hp, rfl⟩ := fn3_some h
  cases rdOf_some hd
  cases rdI_some he
  cases rdI_some hf
  simp only [decide_eq_true_eq] at hp
  refine ⟨rfl, afun_mk rfl ?_⟩
  clear h hd he hf
  unfold a_flash_Flash_Read r_flash_Flash_Read
  have k1 := fun rows k => kWithin (flIn_c rows K) hp a n k
  by_cases h0 : errW K a n = 0
  · rw [outR, if_pos h0]
    rcases K with _ | ⟨x, e⟩
    · cases h0
    simp only [flLen] at hp
    obtain ⟨b1, b2, b3, b4⟩ := errW_0 h0
    rw [h0] at k1
    obtain ⟨a, rfl⟩ := Int.eq_ofNat_of_zero_le b1
    obtain ⟨n, rfl⟩ := Int.eq_ofNat_of_zero_le b2
    have e1 : wz ((a : Int) + (n : Int)) = ((a + n : Nat) : Int) := by rw [wz_id (by omega)]; omega
    have e2 : ((0 : Int) ≤ (a : Int)) = True := eq_true (by omega)
    have e3 : ((a : Int) ≤ ((a + n : Nat) : Int)) = True := eq_true (by omega)
    have e4 : (((a + n : Nat) : Int) ≤ (x.length : Int)) = True := eq_true (by omega)
    have e5 : a + n - a = n := by omega
    have hsl : (sub x a n).length = n := sub_len (by omega)
    have kc := fun rows k e => kClone rows k (.lst L8 (bs (sub x a n)) e) (sub x a n) (lstIn rows _ e) (by omega)
    rw [hsl] at kc
    have hsb : ((x.drop a).take n) = sub x a n := rfl
    simp only [flD] at k1 ⊢
    simp only [↓amD, amU, Nat.reduceBEq, Nat.reduceAdd, Nat.reduceSub, Nat.reduceMul, Nat.reduceMod, Nat.reducePow, Nat.reduceLT, Nat.reduceDiv, Int.reduceToNat, BitVec.reduceToNat, zipEnv, Int.reduceLE, Int.reduceLT, Int.reduceNeg, BitVec.reduceEq, Int.reduceAdd, Int.reduceSub, Int.reduceMul, Nat.reduceLeDiff, Int.reduceEq, hw, k1, hc, kc, bs_len, bs_drop, bs_take, hsb, e1, e2, e3, e4, e5, flDat]
    exact .ownT L8 0 0 n _ false _ _ rfl rfl rfl (fun h => by cases h)
  · rw [outR, if_neg h0]
    have h1 : (errW K a n = 0) = False := eq_false h0
    simp only [↓amD, amU, Nat.reduceBEq, Nat.reduceAdd, Nat.reduceSub, Nat.reduceMul, Nat.reduceMod, Nat.reducePow, Nat.reduceLT, Nat.reduceDiv, Int.reduceToNat, BitVec.reduceToNat, zipEnv, Int.reduceLE, Int.reduceLT, Int.reduceNeg, BitVec.reduceEq, Int.reduceAdd, Int.reduceSub, Int.reduceMul, Nat.reduceLeDiff, Int.reduceEq, hw, k1, h1]
    exact .val _ rfl
theorem kRead {rows : Rows} {d : D} {K : FV} (h : FlIn rows d K) (hl : flLen K ≤ 1048576) (a n : Int) (k : D → Rows → Prop) : kCall fRead rows k [d, .raw (it a), .raw (it n)] = k (shift rows.length (outR K a n).1) (rows ++ shiftRows rows.length (outR K a n).2) := by
  refine kCall_fl h rfl rfl (r := outR K a n) ?_ ?_ k
  · simp only [fRead, fn3_ev, rdOf_eq flD_inj, rdI_eq, Option.bind_some, hl, decide_true, cond_true]
  · unfold outR; split <;> rfl
theorem kRead_ok {rows : Rows} {r m : Nat} {x : List (BitVec 8)} (h : FlAt rows r m x) (hl : x.length ≤ 1048576) (a n : Nat) (ha : a + n ≤ x.length) (k : D → Rows → Prop) :
    kCall fRead rows k [.ptr SF r [0], .raw (it (a : Int)), .raw (it (n : Int))] = k (.tup [.sl L8 rows.length [] 0 n false, .raw (it 0)]) (rows ++ [some ⟨L8, bs (sub x a n)⟩]) := by
  obtain ⟨e, h⟩ := h.to
  rw [kRead h hl]
  have h0 : errW (some (x, e)) (a : Int) (n : Int) = 0 := by
    simp only [errW]; rw [if_neg (by omega)]
  rw [outR, if_pos h0]
  simp [shift, shiftL, shiftRows, Sh.pure, flDat]
/-- blank? -/
def all255 (l : List (BitVec 8)) : Prop := ∀ i, i < l.length → l.getD i 0#8 = 255#8
noncomputable def blankB (K : FV) (f p : Int) : Bool := open Classical in
  if p < 0 ∨ 1024 < p ∨ f < 0 ∨ 1024 < f ∨ errW K (256 * f) (256 * p) ≠ 0 then false else decide (all255 (sub (flDat K) (256 * f.toNat) (256 * p.toNat)))
noncomputable def fBlank : Fn := fn3 (rdOf flD) rdI rdI (fun K _ _ => decide (flLen K ≤ 1048576)) fun K f p => (.raw (.bool (blankB K f p)), [])
theorem kBlank {rows : Rows} {d : D} {K : FV} (h : FlIn rows d K) (hl : flLen K ≤ 1048576) (a n : Int) (k : D → Rows → Prop) : kCall fBlank rows k [d, .raw (it a), .raw (it n)] = k (.raw (.bool (blankB K a n))) rows := by
  refine (kCall_fl h rfl rfl (r := (.raw (.bool (blankB K a n)), [])) ?_ rfl k).trans ?_
  · simp only [fBlank, fn3_ev, rdOf_eq flD_inj, rdI_eq, Option.bind_some, hl, decide_true, cond_true]
  · simp [shift, shiftRows]
end Job
end Go.Am
namespace Go.Am
set_option linter.unusedSimpArgs false
set_option linter.unusedVariables false
attribute [local congr] bnd_congr kCond_congr kGd_congr kPick_congr kCall_congr kIdx_congr kSlice_congr kLoop_congr cond_congr' aBin_congr aBounds_congr aApp_congr aCopy_congr kFn_congr
namespace Job
open Go.Am.F
set_option maxRecDepth 10000
def pgN (K : FV) (l : List Int) : Nat → List (BitVec 8)
  | 0 => []
  | i + 1 => if errP K (l.getD i 0) = 0 then pgN K l i ++ sub (flDat K) (256 * (l.getD i 0).toNat) 256 else pgN K l i
theorem pgN_len (K : FV) (l : List Int) : ∀ i, (pgN K l i).length ≤ 256 * i
  | 0 => by simp [pgN]
  | i + 1 => by
    have := pgN_len K l i
    rw [pgN]
    split
    · rw [List.length_append, sub, List.length_take]; omega
    · omega
def itD (n : Int) : D := .raw (it n)
theorem itD_inj (x y : Int) (h : itD x = itD y) : x = y := by unfold itD at h; injection h with h; exact it_inj.1 h
noncomputable def fPages : Fn := fn2 (rdOf flD) (rdLst LI itD) (fun K l => decide (flLen K ≤ 1048576) && decide (l.length ≤ 64)) fun K l => outBs (pgN K l l.length) false
theorem pages_ok (C : Ctx) (hC : CtxOK C P) (hp : C.fn 37 = some fPageE) : Meets C.glob P 23 (Fn.run fPages) := by
  refine fn_meetsN (m_flash_Flash_Pages C hC) fun ds rows r h => ?_
  obtain ⟨d, e, K, l, rfl, rfl, hd, he, hpre, rfl⟩ := fn2_some h
  cases rdOf_some hd
  obtain ⟨x, hx⟩ := rdLst_nrm he
  simp only [Bool.and_eq_true, decide_eq_true_eq] at hpre
  obtain ⟨hK, hl⟩ := hpre
  refine ⟨rfl, _, .cons (.refl _) (.cons hx .nil), afun_mk rfl ?_⟩
  clear h hd he hx
  unfold a_flash_Flash_Pages r_flash_Flash_Pages
  simp only [↓amD, amU, Nat.reduceBEq, Nat.reduceAdd, Nat.reduceSub, Nat.reduceMul, Nat.reduceMod, Nat.reducePow, Nat.reduceLT, Nat.reduceDiv, Int.reduceToNat, BitVec.reduceToNat, zipEnv, Int.reduceLE, Int.reduceLT, Int.reduceNeg, BitVec.reduceEq, Int.reduceAdd, Int.reduceSub, Int.reduceMul, Nat.reduceLeDiff, Int.reduceEq, List.length_map]
  refine kLoop_up l.length (fun i env rows => has env [(10, .raw (it (i : Int))), (9, .raw (it (l.length : Int))), (8, .lst LI (l.map itD) x), (0, flD K)] ∧ ∃ d, look env 5 = some d ∧ Own L8 d rows (bs (pgN K l i))) ?_ ?_ ⟨?_, .raw (.slice none 0 0), ?_, .inl ⟨rfl, rfl⟩⟩
  · rintro i hi env rows ⟨hh, d, h5, hO⟩ R hR
    simp only [has] at hh
    obtain ⟨h10, h9, h8, h0, -⟩ := hh
    have e0 : ((i : Int) < (l.length : Int)) = True := eq_true (by omega)
    have e1 : ((0 : Int) ≤ (i : Int)) = True := eq_true (by omega)
    have e2 := wz_succ i (by omega)
    have g1 : (l.map itD)[i]? = some (.raw (it (l.getD i 0))) := by simp [itD, List.getD, hi]
    have k1 := fun rows k => kPageE (flIn_c rows K) hK (l.getD i 0) k
    have hlen := pgN_len K l i
    by_cases hz : errP K (l.getD i 0) = 0
    · have hn : pgN K l (i + 1) = pgN K l i ++ sub (flDat K) (256 * (l.getD i 0).toNat) 256 := by rw [pgN, if_pos hz]
      rw [hn] at hR
      rw [hz] at k1
      rcases K with _ | ⟨y, e⟩
      · cases hz
      obtain ⟨b1, b2⟩ := errP_0 hz
      obtain ⟨j, hj⟩ := Int.eq_ofNat_of_zero_le b1
      rw [hj] at g1 k1 hR b2
      simp only [flLen] at hK
      have w1 : wz (256 * (j : Int)) = ((256 * j : Nat) : Int) := by rw [wz_id (by omega)]; omega
      have w2 : wz ((j : Int) + 1) = ((j + 1 : Nat) : Int) := by rw [wz_id (by omega)]; omega
      have w3 : wz (256 * ((j + 1 : Nat) : Int)) = ((256 * j + 256 : Nat) : Int) := by rw [wz_id (by omega)]; omega
      have f1 : ((0 : Int) ≤ ((256 * j : Nat) : Int)) = True := eq_true (by omega)
      have f2 : (((256 * j : Nat) : Int) ≤ ((256 * j + 256 : Nat) : Int)) = True := eq_true (by omega)
      have f3 : (((256 * j + 256 : Nat) : Int) ≤ (y.length : Int)) = True := eq_true (by omega)
      have f4 : 256 * j + 256 - 256 * j = 256 := by omega
      have hsb : ((y.drop (256 * j)).take 256) = sub y (256 * j) 256 := rfl
      have hsl : (sub y (256 * j) 256).length = 256 := sub_len (by omega)
      simp only [flD] at k1 h0
      simp only [flDat, Int.toNat_natCast] at hR
      simp only [↓amD, amU, Nat.reduceBEq, Nat.reduceAdd, Nat.reduceSub, Nat.reduceMul, Nat.reduceMod, Nat.reducePow, Nat.reduceLT, Nat.reduceDiv, Int.reduceToNat, BitVec.reduceToNat, zipEnv, Int.reduceLE, Int.reduceLT, Int.reduceNeg, BitVec.reduceEq, Int.reduceAdd, Int.reduceSub, Int.reduceMul, Nat.reduceLeDiff, Int.reduceEq, List.length_map, h10, h9, h8, h0, h5, e0, e1, e2, g1, hp, k1, w1, w2, w3, f1, f2, f3, f4, bs_len, bs_drop, bs_take, hsb, hsl, decide_true]
      refine app_own hO (by rw [bs_len, bs_len, hsl]; simp [most]; omega) (by rw [bs_len, bs_len, hsl]; simp [most]; omega) fun d' rows' hO' hfr hlen' _ => ?_
      rw [bs_app] at hO'
      simp only [↓amD, amU, Nat.reduceBEq, Nat.reduceAdd, Nat.reduceSub, Nat.reduceMul, Nat.reduceMod, Nat.reducePow, Nat.reduceLT, Nat.reduceDiv, Int.reduceToNat, BitVec.reduceToNat, zipEnv, Int.reduceLE, Int.reduceLT, Int.reduceNeg, BitVec.reduceEq, Int.reduceAdd, Int.reduceSub, Int.reduceMul, Nat.reduceLeDiff, Int.reduceEq, h10, h9, h8, h0, e2]
      exact hR _ _ ⟨by simp only [has, ↓amD, amU, Nat.reduceBEq, Nat.reduceAdd, Nat.reduceSub, Nat.reduceMul, Nat.reduceMod, Nat.reducePow, Nat.reduceLT, Nat.reduceDiv, Int.reduceToNat, BitVec.reduceToNat, zipEnv, Int.reduceLE, Int.reduceLT, Int.reduceNeg, BitVec.reduceEq, Int.reduceAdd, Int.reduceSub, Int.reduceMul, Nat.reduceLeDiff, Int.reduceEq, h9, h8, h0, flD], d', by simp only [↓amD, amU, Nat.reduceBEq, Nat.reduceAdd, Nat.reduceSub, Nat.reduceMul, Nat.reduceMod, Nat.reducePow, Nat.reduceLT, Nat.reduceDiv, Int.reduceToNat, BitVec.reduceToNat, zipEnv, Int.reduceLE, Int.reduceLT, Int.reduceNeg, BitVec.reduceEq, Int.reduceAdd, Int.reduceSub, Int.reduceMul, Nat.reduceLeDiff, Int.reduceEq], hO'⟩
    · have hn : pgN K l (i + 1) = pgN K l i := by rw [pgN, if_neg hz]
      rw [hn] at hR
      have hz' : (errP K (l.getD i 0) = 0) = False := eq_false hz
      simp only [↓amD, amU, Nat.reduceBEq, Nat.reduceAdd, Nat.reduceSub, Nat.reduceMul, Nat.reduceMod, Nat.reducePow, Nat.reduceLT, Nat.reduceDiv, Int.reduceToNat, BitVec.reduceToNat, zipEnv, Int.reduceLE, Int.reduceLT, Int.reduceNeg, BitVec.reduceEq, Int.reduceAdd, Int.reduceSub, Int.reduceMul, Nat.reduceLeDiff, Int.reduceEq, List.length_map, h10, h9, h8, h0, h5, e0, e1, e2, g1, hp, k1, hz', decide_true, decide_false]
      exact hR _ _ ⟨by simp only [has, ↓amD, amU, Nat.reduceBEq, Nat.reduceAdd, Nat.reduceSub, Nat.reduceMul, Nat.reduceMod, Nat.reducePow, Nat.reduceLT, Nat.reduceDiv, Int.reduceToNat, BitVec.reduceToNat, zipEnv, Int.reduceLE, Int.reduceLT, Int.reduceNeg, BitVec.reduceEq, Int.reduceAdd, Int.reduceSub, Int.reduceMul, Nat.reduceLeDiff, Int.reduceEq, h9, h8, h0], d, by simp only [↓amD, amU, Nat.reduceBEq, Nat.reduceAdd, Nat.reduceSub, Nat.reduceMul, Nat.reduceMod, Nat.reducePow, Nat.reduceLT, Nat.reduceDiv, Int.reduceToNat, BitVec.reduceToNat, zipEnv, Int.reduceLE, Int.reduceLT, Int.reduceNeg, BitVec.reduceEq, Int.reduceAdd, Int.reduceSub, Int.reduceMul, Nat.reduceLeDiff, Int.reduceEq, h5], hO⟩
  · rintro env rows ⟨hh, d, h5, hO⟩ R
    simp only [has] at hh
    obtain ⟨h10, h9, h8, h0, -⟩ := hh
    have e0 : ((l.length : Int) < (l.length : Int)) = False := eq_false (by omega)
    simp only [↓amD, amU, Nat.reduceBEq, Nat.reduceAdd, Nat.reduceSub, Nat.reduceMul, Nat.reduceMod, Nat.reducePow, Nat.reduceLT, Nat.reduceDiv, Int.reduceToNat, BitVec.reduceToNat, zipEnv, Int.reduceLE, Int.reduceLT, Int.reduceNeg, BitVec.reduceEq, Int.reduceAdd, Int.reduceSub, Int.reduceMul, Nat.reduceLeDiff, Int.reduceEq, h10, h9, h8, h0, h5, e0, hO.nTup, decide_false]
    exact hO.expo
  · simp only [has, ↓amD, amU, Nat.reduceBEq, Nat.reduceAdd, Nat.reduceSub, Nat.reduceMul, Nat.reduceMod, Nat.reducePow, Nat.reduceLT, Nat.reduceDiv, Int.reduceToNat, BitVec.reduceToNat, zipEnv, Int.reduceLE, Int.reduceLT, Int.reduceNeg, BitVec.reduceEq, Int.reduceAdd, Int.reduceSub, Int.reduceMul, Nat.reduceLeDiff, Int.reduceEq]
  · simp only [↓amD, amU, Nat.reduceBEq, Nat.reduceAdd, Nat.reduceSub, Nat.reduceMul, Nat.reduceMod, Nat.reducePow, Nat.reduceLT, Nat.reduceDiv, Int.reduceToNat, BitVec.reduceToNat, zipEnv, Int.reduceLE, Int.reduceLT, Int.reduceNeg, BitVec.reduceEq, Int.reduceAdd, Int.reduceSub, Int.reduceMul, Nat.reduceLeDiff, Int.reduceEq]
theorem kPages {rows : Rows} {d : D} {K : FV} (h : view rows 9 d = some (flD K)) (hl : flLen K ≤ 1048576) {q : Nat} {ex : Bool} {l : List Int} (hq : live rows q = some ⟨LI, l.map itD⟩) (hll : l.length ≤ 64) (k : D → Rows → Prop) :
    kCall fPages rows k [d, .sl LI q [] 0 l.length ex] = k (.sl L8 (0 + rows.length) [] 0 (pgN K l l.length).length false) (rows ++ [some ⟨L8, bs (pgN K l l.length)⟩]) := by
  have hv : view rows 9 (.sl LI q [] 0 l.length ex) = some (.lst LI (l.map itD) ex) := by
    have : elems rows (.sl LI q [] 0 l.length ex) = some (l.map itD) := by
      simp only [elems, hq]; simp [List.take_of_length_le]
    simp only [view]
    rw [this]
    simp [Sh.pure]
  have hf : fPages [flD K, .lst LI (l.map itD) ex] [] = some (outBs (pgN K l l.length) false) := by
    rw [fPages, fn2_eq (rdOf_eq flD_inj K) (rdLst_eq itD_inj l ex) (by simp [hl, hll])]
  unfold kCall
  simp [hasRefL, hasRef, mapO, h, hv, hf, bnd, outBs, shift, shiftRows, Sh.pure, noLst, noLstRows]
/-- four arguments -/
def fn4 {α β γ δ : Type} (rd : D → Option α) (rd' : D → Option β) (rd2 : D → Option γ) (rd3 : D → Option δ) (pre : α → β → γ → δ → Bool) (out : α → β → γ → δ → D × Rows) : Fn
  | [d, e, f, g], [] => match rd d, rd' e, rd2 f, rd3 g with
    | some x, some y, some z, some w => bif pre x y z w then some (out x y z w) else none
    | _, _, _, _ => none
  | _, _ => none
theorem fn4_some {α β γ δ : Type} {rd : D → Option α} {rd' : D → Option β} {rd2 : D → Option γ} {rd3 : D → Option δ} {pre : α → β → γ → δ → Bool} {out : α → β → γ → δ → D × Rows} {ds : List D} {rows : Rows} {r : D × Rows} (h : fn4 rd rd' rd2 rd3 pre out ds rows = some r) :
    ∃ d e f g x y z w, ds = [d, e, f, g] ∧ rows = [] ∧ rd d = some x ∧ rd' e = some y ∧ rd2 f = some z ∧ rd3 g = some w ∧ pre x y z w = true ∧ r = out x y z w := by
  unfold fn4 at h
  split at h
  · rename_i d e f g
    split at h
    · rename_i x y z w hx hy hz hw
      cases hp : pre x y z w with
      | false => rw [hp] at h; cases h
      | true => rw [hp] at h; cases h; exact ⟨d, e, f, g, x, y, z, w, rfl, rfl, hx, hy, hz, hw, hp, rfl⟩
    · cases h
  · cases h
theorem fn4_eq {α β γ δ : Type} {rd : D → Option α} {rd' : D → Option β} {rd2 : D → Option γ} {rd3 : D → Option δ} {pre : α → β → γ → δ → Bool} {out : α → β → γ → δ → D × Rows} {d e f g : D} {x : α} {y : β} {z : γ} {w : δ} (h1 : rd d = some x) (h2 : rd' e = some y) (h3 : rd2 f = some z) (h4 : rd3 g = some w) (hp : pre x y z w = true) :
    fn4 rd rd' rd2 rd3 pre out [d, e, f, g] [] = some (out x y z w) := by
  simp [fn4, h1, h2, h3, h4, hp]
/-- the error, and what would be -/
noncomputable def errA (K : FV) (i a : Int) (p : List (BitVec 8)) : Int := open Classical in
  if errP K i ≠ 0 then errP K i else if p = [] then 0 else if a < 0 ∨ 256 < a ∨ 256 - a < (p.length : Int) then 9 else if clears ((sub (flDat K) (256 * i.toNat) 256).drop a.toNat) p then 0 else 14
def datA (K : FV) (i a : Int) (p : List (BitVec 8)) : List (BitVec 8) := if p = [] then List.replicate 256 255#8 else splice (sub (flDat K) (256 * i.toNat) 256) a.toNat p
noncomputable def outA (K : FV) (i a : Int) (p : List (BitVec 8)) : D × Rows :=
  if errA K i a p = 0 then (.tup [.sl L8 0 [] 0 256 false, .raw (it 0)], [some ⟨L8, bs (datA K i a p)⟩]) else (.tup [.raw (.slice none 0 0), .raw (it (errA K i a p))], [])
noncomputable def fAfter : Fn := fn4 (rdOf flD) rdI rdI rdBs (fun K _ _ p => decide (flLen K ≤ 1048576) && decide (p.length ≤ 1048576)) outA
theorem after_ok (C : Ctx) (hC : CtxOK C P) (hp : C.fn 37 = some fPageE) (hc : C.fn 51 = some fClone) (hcl : C.fn 52 = some fClears) (hrp : C.fn 34 = some fRepeat) : Meets C.glob P 41 (Fn.run fAfter) := by
  refine fn_meetsN (m_flash_Flash_After C hC) fun ds rows r h => ?_
  obtain ⟨d, e, f, g, K, i, a, p, rfl, rfl, hd, he, hf, hg, hpre, rfl⟩ := fn4_some h
  cases rdOf_some hd
  cases rdI_some he
  cases rdI_some hf
  obtain ⟨x, hx⟩ := rdBs_nrm hg
  simp only [Bool.and_eq_true, decide_eq_true_eq] at hpre
  obtain ⟨hK, hpl⟩ := hpre
  refine ⟨rfl, _, .cons (.refl _) (.cons (.refl _) (.cons (.refl _) (.cons hx .nil))), afun_mk rfl ?_⟩
  clear h hd he hf hg hx
  unfold a_flash_Flash_After r_flash_Flash_After
  have k1 := fun rows k => kPageE (flIn_c rows K) hK i k
  by_cases h0 : errP K i = 0
  · rw [h0] at k1
    rcases K with _ | ⟨y, e⟩
    · cases h0
    obtain ⟨b1, b2⟩ := errP_0 h0
    simp only [flLen] at hK
    obtain ⟨i, rfl⟩ := Int.eq_ofNat_of_zero_le b1
    by_cases hpn : p = []
    · subst hpn
      have hA : errA (some (y, e)) (i : Int) a [] = 0 := by rw [errA, if_neg (by rw [h0]; simp), if_pos rfl]
      rw [outA, if_pos hA, datA, if_pos rfl]
      have kr : ∀ k, kCall fRepeat [some ⟨L8, [.raw (u8 255#8)]⟩] k [.sl L8 0 [] 0 1 true, .raw (it 256)] = k (.sl L8 1 [] 0 256 false) [some ⟨L8, [.raw (u8 255#8)]⟩, some ⟨L8, bs (List.replicate 256 255#8)⟩] := fun k =>
        kRepeat (rows := [some ⟨L8, [.raw (u8 255#8)]⟩]) (b := 255#8) (BsIn.own rfl _ rfl) 256 (by omega) k
      have hb0 : bs ([] : List (BitVec 8)) = [] := rfl
      generalize List.replicate 256 255#8 = z at *
      simp only [flD] at k1 ⊢
      simp only [↓amD, amU, Nat.reduceBEq, Nat.reduceAdd, Nat.reduceSub, Nat.reduceMul, Nat.reduceMod, Nat.reducePow, Nat.reduceLT, Nat.reduceDiv, Int.reduceToNat, BitVec.reduceToNat, zipEnv, Int.reduceLE, Int.reduceLT, Int.reduceNeg, BitVec.reduceEq, Int.reduceAdd, Int.reduceSub, Int.reduceMul, Nat.reduceLeDiff, Int.reduceEq, hp, k1, hb0, hrp, kr]
      exact .ownT L8 1 0 256 false false _ _ rfl rfl rfl (fun h => by cases h)
    · have hpz : ((p.length : Int) = 0) = False := eq_false (by have : p.length ≠ 0 := fun h => hpn (List.eq_nil_of_length_eq_zero h); omega)
      have hA0 : errA (some (y, e)) (i : Int) a p = (open Classical in if a < 0 ∨ 256 < a ∨ 256 - a < (p.length : Int) then 9 else if clears ((sub y (256 * i) 256).drop a.toNat) p then 0 else 14) := by
        rw [errA, if_neg (by rw [h0]; simp), if_neg hpn]; rfl
      by_cases c1 : a < 0
      · rw [if_pos (.inl c1)] at hA0
        rw [outA, if_neg (by rw [hA0]; decide), hA0]
        simp only [flD] at k1 ⊢
        simp only [↓amD, amU, Nat.reduceBEq, Nat.reduceAdd, Nat.reduceSub, Nat.reduceMul, Nat.reduceMod, Nat.reducePow, Nat.reduceLT, Nat.reduceDiv, Int.reduceToNat, BitVec.reduceToNat, zipEnv, Int.reduceLE, Int.reduceLT, Int.reduceNeg, BitVec.reduceEq, Int.reduceAdd, Int.reduceSub, Int.reduceMul, Nat.reduceLeDiff, Int.reduceEq, hp, k1, bs_len, hpz, c1, decide_true, decide_false]
        exact .val _ rfl
      by_cases c2 : 256 < a
      · rw [if_pos (.inr (.inl c2))] at hA0
        rw [outA, if_neg (by rw [hA0]; decide), hA0]
        simp only [flD] at k1 ⊢
        simp only [↓amD, amU, Nat.reduceBEq, Nat.reduceAdd, Nat.reduceSub, Nat.reduceMul, Nat.reduceMod, Nat.reducePow, Nat.reduceLT, Nat.reduceDiv, Int.reduceToNat, BitVec.reduceToNat, zipEnv, Int.reduceLE, Int.reduceLT, Int.reduceNeg, BitVec.reduceEq, Int.reduceAdd, Int.reduceSub, Int.reduceMul, Nat.reduceLeDiff, Int.reduceEq, hp, k1, bs_len, hpz, c1, c2, decide_true, decide_false]
        exact .val _ rfl
      have w0 : wz (256 - a) = 256 - a := wz_id (by omega)
      by_cases c3 : 256 - a < (p.length : Int)
      · rw [if_pos (.inr (.inr c3))] at hA0
        rw [outA, if_neg (by rw [hA0]; decide), hA0]
        simp only [flD] at k1 ⊢
        simp only [↓amD, amU, Nat.reduceBEq, Nat.reduceAdd, Nat.reduceSub, Nat.reduceMul, Nat.reduceMod, Nat.reducePow, Nat.reduceLT, Nat.reduceDiv, Int.reduceToNat, BitVec.reduceToNat, zipEnv, Int.reduceLE, Int.reduceLT, Int.reduceNeg, BitVec.reduceEq, Int.reduceAdd, Int.reduceSub, Int.reduceMul, Nat.reduceLeDiff, Int.reduceEq, hp, k1, bs_len, hpz, c1, c2, c3, w0, decide_true, decide_false]
        exact .val _ rfl
      rw [if_neg (by omega)] at hA0
      obtain ⟨a, rfl⟩ := Int.eq_ofNat_of_zero_le (by omega : 0 ≤ a)
      have w1 : wz (256 * (i : Int)) = ((256 * i : Nat) : Int) := by rw [wz_id (by omega)]; omega
      have w2 : wz ((i : Int) + 1) = ((i + 1 : Nat) : Int) := by rw [wz_id (by omega)]; omega
      have w3 : wz (256 * ((i + 1 : Nat) : Int)) = ((256 * i + 256 : Nat) : Int) := by rw [wz_id (by omega)]; omega
      have f1 : ((0 : Int) ≤ ((256 * i : Nat) : Int)) = True := eq_true (by omega)
      have f2 : (((256 * i : Nat) : Int) ≤ ((256 * i + 256 : Nat) : Int)) = True := eq_true (by omega)
      have f3 : (((256 * i + 256 : Nat) : Int) ≤ (y.length : Int)) = True := eq_true (by omega)
      have f4 : 256 * i + 256 - 256 * i = 256 := by omega
      have f5 : ((0 : Int) ≤ (a : Int)) = True := eq_true (by omega)
      have f6 : ((a : Int) ≤ 256) = True := eq_true (by omega)
      have f7 : ((a : Int) ≤ ((256 : Nat) : Int)) = True := eq_true (by omega)
      have hsb : ((y.drop (256 * i)).take 256) = sub y (256 * i) 256 := rfl
      have hsl : (sub y (256 * i) 256).length = 256 := sub_len (by omega)
      have hdat : datA (some (y, e)) (i : Int) (a : Int) p = splice (sub y (256 * i) 256) a p := by rw [datA, if_neg hpn]; rfl
      have hspl : (splice (sub y (256 * i) 256) a p).length = 256 := by rw [splice_len _ _ _ (by omega), hsl]
      simp only [flD, Int.toNat_natCast] at k1 hA0 ⊢
      generalize sub y (256 * i) 256 = s at *
      have kc := fun rows k e => kClone rows k (.lst L8 (bs s) e) s (lstIn rows _ e) (by omega)
      rw [hsl] at kc
      have hdl : ((s.drop a).take (256 - a)) = s.drop a := List.take_of_length_le (by rw [List.length_drop]; omega)
      have kcl : ∀ e2 k, kCall fClears [some ⟨L8, bs s⟩] k [.sl L8 0 [] a (256 - a) e2, .lst L8 (bs p) x] = k (.raw (.bool (open Classical in decide (clears (s.drop a) p)))) [some ⟨L8, bs s⟩] := fun e2 k => by
        have hbi := BsIn.sub (rows := [some ⟨L8, bs s⟩]) (r := 0) (off := a) (len := 256 - a) (ex := e2) rfl (by omega : a + (256 - a) ≤ s.length)
        rw [hdl] at hbi
        exact kClears hbi (lstIn _ p x) (by rw [List.length_drop]; omega) (by rw [List.length_drop]; omega) k
      by_cases c4 : clears (s.drop a) p
      · have hdc : (open Classical in decide (clears (s.drop a) p)) = true := by classical exact decide_eq_true c4
        rw [if_pos c4] at hA0
        rw [outA, if_pos hA0, hdat]
        rw [hdc] at kcl
        simp only [↓amD, amU, Nat.reduceBEq, Nat.reduceAdd, Nat.reduceSub, Nat.reduceMul, Nat.reduceMod, Nat.reducePow, Nat.reduceLT, Nat.reduceDiv, Int.reduceToNat, BitVec.reduceToNat, zipEnv, Int.reduceLE, Int.reduceLT, Int.reduceNeg, BitVec.reduceEq, Int.reduceAdd, Int.reduceSub, Int.reduceMul, Nat.reduceLeDiff, Int.reduceEq, hp, k1, bs_len, hpz, c1, c2, c3, w0, w1, w2, w3, f1, f2, f3, f4, f5, f6, f7, hc, kc, hcl, kcl, bs_drop, bs_take, hsb, hsl, decide_true, decide_false]
        refine Eq.mpr (copy_own (l := s) rfl (by omega)) ?_
        rw [show min p.length (256 - a) = p.length by omega, List.take_length]
        simp only [↓amD, amU, Nat.reduceBEq, Nat.reduceAdd, Nat.reduceSub, Nat.reduceMul, Nat.reduceMod, Nat.reducePow, Nat.reduceLT, Nat.reduceDiv, Int.reduceToNat, BitVec.reduceToNat, zipEnv, Int.reduceLE, Int.reduceLT, Int.reduceNeg, BitVec.reduceEq, Int.reduceAdd, Int.reduceSub, Int.reduceMul, Nat.reduceLeDiff, Int.reduceEq]
        exact .ownT L8 0 0 256 false false _ _ rfl rfl rfl (fun h => by cases h)
      · have hdc : (open Classical in decide (clears (s.drop a) p)) = false := by classical exact decide_eq_false c4
        rw [if_neg c4] at hA0
        rw [outA, if_neg (by rw [hA0]; decide), hA0]
        rw [hdc] at kcl
        simp only [↓amD, amU, Nat.reduceBEq, Nat.reduceAdd, Nat.reduceSub, Nat.reduceMul, Nat.reduceMod, Nat.reducePow, Nat.reduceLT, Nat.reduceDiv, Int.reduceToNat, BitVec.reduceToNat, zipEnv, Int.reduceLE, Int.reduceLT, Int.reduceNeg, BitVec.reduceEq, Int.reduceAdd, Int.reduceSub, Int.reduceMul, Nat.reduceLeDiff, Int.reduceEq, hp, k1, bs_len, hpz, c1, c2, c3, w0, w1, w2, w3, f1, f2, f3, f4, f5, f6, f7, hc, kc, hcl, kcl, bs_drop, bs_take, hsb, hsl, decide_true, decide_false]
        exact .val _ rfl
  · have h0' : (errP K i = 0) = False := eq_false h0
    have hA : errA K i a p = errP K i := by rw [errA, if_pos h0]
    rw [outA, if_neg (by rw [hA]; exact h0), hA]
    simp only [↓amD, amU, Nat.reduceBEq, Nat.reduceAdd, Nat.reduceSub, Nat.reduceMul, Nat.reduceMod, Nat.reducePow, Nat.reduceLT, Nat.reduceDiv, Int.reduceToNat, BitVec.reduceToNat, zipEnv, Int.reduceLE, Int.reduceLT, Int.reduceNeg, BitVec.reduceEq, Int.reduceAdd, Int.reduceSub, Int.reduceMul, Nat.reduceLeDiff, Int.reduceEq, hp, k1, h0', decide_false]
    exact .val _ rfl
/-- a slice of ours as a source -/
theorem kAfter {rows : Rows} {d : D} {K : FV} (h : view rows 9 d = some (flD K)) (hl : flLen K ≤ 1048576) (i a : Int) {q : Nat} {ex : Bool} {p : List (BitVec 8)} (hq : live rows q = some ⟨L8, bs p⟩) (hp : p.length ≤ 1048576) (k : D → Rows → Prop) :
    kCall fAfter rows k [d, .raw (it i), .raw (it a), .sl L8 q [] 0 p.length ex] = k (shift rows.length (outA K i a p).1) (rows ++ shiftRows rows.length (outA K i a p).2) := by
  have hv : view rows 9 (.sl L8 q [] 0 p.length ex) = some (.lst L8 (bs p) ex) := by
    have : elems rows (.sl L8 q [] 0 p.length ex) = some (bs p) := by
      simp only [elems, hq]; simp [bs_take_len]
    simp only [view]
    rw [this]
    simp [Sh.pure, bs_len]
  have hf : fAfter [flD K, .raw (it i), .raw (it a), .lst L8 (bs p) ex] [] = some (outA K i a p) := by
    rw [fAfter, fn4_eq (rdOf_eq flD_inj K) (rdI_eq i) (rdI_eq a) (rdBs_lst p ex) (by simp [hl, hp])]
  have hn : (noLst (outA K i a p).1 && noLstRows (outA K i a p).2) = true := by
    unfold outA; split <;> rfl
  have hv1 : view rows 9 (.raw (it i)) = some (.raw (it i)) := rfl
  have hv2 : view rows 9 (.raw (it a)) = some (.raw (it a)) := rfl
  unfold kCall
  simp [hasRefL, hasRef, mapO, h, hv, hv1, hv2, hf, bnd, hn]
end Job
end Go.Am
namespace Go.Am
set_option linter.unusedSimpArgs false
set_option linter.unusedVariables false
attribute [local congr] bnd_congr kCond_congr kGd_congr kPick_congr kCall_congr kIdx_congr kSlice_congr kLoop_congr cond_congr' aBin_congr aBounds_congr aApp_congr aCopy_congr kFn_congr
namespace Job
open Go.Am.F
set_option maxRecDepth 10000
def GF : Nat → Option D := fun _ => none
noncomputable def CF : Ctx := ⟨GF, fnTab [(37, fPageE), (50, fWithin), (52, fClears), (51, fClone), (34, fRepeat), (48, fMul64), (60, fMul64)], fun _ => none⟩
theorem ctxF : CtxOK CF P :=
  have c0 := ctx_nil (G := GF) (P := P)
  have c1 := ctx_cons (mul64_ok _ c0) c0
  have c2 := ctx_cons (bmul_ok _ c1 rfl) c1
  have c3 := ctx_cons (repeat_ok _ c2 rfl) c2
  have c4 := ctx_cons (clone_ok _ c3) c3
  have c5 := ctx_cons (clears_ok _ c4) c4
  have c6 := ctx_cons (within_ok _ c5) c5
  ctx_cons (page_ok _ c6) c6
theorem f_page : CF.fn 37 = some fPageE := rfl
theorem f_within : CF.fn 50 = some fWithin := rfl
theorem f_clears : CF.fn 52 = some fClears := rfl
theorem f_clone : CF.fn 51 = some fClone := rfl
theorem f_repeat : CF.fn 34 = some fRepeat := rfl
theorem set_self {rows : Rows} {m : Nat} {row : Row} (h : live rows m = some row) : rows.set m (some row) = rows := by
  refine List.ext_getElem? fun i => ?_
  rw [List.getElem?_set]
  split
  · rename_i e
    subst e
    have hl := live_lt h
    unfold live at h
    rw [if_pos hl]
    split at h
    · rename_i r hr
      cases h
      exact hr.symm
    · cases h
  · rfl
theorem FlAt.ne {rows : Rows} {r m : Nat} {x : List (BitVec 8)} (h : FlAt rows r m x) : r ≠ m := by
  obtain ⟨⟨ex, h1⟩, h2⟩ := h
  intro e
  subst e
  rw [h1] at h2
  injection h2 with h2
  injection h2 with h2 _
  cases h2
theorem FlAt.upd {rows : Rows} {r m : Nat} {x y : List (BitVec 8)} (h : FlAt rows r m x) (hy : y.length = x.length) : FlAt (rows.set m (some ⟨L8, bs y⟩)) r m y := by
  have hne := h.ne
  obtain ⟨⟨ex, h1⟩, h2⟩ := h
  exact ⟨⟨ex, by rw [hy]; exact live_set_o h1 hne.symm⟩, live_set_eq h2⟩
theorem FlAt.flIn {rows : Rows} {r m : Nat} {x : List (BitVec 8)} (h : FlAt rows r m x) (e2 : Bool) : ∃ e, FlIn rows (.ptr SF r [0]) (some (x, e)) := h.to
/-- writing: the error, the bytes then -/
noncomputable def wrE (x : List (BitVec 8)) (a : Int) (p : List (BitVec 8)) : Int := open Classical in
  if errW (some (x, false)) a p.length ≠ 0 then errW (some (x, false)) a p.length else if clears (x.drop a.toNat) p then 0 else 14
noncomputable def wrX (x : List (BitVec 8)) (a : Int) (p : List (BitVec 8)) : List (BitVec 8) := open Classical in if wrE x a p = 0 then splice x a.toNat p else x
theorem wrE_ok {x : List (BitVec 8)} {a : Int} {p : List (BitVec 8)} (h : wrE x a p = 0) : 0 ≤ a ∧ a.toNat + p.length ≤ x.length ∧ clears (x.drop a.toNat) p := by
  unfold wrE at h
  split at h
  · rename_i h2; exact absurd h h2
  · rename_i h2
    have h3 := errW_0 (Decidable.of_not_not h2)
    split at h
    · rename_i h4
      exact ⟨h3.1, by omega, h4⟩
    · cases h
theorem wrX_len (x : List (BitVec 8)) (a : Int) (p : List (BitVec 8)) : (wrX x a p).length = x.length := by
  unfold wrX
  split
  · rename_i h
    have := wrE_ok h
    exact splice_len _ _ _ this.2.1
  · rfl
theorem write_run {rows : Rows} {r m q : Nat} {x p : List (BitVec 8)} {ex : Bool} (h : FlAt rows r m x) (hq : live rows q = some ⟨L8, bs p⟩) (hx : x.length ≤ 1048576) (hp : p.length ≤ 1048576) (a : Int) {K : D → Rows → Prop}
    (hk : K (.raw (it (wrE x a p))) (rows.set m (some ⟨L8, bs (wrX x a p)⟩))) : afun CF 3 r_flash_Flash_Write a_flash_Flash_Write [.ptr SF r [0], .raw (it a), .sl L8 q [] 0 p.length ex] rows K := by
  obtain ⟨e, hin⟩ := h.to
  have kw := fun k => kWithin hin hx a p.length k
  have hee : errW (some (x, e)) a p.length = errW (some (x, false)) a p.length := rfl
  obtain ⟨⟨e2, h1⟩, h2⟩ := h
  simp only [q_afun]
  unfold a_flash_Flash_Write r_flash_Flash_Write
  rw [hee] at kw
  by_cases h0 : errW (some (x, false)) a p.length = 0
  · obtain ⟨b1, b2, b3, b4⟩ := errW_0 h0
    obtain ⟨a, rfl⟩ := Int.eq_ofNat_of_zero_le b1
    rw [h0] at kw
    have f1 : ((0 : Int) ≤ (a : Int)) = True := eq_true (by omega)
    have f2 : ((a : Int) ≤ (x.length : Int)) = True := eq_true (by omega)
    have hdl : ((x.drop a).take (x.length - a)) = x.drop a := List.take_of_length_le (by rw [List.length_drop]; omega)
    have kc : ∀ e3 k, kCall fClears rows k [.sl L8 m [] a (x.length - a) e3, .sl L8 q [] 0 p.length ex] = k (.raw (.bool (open Classical in decide (clears (x.drop a) p)))) rows := fun e3 k => by
      have hbi := BsIn.sub (rows := rows) (r := m) (off := a) (len := x.length - a) (ex := e3) h2 (by omega : a + (x.length - a) ≤ x.length)
      rw [hdl] at hbi
      exact kClears hbi (BsIn.own hq _ rfl) (by rw [List.length_drop]; omega) (by rw [List.length_drop]; omega) k
    by_cases c : clears (x.drop a) p
    · have hE : wrE x (a : Int) p = 0 := by rw [wrE, if_neg (by rw [h0]; simp), Int.toNat_natCast, if_pos c]
      have hX : wrX x (a : Int) p = splice x a p := by rw [wrX, if_pos hE]; rfl
      rw [hE, hX] at hk
      have hdc : (open Classical in decide (clears (x.drop a) p)) = true := by classical exact decide_eq_true c
      rw [hdc] at kc
      simp only [↓amD, amU, Nat.reduceBEq, Nat.reduceAdd, Nat.reduceSub, Nat.reduceMul, Nat.reduceMod, Nat.reducePow, Nat.reduceLT, Nat.reduceDiv, Int.reduceToNat, BitVec.reduceToNat, zipEnv, Int.reduceLE, Int.reduceLT, Int.reduceNeg, BitVec.reduceEq, Int.reduceAdd, Int.reduceSub, Int.reduceMul, Nat.reduceLeDiff, Int.reduceEq, f_within, f_clears, kw, kc, h1, hq, bs_len, bs_take_len, f1, f2]
      refine Eq.mpr (copy_own (l := x) h2 (by omega)) ?_
      rw [show min p.length (x.length - a) = p.length by omega, List.take_length]
      simp only [↓amD, amU, Nat.reduceBEq, Nat.reduceAdd, Nat.reduceSub, Nat.reduceMul, Nat.reduceMod, Nat.reducePow, Nat.reduceLT, Nat.reduceDiv, Int.reduceToNat, BitVec.reduceToNat, zipEnv, Int.reduceLE, Int.reduceLT, Int.reduceNeg, BitVec.reduceEq, Int.reduceAdd, Int.reduceSub, Int.reduceMul, Nat.reduceLeDiff, Int.reduceEq]
      exact hk
    · have hE : wrE x (a : Int) p = 14 := by rw [wrE, if_neg (by rw [h0]; simp), Int.toNat_natCast, if_neg c]
      have hX : wrX x (a : Int) p = x := by rw [wrX, if_neg (by rw [hE]; decide)]
      rw [hE, hX, set_self h2] at hk
      have hdc : (open Classical in decide (clears (x.drop a) p)) = false := by classical exact decide_eq_false c
      rw [hdc] at kc
      simp only [↓amD, amU, Nat.reduceBEq, Nat.reduceAdd, Nat.reduceSub, Nat.reduceMul, Nat.reduceMod, Nat.reducePow, Nat.reduceLT, Nat.reduceDiv, Int.reduceToNat, BitVec.reduceToNat, zipEnv, Int.reduceLE, Int.reduceLT, Int.reduceNeg, BitVec.reduceEq, Int.reduceAdd, Int.reduceSub, Int.reduceMul, Nat.reduceLeDiff, Int.reduceEq, f_within, f_clears, kw, kc, h1, hq, bs_len, bs_take_len, f1, f2]
      exact hk
  · have hE : wrE x a p = errW (some (x, false)) a p.length := by rw [wrE, if_pos h0]
    have hX : wrX x a p = x := by rw [wrX, if_neg (by rw [hE]; exact h0)]
    rw [hE, hX, set_self h2] at hk
    have h0' : (errW (some (x, false)) a p.length = 0) = False := eq_false h0
    simp only [↓amD, amU, Nat.reduceBEq, Nat.reduceAdd, Nat.reduceSub, Nat.reduceMul, Nat.reduceMod, Nat.reducePow, Nat.reduceLT, Nat.reduceDiv, Int.reduceToNat, BitVec.reduceToNat, zipEnv, Int.reduceLE, Int.reduceLT, Int.reduceNeg, BitVec.reduceEq, Int.reduceAdd, Int.reduceSub, Int.reduceMul, Nat.reduceLeDiff, Int.reduceEq, f_within, kw, h0', decide_false]
    exact hk
/-- a byte is turned -/
def tuE (x : List (BitVec 8)) (a : Int) : Int := errW (some (x, false)) a 1
def tuX (x : List (BitVec 8)) (a : Int) (b : BitVec 8) : List (BitVec 8) := if tuE x a = 0 then x.set a.toNat (x.getD a.toNat 0#8 ^^^ b) else x
theorem tuX_len (x : List (BitVec 8)) (a : Int) (b : BitVec 8) : (tuX x a b).length = x.length := by
  unfold tuX; split <;> simp
/-- a page is erased -/
def erE (x : List (BitVec 8)) (i : Int) : Int := errP (some (x, false)) i
def erX (x : List (BitVec 8)) (i : Int) : List (BitVec 8) := if erE x i = 0 then splice x (256 * i.toNat) (List.replicate 256 255#8) else x
theorem erX_len (x : List (BitVec 8)) (i : Int) : (erX x i).length = x.length := by
  unfold erX
  split
  · rename_i h
    have := errP_0 (e := false) h
    rw [splice_len _ _ _ (by simp; omega)]
  · rfl
/-- a page is torn -/
def teV (b w k : BitVec 8) : BitVec 8 := b &&& ~~~ k ||| w &&& k
def teN (x : List (BitVec 8)) (i : Nat) (w k : List (BitVec 8)) : Nat → List (BitVec 8)
  | 0 => x
  | j + 1 => (teN x i w k j).set (256 * i + j) (teV ((teN x i w k j).getD (256 * i + j) 0#8) (w.getD j 0#8) (k.getD j 0#8))
theorem teN_len (x : List (BitVec 8)) (i : Nat) (w k : List (BitVec 8)) : ∀ j, (teN x i w k j).length = x.length
  | 0 => rfl
  | j + 1 => by rw [teN, List.length_set]; exact teN_len x i w k j
def teM (w k : List (BitVec 8)) : Nat := min (min w.length k.length) 256
def teX (x : List (BitVec 8)) (i : Int) (w k : List (BitVec 8)) : List (BitVec 8) := if erE x i = 0 then teN x i.toNat w k (teM w k) else x
theorem teX_len (x : List (BitVec 8)) (i : Int) (w k : List (BitVec 8)) : (teX x i w k).length = x.length := by
  unfold teX; split
  · exact teN_len _ _ _ _ _
  · rfl
theorem tear_run {rows : Rows} {r m q1 q2 : Nat} {x w k : List (BitVec 8)} {ex1 ex2 : Bool} (h : FlAt rows r m x) (hx : x.length ≤ 1048576) (hq1 : live rows q1 = some ⟨L8, bs w⟩) (hq2 : live rows q2 = some ⟨L8, bs k⟩) (n1 : m ≠ q1) (n2 : m ≠ q2) (hw : w.length ≤ 1048576) (hkl : k.length ≤ 1048576) (i : Int) {K : D → Rows → Prop}
    (hk : K (.raw (it (erE x i))) (rows.set m (some ⟨L8, bs (teX x i w k)⟩))) : afun CF 4 r_flash_Flash_Tear a_flash_Flash_Tear [.ptr SF r [0], .raw (it i), .sl L8 q1 [] 0 w.length ex1, .sl L8 q2 [] 0 k.length ex2] rows K := by
  obtain ⟨e, hin⟩ := h.to
  have kw := fun k => kPageE hin hx i k
  have hee : errP (some (x, e)) i = erE x i := rfl
  have hrm := h.ne
  obtain ⟨⟨e2, h1⟩, h2⟩ := h
  simp only [q_afun]
  unfold a_flash_Flash_Tear r_flash_Flash_Tear
  rw [hee] at kw
  by_cases h0 : erE x i = 0
  · obtain ⟨b1, b2⟩ := errP_0 (e := false) h0
    obtain ⟨i, rfl⟩ := Int.eq_ofNat_of_zero_le b1
    have hX : teX x (i : Int) w k = teN x i w k (teM w k) := by rw [teX, if_pos h0]; rfl
    rw [hX, h0] at hk
    rw [h0] at kw
    have w1 : wz (256 * (i : Int)) = ((256 * i : Nat) : Int) := by rw [wz_id (by omega)]; omega
    have f0 : min (min (w.length : Int) (k.length : Int)) 256 = ((teM w k : Nat) : Int) := by unfold teM; omega
    have hM : teM w k ≤ w.length ∧ teM w k ≤ k.length ∧ teM w k ≤ 256 := by unfold teM; omega
    simp only [↓amD, amU, Nat.reduceBEq, Nat.reduceAdd, Nat.reduceSub, Nat.reduceMul, Nat.reduceMod, Nat.reducePow, Nat.reduceLT, Nat.reduceDiv, Int.reduceToNat, BitVec.reduceToNat, zipEnv, Int.reduceLE, Int.reduceLT, Int.reduceNeg, BitVec.reduceEq, Int.reduceAdd, Int.reduceSub, Int.reduceMul, Nat.reduceLeDiff, Int.reduceEq, f_page, kw, f0]
    refine kLoop_up (teM w k) (fun j env rs => has env [(23, .raw (it (j : Int))), (22, .raw (it ((teM w k : Nat) : Int))), (0, .ptr SF r [0]), (1, .raw (it (i : Int))), (2, .sl L8 q1 [] 0 w.length ex1), (3, .sl L8 q2 [] 0 k.length ex2)] ∧ rs = rows.set m (some ⟨L8, bs (teN x i w k j)⟩)) ?_ ?_ ⟨?_, (set_self h2).symm⟩
    · rintro j hj env rs ⟨hh, rfl⟩ R hR
      simp only [has] at hh
      obtain ⟨h23, h22, g0, g1, g2, g3, -⟩ := hh
      have e0 : ((j : Int) < ((teM w k : Nat) : Int)) = True := eq_true (by omega)
      have e1 := wz_succ j (by omega)
      have b0 : ∀ n : Nat, ((0 : Int) ≤ (n : Int)) = True := fun n => eq_true (by omega)
      have w2 : wz (((256 * i : Nat) : Int) + (j : Int)) = ((256 * i + j : Nat) : Int) := by rw [wz_id (by omega)]; omega
      have l1 := live_set_o (y := ⟨L8, bs (teN x i w k j)⟩) h1 hrm.symm
      have l2 := live_set_eq (y := ⟨L8, bs (teN x i w k j)⟩) h2
      have l3 := live_set_o (y := ⟨L8, bs (teN x i w k j)⟩) hq1 n1
      have l4 := live_set_o (y := ⟨L8, bs (teN x i w k j)⟩) hq2 n2
      have hl := teN_len x i w k j
      have c1 : (((256 * i + j : Nat) : Int) < (x.length : Int)) = True := eq_true (by omega)
      have c2 : ((j : Int) < (w.length : Int)) = True := eq_true (by omega)
      have c3 : ((j : Int) < (k.length : Int)) = True := eq_true (by omega)
      have t1 : (bs (teN x i w k j))[256 * i + j]? = some (.raw (u8 ((teN x i w k j).getD (256 * i + j) 0#8))) := bs_get (by omega)
      have t2 : (bs w)[j]? = some (.raw (u8 (w.getD j 0#8))) := bs_get (by omega)
      have t3 : (bs k)[j]? = some (.raw (u8 (k.getD j 0#8))) := bs_get (by omega)
      have hv : (teN x i w k j).set (256 * i + j) ((teN x i w k j).getD (256 * i + j) 0#8 &&& ~~~ k.getD j 0#8 ||| w.getD j 0#8 &&& k.getD j 0#8) = teN x i w k (j + 1) := rfl
      have hss : ∀ a b : Option Row, (rows.set m a).set m b = rows.set m b := fun a b => List.set_set ..
      simp only [↓amD, amU, Nat.reduceBEq, Nat.reduceAdd, Nat.reduceSub, Nat.reduceMul, Nat.reduceMod, Nat.reducePow, Nat.reduceLT, Nat.reduceDiv, Int.reduceToNat, BitVec.reduceToNat, zipEnv, Int.reduceLE, Int.reduceLT, Int.reduceNeg, BitVec.reduceEq, Int.reduceAdd, Int.reduceSub, Int.reduceMul, Nat.reduceLeDiff, Int.reduceEq, h23, h22, g0, g1, g2, g3, e0, e1, b0, w1, w2, l1, l2, l3, l4, c1, c2, c3, t1, t2, t3, bs_set, hv, hss, decide_true]
      exact hR _ _ ⟨by simp only [has, ↓amD, amU, Nat.reduceBEq, Nat.reduceAdd, Nat.reduceSub, Nat.reduceMul, Nat.reduceMod, Nat.reducePow, Nat.reduceLT, Nat.reduceDiv, Int.reduceToNat, BitVec.reduceToNat, zipEnv, Int.reduceLE, Int.reduceLT, Int.reduceNeg, BitVec.reduceEq, Int.reduceAdd, Int.reduceSub, Int.reduceMul, Nat.reduceLeDiff, Int.reduceEq, h22, g0, g1, g2, g3], rfl⟩
    · rintro env rs ⟨hh, rfl⟩ R
      simp only [has] at hh
      obtain ⟨h23, h22, g0, g1, g2, g3, -⟩ := hh
      have e0 : (((teM w k : Nat) : Int) < ((teM w k : Nat) : Int)) = False := eq_false (by omega)
      simp only [↓amD, amU, Nat.reduceBEq, Nat.reduceAdd, Nat.reduceSub, Nat.reduceMul, Nat.reduceMod, Nat.reducePow, Nat.reduceLT, Nat.reduceDiv, Int.reduceToNat, BitVec.reduceToNat, zipEnv, Int.reduceLE, Int.reduceLT, Int.reduceNeg, BitVec.reduceEq, Int.reduceAdd, Int.reduceSub, Int.reduceMul, Nat.reduceLeDiff, Int.reduceEq, h23, h22, g0, g1, g2, g3, e0, decide_false]
      exact hk
    · simp only [has, ↓amD, amU, Nat.reduceBEq, Nat.reduceAdd, Nat.reduceSub, Nat.reduceMul, Nat.reduceMod, Nat.reducePow, Nat.reduceLT, Nat.reduceDiv, Int.reduceToNat, BitVec.reduceToNat, zipEnv, Int.reduceLE, Int.reduceLT, Int.reduceNeg, BitVec.reduceEq, Int.reduceAdd, Int.reduceSub, Int.reduceMul, Nat.reduceLeDiff, Int.reduceEq]
  · have hX : teX x i w k = x := by rw [teX, if_neg h0]
    rw [hX, set_self h2] at hk
    have h0' : (erE x i = 0) = False := eq_false h0
    simp only [↓amD, amU, Nat.reduceBEq, Nat.reduceAdd, Nat.reduceSub, Nat.reduceMul, Nat.reduceMod, Nat.reducePow, Nat.reduceLT, Nat.reduceDiv, Int.reduceToNat, BitVec.reduceToNat, zipEnv, Int.reduceLE, Int.reduceLT, Int.reduceNeg, BitVec.reduceEq, Int.reduceAdd, Int.reduceSub, Int.reduceMul, Nat.reduceLeDiff, Int.reduceEq, f_page, kw, h0', decide_false]
    exact hk
/-- a new one -/
theorem fnew_run {rows : Rows} (n : Nat) (hn : n ≤ 1024) {K : D → Rows → Prop}
    (hk : K (.tup [.ptr SF (rows.length + 2) [0], .raw (it 0)]) (rows ++ [some ⟨L8, [.raw (u8 255#8)]⟩, some ⟨L8, bs (List.replicate (256 * n) 255#8)⟩, some ⟨SF, [.agg SF [.sl L8 (rows.length + 1) [] 0 (256 * n) false]]⟩])) : afun CF 1 r_flash_New a_flash_New [.raw (it (n : Int))] rows K := by
  have e1 : ((n : Int) < 0) = False := eq_false (by omega)
  have e2 : ((1024 : Int) < (n : Int)) = False := eq_false (by omega)
  have w1 : wz (256 * (n : Int)) = ((256 * n : Nat) : Int) := by rw [wz_id (by omega)]; omega
  obtain ⟨z, hz⟩ : ∃ z, z = List.replicate (256 * n) 255#8 := ⟨_, rfl⟩
  have kr : ∀ k, kCall fRepeat (rows ++ [some ⟨L8, [.raw (u8 255#8)]⟩]) k [.sl L8 rows.length [] 0 1 true, .raw (it ((256 * n : Nat) : Int))] = k (.sl L8 (rows.length + 1) [] 0 (256 * n) false) (rows ++ [some ⟨L8, [.raw (u8 255#8)]⟩, some ⟨L8, bs z⟩]) := fun k => by
    rw [hz]
    have := kRepeat (rows := rows ++ [some ⟨L8, [.raw (u8 255#8)]⟩]) (d := .sl L8 rows.length [] 0 1 true) (b := 255#8) (BsIn.own (l := [255#8]) (by rw [lv_app0]; rfl) _ rfl) (256 * n) (by omega) k
    simp only [List.length_append, List.length_cons, List.length_nil, Nat.zero_add, List.append_assoc, List.cons_append, List.nil_append] at this
    exact this
  rw [← hz] at hk
  simp only [q_afun]
  unfold a_flash_New r_flash_New
  simp only [↓amD, amU, Nat.reduceBEq, Nat.reduceAdd, Nat.reduceSub, Nat.reduceMul, Nat.reduceMod, Nat.reducePow, Nat.reduceLT, Nat.reduceDiv, Int.reduceToNat, BitVec.reduceToNat, zipEnv, Int.reduceLE, Int.reduceLT, Int.reduceNeg, BitVec.reduceEq, Int.reduceAdd, Int.reduceSub, Int.reduceMul, Nat.reduceLeDiff, Int.reduceEq, lv_app0, lv_appk, set_app0, set_appk, List.append_assoc, List.append_nil, Nat.add_assoc, f_repeat, e1, e2, w1, kr, decide_false]
  exact hk
theorem fnew_bad {rows : Rows} (n : Int) (hn : n < 0 ∨ 1024 < n) {K : D → Rows → Prop} (hk : K (.tup [.raw (.pointer none), .raw (it 1)]) rows) : afun CF 1 r_flash_New a_flash_New [.raw (it n)] rows K := by
  simp only [q_afun]
  unfold a_flash_New r_flash_New
  by_cases h : n < 0
  · simp only [↓amD, amU, Nat.reduceBEq, Nat.reduceAdd, Nat.reduceSub, Nat.reduceMul, Nat.reduceMod, Nat.reducePow, Nat.reduceLT, Nat.reduceDiv, Int.reduceToNat, BitVec.reduceToNat, zipEnv, Int.reduceLE, Int.reduceLT, Int.reduceNeg, BitVec.reduceEq, Int.reduceAdd, Int.reduceSub, Int.reduceMul, Nat.reduceLeDiff, Int.reduceEq, h, decide_true]
    exact hk
  · have h2 : 1024 < n := by omega
    simp only [↓amD, amU, Nat.reduceBEq, Nat.reduceAdd, Nat.reduceSub, Nat.reduceMul, Nat.reduceMod, Nat.reducePow, Nat.reduceLT, Nat.reduceDiv, Int.reduceToNat, BitVec.reduceToNat, zipEnv, Int.reduceLE, Int.reduceLT, Int.reduceNeg, BitVec.reduceEq, Int.reduceAdd, Int.reduceSub, Int.reduceMul, Nat.reduceLeDiff, Int.reduceEq, h, h2, decide_true, decide_false]
    exact hk
end Job
end Go.Am
namespace Go.Am
set_option linter.unusedSimpArgs false
set_option linter.unusedVariables false
attribute [local congr] bnd_congr kCond_congr kGd_congr kPick_congr kCall_congr kIdx_congr kSlice_congr kLoop_congr cond_congr' aBin_congr aBounds_congr aApp_congr aCopy_congr kFn_congr
namespace Job
open Go.Am.F
set_option maxRecDepth 10000
theorem wr_ok {x p : List (BitVec 8)} {a : Nat} (h : a + p.length ≤ x.length) (hc : clears (x.drop a) p) : wrE x (a : Int) p = 0 ∧ wrX x (a : Int) p = splice x a p := by
  have h0 : errW (some (x, false)) (a : Int) p.length = 0 := by
    simp only [errW]; rw [if_neg (by omega)]
  have hE : wrE x (a : Int) p = 0 := by rw [wrE, if_neg (by rw [h0]; simp), Int.toNat_natCast, if_pos hc]
  exact ⟨hE, by rw [wrX, if_pos hE]; rfl⟩
theorem wr_no {x p : List (BitVec 8)} {a : Nat} (h : a + p.length ≤ x.length) (hc : ¬ clears (x.drop a) p) : wrE x (a : Int) p = 14 ∧ wrX x (a : Int) p = x := by
  have h0 : errW (some (x, false)) (a : Int) p.length = 0 := by
    simp only [errW]; rw [if_neg (by omega)]
  have hE : wrE x (a : Int) p = 14 := by rw [wrE, if_neg (by rw [h0]; simp), Int.toNat_natCast, if_neg hc]
  exact ⟨hE, by rw [wrX, if_neg (by rw [hE]; decide)]⟩
def clearsB (a b : List (BitVec 8)) : Bool := (List.range b.length).all fun i => decide (b.getD i 0#8 &&& ~~~ a.getD i 0#8 = 0#8)
theorem clears_iff (a b : List (BitVec 8)) : clears a b ↔ clearsB a b = true := by
  simp only [clears, clr1, clearsB, List.all_eq_true, List.mem_range, decide_eq_true_eq]
def e512 : List (BitVec 8) := List.replicate 512 255#8
theorem aw1 : wrE e512 0 [240#8] = 0 ∧ wrX e512 0 [240#8] = splice e512 0 [240#8] := wr_ok (a := 0) (by decide +kernel) ((clears_iff _ _).2 (by decide +kernel))
theorem aw2 : wrE (splice e512 0 [240#8]) 0 [48#8] = 0 ∧ wrX (splice e512 0 [240#8]) 0 [48#8] = splice (splice e512 0 [240#8]) 0 [48#8] := wr_ok (a := 0) (by decide +kernel) ((clears_iff _ _).2 (by decide +kernel))
theorem aw3 : wrE (splice (splice e512 0 [240#8]) 0 [48#8]) 0 [255#8] = 14 ∧ wrX (splice (splice e512 0 [240#8]) 0 [48#8]) 0 [255#8] = splice (splice e512 0 [240#8]) 0 [48#8] := wr_no (a := 0) (by decide +kernel) (fun h => absurd ((clears_iff _ _).1 h) (by decide +kernel))
def awX : List (BitVec 8) := splice (splice e512 0 [240#8]) 0 [48#8]
theorem awX_len : awX.length = 512 := by decide +kernel
theorem aw4 : sub awX 0 2 = [48#8, 255#8] := by decide +kernel
theorem all255_iff (l : List (BitVec 8)) : all255 l ↔ (List.range l.length).all (fun i => decide (l.getD i 0#8 = 255#8)) = true := by
  simp only [all255, List.all_eq_true, List.mem_range, decide_eq_true_eq]
theorem blank_in {x : List (BitVec 8)} {e : Bool} {f p : Nat} (hf : f ≤ 1024) (hp : p ≤ 1024) (h : 256 * f + 256 * p ≤ x.length) : blankB (some (x, e)) f p = (open Classical in decide (all255 (sub x (256 * f) (256 * p)))) := by
  have h0 : errW (some (x, e)) (256 * (f : Int)) (256 * (p : Int)) = 0 := by
    simp only [errW]; rw [if_neg (by omega)]
  rw [blankB, if_neg (by rw [h0]; omega)]
  rfl
theorem aw5 (e : Bool) : blankB (some (awX, e)) 1 1 = true := by
  have := blank_in (x := awX) (e := e) (f := 1) (p := 1) (by omega) (by omega) (by rw [awX_len]; omega)
  rw [show ((1 : Nat) : Int) = 1 from rfl] at this
  rw [this]
  classical
  exact decide_eq_true ((all255_iff _).2 (by decide +kernel))
theorem aw6 (e : Bool) : blankB (some (awX, e)) 0 2 = false := by
  have := blank_in (x := awX) (e := e) (f := 0) (p := 2) (by omega) (by omega) (by rw [awX_len]; omega)
  rw [show ((0 : Nat) : Int) = 0 from rfl, show ((2 : Nat) : Int) = 2 from rfl] at this
  rw [this]
  classical
  exact decide_eq_false fun h => absurd ((all255_iff _).1 h) (by decide +kernel)
theorem FlAt.new {rows : Rows} {n : Nat} {z : List (BitVec 8)} (hz : z = List.replicate (256 * n) 255#8) : FlAt (rows ++ [some ⟨L8, [.raw (u8 255#8)]⟩, some ⟨L8, bs z⟩, some ⟨SF, [.agg SF [.sl L8 (rows.length + 1) [] 0 (256 * n) false]]⟩]) (rows.length + 2) (rows.length + 1) z := by
  refine ⟨⟨false, ?_⟩, ?_⟩
  · rw [lv_appk, hz, List.length_replicate]; rfl
  · rw [lv_appk]; rfl
/-- a flash's bytes are other ones, and nothing else is -/
structure Upd (rows rows' : Rows) (r m : Nat) (x : List (BitVec 8)) : Prop where
  fl : FlAt rows' r m x
  frame : ∀ q row, live rows q = some row → q ≠ m → live rows' q = some row
/-- a new one -/
structure Made (rows rows' : Rows) (r m : Nat) (x : List (BitVec 8)) : Prop where
  fl : FlAt rows' r m x
  frame : ∀ q row, live rows q = some row → live rows' q = some row
  hr : rows.length ≤ r
  hm : rows.length ≤ m
theorem FlAt.lt {rows : Rows} {r m : Nat} {x : List (BitVec 8)} (h : FlAt rows r m x) : r < rows.length ∧ m < rows.length := by
  obtain ⟨⟨ex, h1⟩, h2⟩ := h
  exact ⟨live_lt h1, live_lt h2⟩
theorem FlAt.keep {rows rows' : Rows} {r m r2 m2 : Nat} {x y : List (BitVec 8)} (h : FlAt rows r m x) (U : Upd rows rows' r2 m2 y) (h1 : r ≠ m2) (h2 : m ≠ m2) : FlAt rows' r m x := by
  obtain ⟨⟨ex, g1⟩, g2⟩ := h
  exact ⟨⟨ex, U.frame _ _ g1 h1⟩, U.frame _ _ g2 h2⟩
theorem FlAt.made {rows rows' : Rows} {r m r2 m2 : Nat} {x y : List (BitVec 8)} (h : FlAt rows r m x) (U : Made rows rows' r2 m2 y) : FlAt rows' r m x := by
  obtain ⟨⟨ex, g1⟩, g2⟩ := h
  exact ⟨⟨ex, U.frame _ _ g1⟩, U.frame _ _ g2⟩
theorem upd_set {rows more : Rows} {r m : Nat} {x y : List (BitVec 8)} (h : FlAt rows r m x) (hy : y.length = x.length) : Upd rows ((rows ++ more).set m (some ⟨L8, bs y⟩)) r m y :=
  ⟨(h.push more).upd hy, fun q row hq hn => live_set_o (live_push hq) hn.symm⟩
theorem upd_set0 {rows : Rows} {r m : Nat} {x y : List (BitVec 8)} (h : FlAt rows r m x) (hy : y.length = x.length) : Upd rows (rows.set m (some ⟨L8, bs y⟩)) r m y :=
  ⟨h.upd hy, fun q row hq hn => live_set_o hq hn.symm⟩
theorem writeA {rows : Rows} {r m q : Nat} {x p : List (BitVec 8)} {ex : Bool} (h : FlAt rows r m x) (hq : live rows q = some ⟨L8, bs p⟩) (hx : x.length ≤ 1048576) (hp : p.length ≤ 1048576) (a : Int) {K : D → Rows → Prop}
    (hk : ∀ rows', Upd rows rows' r m (wrX x a p) → K (.raw (it (wrE x a p))) rows') : afun CF 3 r_flash_Flash_Write a_flash_Flash_Write [.ptr SF r [0], .raw (it a), .sl L8 q [] 0 p.length ex] rows K :=
  write_run h hq hx hp a (hk _ (upd_set0 h (wrX_len x a p)))
theorem tearA {rows : Rows} {r m q1 q2 : Nat} {x w k : List (BitVec 8)} {ex1 ex2 : Bool} (h : FlAt rows r m x) (hx : x.length ≤ 1048576) (hq1 : live rows q1 = some ⟨L8, bs w⟩) (hq2 : live rows q2 = some ⟨L8, bs k⟩) (n1 : m ≠ q1) (n2 : m ≠ q2) (hw : w.length ≤ 1048576) (hkl : k.length ≤ 1048576) (i : Int) {K : D → Rows → Prop}
    (hk : ∀ rows', Upd rows rows' r m (teX x i w k) → K (.raw (it (erE x i))) rows') : afun CF 4 r_flash_Flash_Tear a_flash_Flash_Tear [.ptr SF r [0], .raw (it i), .sl L8 q1 [] 0 w.length ex1, .sl L8 q2 [] 0 k.length ex2] rows K :=
  tear_run h hx hq1 hq2 n1 n2 hw hkl i (hk _ (upd_set0 h (teX_len x i w k)))
theorem newA {rows : Rows} (n : Nat) (hn : n ≤ 1024) {K : D → Rows → Prop}
    (hk : ∀ rows' r' m', Made rows rows' r' m' (List.replicate (256 * n) 255#8) → K (.tup [.ptr SF r' [0], .raw (it 0)]) rows') : afun CF 1 r_flash_New a_flash_New [.raw (it (n : Int))] rows K :=
  fnew_run n hn (hk _ (rows.length + 2) (rows.length + 1) ⟨FlAt.new rfl, fun q row hq => live_push hq, by omega, by omega⟩)
theorem kAwakeF (rows : Rows) (k : D → Rows → Prop) {F : Fn} (h : F [] [] = some (.raw (.bool true), [])) : kCall F rows k [] = k (.raw (.bool true)) rows := by
  refine (kCall_val rfl h).trans ?_
  simp [shift, shiftRows]
def fAwakeF : Fn
  | [], [] => some (.raw (.bool true), [])
  | _, _ => none
theorem bs1 (x : BitVec 8) : [D.raw (u8 x)] = bs [x] := rfl
end Job
end Go.Am
namespace Go.Am
set_option linter.unusedSimpArgs false
set_option linter.unusedVariables false
attribute [local congr] bnd_congr kCond_congr kGd_congr kPick_congr kCall_congr kIdx_congr kSlice_congr kLoop_congr cond_congr' aBin_congr aBounds_congr aApp_congr aCopy_congr kFn_congr
namespace Job
open Go.Am.F
set_option maxRecDepth 10000
theorem rep255 (n i : Nat) (h : i < n) : (List.replicate n 255#8).getD i 0#8 = 255#8 := by simp [List.getD, h]
theorem set_get (x : List (BitVec 8)) (k i : Nat) (b : BitVec 8) (hk : k < x.length) : (x.set k b).getD i 0#8 = if i = k then b else x.getD i 0#8 := by
  by_cases h : i = k
  · subst h; simp [List.getD, hk]
  · rw [if_neg h]
    simp [List.getD, List.getElem?_set_ne (fun e => h e.symm)]
theorem sub_get (x : List (BitVec 8)) (a n i : Nat) (h : i < n) : (sub x a n).getD i 0#8 = x.getD (a + i) 0#8 := by
  simp [sub, List.getD, List.getElem?_take, h]
theorem clears_rep (n : Nat) (p : List (BitVec 8)) (h : p.length ≤ n) : clears (List.replicate n 255#8) p := by
  intro i hi
  unfold clr1
  rw [rep255 _ _ (by omega)]
  have : ∀ b : BitVec 8, b &&& ~~~255#8 = 0#8 := by decide +kernel
  exact this _
theorem teN_get (x : List (BitVec 8)) (i : Nat) (w k : List (BitVec 8)) : ∀ j t, 256 * i + j ≤ x.length → (teN x i w k j).getD t 0#8 = if 256 * i ≤ t ∧ t < 256 * i + j then teV (x.getD t 0#8) (w.getD (t - 256 * i) 0#8) (k.getD (t - 256 * i) 0#8) else x.getD t 0#8
  | 0, t, _ => by rw [if_neg (by omega)]; rfl
  | j + 1, t, h => by
    have hl := teN_len x i w k j
    rw [teN, set_get _ _ _ _ (by omega), teN_get x i w k j _ (by omega), teN_get x i w k j t (by omega)]
    by_cases ht : t = 256 * i + j
    · subst ht
      rw [if_pos rfl, if_neg (by omega), if_pos (by omega), Nat.add_sub_cancel_left]
    · rw [if_neg ht]
      by_cases h2 : 256 * i ≤ t ∧ t < 256 * i + j
      · rw [if_pos h2, if_pos (by omega)]
      · rw [if_neg h2, if_neg (by omega)]
theorem teV_all (b w : BitVec 8) : teV b w 255#8 = w := by
  have h1 : b &&& ~~~255#8 = 0#8 := by revert b; decide +kernel
  have h2 : w &&& 255#8 = w := by revert w; decide +kernel
  rw [teV, h1, h2, BitVec.zero_or]
theorem splice_get (x p : List (BitVec 8)) (a i : Nat) (h : a + p.length ≤ x.length) : (splice x a p).getD i 0#8 = if a ≤ i ∧ i < a + p.length then p.getD (i - a) 0#8 else x.getD i 0#8 := by
  unfold splice
  have ht : (x.take a).length = a := by rw [List.length_take]; omega
  simp only [List.getD_eq_getElem?_getD]
  rw [List.append_assoc]
  by_cases h1 : i < a
  · rw [List.getElem?_append_left (by omega), if_neg (by omega), List.getElem?_take_of_lt h1]
  · rw [List.getElem?_append_right (by omega), ht]
    by_cases h2 : i < a + p.length
    · rw [List.getElem?_append_left (by omega), if_pos (by omega)]
    · rw [List.getElem?_append_right (by omega), if_neg (by omega), List.getElem?_drop]
      congr 2
      omega
theorem sub_ext (x p : List (BitVec 8)) (a : Nat) (h : a + p.length ≤ x.length) (hp : ∀ i, i < p.length → x.getD (a + i) 0#8 = p.getD i 0#8) : sub x a p.length = p := by
  have hl := sub_len (x := x) (a := a) (n := p.length) h
  refine List.ext_getElem hl fun i h1 h2 => ?_
  have h3 := sub_get x a p.length i h2
  rw [hp i h2] at h3
  simpa [List.getD, h1, h2] using h3
end Job
end Go.Am
