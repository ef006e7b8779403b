/- repeated bytes -/
import Derived.Test.YtgfhkmpmdfdemaaCom
namespace Go.Am
set_option linter.unusedSimpArgs false
set_option linter.unusedVariables false
attribute [local congr] bnd_congr kCond_congr kGd_congr kPick_congr kCall_congr kIdx_congr kSlice_congr kLoop_congr cond_congr' aBin_congr aBounds_congr aApp_congr aCopy_congr kFn_congr
namespace Job
open Go.Am.F
set_option maxRecDepth 10000
def fMul64 : Fn := fn2 rd64 rd64 (fun x y => decide (x = 1#64) && decide (y.toNat < 4294967296)) fun _ y => (.tup [.raw (u64 0#64), .raw (u64 y)], [])
theorem mul64_ok (C : Ctx) (hC : CtxOK C P) : Meets C.glob P 37 (Fn.run fMul64) := by
  refine fn_meets (m_math_bits_Mul64 C hC) fun ds rows r h => ?_
  obtain ⟨d, e, x, y, rfl, rfl, hd, he, hp, rfl⟩ := fn2_some h
  cases rd64_some hd
  cases rd64_some he
  simp only [Bool.and_eq_true, decide_eq_true_eq] at hp
  obtain ⟨rfl, hy⟩ := hp
  refine ⟨rfl, afun_mk rfl ?_⟩
  clear h hd he
  unfold a_math_bits_Mul64 r_math_bits_Mul64
  have h1 : y &&& 4294967295#64 = y := by
    apply BitVec.eq_of_toNat_eq
    rw [BitVec.toNat_and]
    have : (4294967295#64).toNat = 2 ^ 32 - 1 := by decide
    rw [this, Nat.and_two_pow_sub_one_eq_mod]; omega
  have h2 : y >>> 32 = 0#64 := by
    apply BitVec.eq_of_toNat_eq
    rw [BitVec.toNat_ushiftRight, Nat.shiftRight_eq_div_pow]; simp; omega
  have h3 : 1#64 &&& 4294967295#64 = 1#64 := by decide
  have h4 : 1#64 >>> 32 = 0#64 := by decide
  have h5 : 0#64 &&& 4294967295#64 = 0#64 := by decide
  have h6 : 0#64 >>> 32 = 0#64 := by decide
  simp only [↓amD, amU, Nat.reduceBEq, Nat.reduceAdd, Nat.reduceSub, Nat.reduceMul, Nat.reduceMod, Nat.reducePow, Nat.reduceLT, Nat.reduceDiv, Int.reduceToNat, BitVec.reduceToNat, zipEnv, Int.reduceLE, Int.reduceLT, Int.reduceNeg, BitVec.reduceEq, Int.reduceAdd, Int.reduceSub, Int.reduceMul, Nat.reduceLeDiff, Int.reduceEq, h1, h2, h3, h4, h5, h6, BitVec.one_mul, BitVec.zero_mul, BitVec.mul_zero, BitVec.add_zero]
  exact .val _ rfl
theorem kMul64 (rows : Rows) (k : D → Rows → Prop) (y : BitVec 64) (h : y.toNat < 4294967296) : kCall fMul64 rows k [.raw (u64 1#64), .raw (u64 y)] = k (.tup [.raw (u64 0#64), .raw (u64 y)]) rows := by
  refine (kCall_val rfl (r := (.tup [.raw (u64 0#64), .raw (u64 y)], [])) ?_).trans ?_
  · rw [fMul64, fn2_eq (rd64_eq _) (rd64_eq _) (by simp [h])]
  · simp [shift, shiftL, shiftRows]
theorem bmul_ok (C : Ctx) (hC : CtxOK C P) (hm : C.fn 37 = some fMul64) : Meets C.glob P 31 (Fn.run fMul64) := by
  refine fn_meets (m_math_bits_Mul C hC) fun ds rows r h => ?_
  obtain ⟨d, e, x, y, rfl, rfl, hd, he, hp, rfl⟩ := fn2_some h
  cases rd64_some hd
  cases rd64_some he
  simp only [Bool.and_eq_true, decide_eq_true_eq] at hp
  obtain ⟨rfl, hy⟩ := hp
  refine ⟨rfl, afun_mk rfl ?_⟩
  clear h hd he
  unfold a_math_bits_Mul r_math_bits_Mul
  have k1 := fun rows k => kMul64 rows k y hy
  simp only [↓amD, amU, Nat.reduceBEq, Nat.reduceAdd, Nat.reduceSub, Nat.reduceMul, Nat.reduceMod, Nat.reducePow, Nat.reduceLT, Nat.reduceDiv, Int.reduceToNat, BitVec.reduceToNat, zipEnv, Int.reduceLE, Int.reduceLT, Int.reduceNeg, BitVec.reduceEq, Int.reduceAdd, Int.reduceSub, Int.reduceMul, Nat.reduceLeDiff, Int.reduceEq, hm, k1]
  exact .val _ rfl
def fRepeat : Fn := fn2 rdBs rdI (fun b n => decide (b.length = 1) && decide (0 ≤ n) && decide (n ≤ 1048576)) fun b n => outBs (List.replicate n.toNat (b.getD 0 0#8)) false
theorem rep_take (l : List (BitVec 8)) (x : BitVec 8) (bp c n : Nat) (hl : l.length = n) (h : l.take bp = List.replicate bp x) (hb : bp ≤ n) (hc : c ≤ bp) (m : Nat) (hm : m = min c (n - bp)) : (splice l bp ((l.take c).take m)).take (bp + m) = List.replicate (bp + m) x := by
  have e1 : (l.take c).take m = List.replicate m x := by
    have h2 : l.take c = List.replicate c x := by
      have := congrArg (List.take c) h
      rw [List.take_take, List.take_replicate, show min c bp = c by omega] at this
      exact this
    rw [h2, List.take_replicate, show min m c = m by omega]
  rw [splice, e1, h, List.take_append_of_le_length (by simp), List.replicate_append_replicate, List.take_of_length_le (by simp)]
theorem splice_len {α : Type} (l : List α) (off : Nat) (xs : List α) (h : off + xs.length ≤ l.length) : (splice l off xs).length = l.length := by
  simp [splice]; omega
theorem bs_splice (l : List (BitVec 8)) (off : Nat) (xs : List (BitVec 8)) : splice (bs l) off (bs xs) = bs (splice l off xs) := by
  simp [splice, bs]
theorem copy_own {rows : Rows} {r off len : Nat} {ex : Bool} {l src : List (BitVec 8)} {k : D → Rows → Prop} (h : live rows r = some ⟨L8, bs l⟩) (hle : off + len ≤ l.length) :
    aCopy rows L8 (.sl L8 r [] off len ex) (bs src) k = k (.raw (it (min src.length len : Nat))) (rows.set r (some ⟨L8, bs (splice l off (src.take (min src.length len)))⟩)) := by
  unfold aCopy
  simp only [h, bnd, bs_len, bs_take, bs_splice, hle, true_and]
  rfl
theorem repeat_ok (C : Ctx) (hC : CtxOK C P) (hm : C.fn 31 = some fMul64) : Meets C.glob P 25 (Fn.run fRepeat) := by
  refine fn_meetsN (m_bytes_Repeat C hC) fun ds rows r h => ?_
  obtain ⟨d, e, b, n, rfl, rfl, hd, he, hp, rfl⟩ := fn2_some h
  obtain ⟨x, hx⟩ := rdBs_nrm hd
  cases rdI_some he
  simp only [Bool.and_eq_true, decide_eq_true_eq] at hp
  obtain ⟨⟨hb, h0⟩, hn⟩ := hp
  obtain ⟨n, rfl⟩ := Int.eq_ofNat_of_zero_le h0
  refine ⟨rfl, _, .cons hx (.cons (.refl _) .nil), afun_mk rfl ?_⟩
  obtain ⟨b0, rfl⟩ : ∃ b0, b = [b0] := by
    match b, hb with
    | [b0], _ => exact ⟨b0, rfl⟩
  clear h hd he hx hb
  unfold a_bytes_Repeat r_bytes_Repeat
  have hbs : bs [b0] = [.raw (u8 b0)] := rfl
  have hg : [b0].getD 0 0#8 = b0 := rfl
  simp only [hbs, hg, Int.toNat_natCast]
  by_cases hz : n = 0
  · subst hz
    simp only [↓amD, amU, Nat.reduceBEq, Nat.reduceAdd, Nat.reduceSub, Nat.reduceMul, Nat.reduceMod, Nat.reducePow, Nat.reduceLT, Nat.reduceDiv, Int.reduceToNat, BitVec.reduceToNat, zipEnv, Int.reduceLE, Int.reduceLT, Int.reduceNeg, BitVec.reduceEq, Int.reduceAdd, Int.reduceSub, Int.reduceMul, Nat.reduceLeDiff, Int.reduceEq]
    exact .own L8 0 0 0 true false _ rfl rfl (fun h => by cases h)
  · have e0 : ((n : Int) = 0) = False := eq_false (by omega)
    have e1 : ((n : Int) < 0) = False := eq_false (by omega)
    have e2 : BitVec.ofInt 64 (n : Int) = BitVec.ofNat 64 n := by simp
    have hnn : (BitVec.ofNat 64 n).toNat = n := by simp; omega
    have e3 : BitVec.ofInt 64 1 = 1#64 := by decide
    have km := fun rows k => kMul64 rows k (BitVec.ofNat 64 n) (by omega)
    have e4 : (0#64 < 0#64) = False := eq_false (by decide)
    have e5 : (9223372036854775807#64 < BitVec.ofNat 64 n) = False := eq_false (by rw [BitVec.lt_def, hnn]; simp; omega)
    have e6 : wz (n : Int) = (n : Int) := wz_id (by omega)
    have main : ∀ c : Nat, c = min n 8192 → True := fun _ _ => trivial
    obtain ⟨c, hc⟩ : ∃ c, c = min n 8192 := ⟨_, rfl⟩
    have hcz : ((n : Int) = ((n : Nat) : Int)) := rfl
    have z1 : ((0 : Int) ≤ (n : Int)) = True := eq_true (by omega)
    have z2 : ((n : Int) ≤ 1099511627776) = True := eq_true (by omega)
    have z3 : ∀ l : List (BitVec 8), (l.map fun b => D.raw (.int .u8 (b.toNat : Int))) = bs l := fun _ => rfl
    by_cases hbig : 8192 < n
    all_goals
      have e7 : ((8192 : Int) < (n : Int)) = (8192 < n) := by rw [eq_iff_iff]; omega
      simp only [hbig, not_true_eq_false, not_false_eq_true] at e7
      have z4 : Int.tdiv 8192 1 = 8192 := by decide
      simp only [↓amD, amU, Nat.reduceBEq, Nat.reduceAdd, Nat.reduceSub, Nat.reduceMul, Nat.reduceMod, Nat.reducePow, Nat.reduceLT, Nat.reduceDiv, Int.reduceToNat, BitVec.reduceToNat, zipEnv, Int.reduceLE, Int.reduceLT, Int.reduceNeg, BitVec.reduceEq, Int.reduceAdd, Int.reduceSub, Int.reduceMul, Nat.reduceLeDiff, Int.reduceEq, e0, e1, e2, e3, e4, e5, e6, e7, hm, km, hnn, z1, z2, z3, z4]
      try simp only [↓amD, amU, Nat.reduceBEq, Nat.reduceAdd, Nat.reduceSub, Nat.reduceMul, Nat.reduceMod, Nat.reducePow, Nat.reduceLT, Nat.reduceDiv, Int.reduceToNat, BitVec.reduceToNat, zipEnv, Int.reduceLE, Int.reduceLT, Int.reduceNeg, BitVec.reduceEq, Int.reduceAdd, Int.reduceSub, Int.reduceMul, Nat.reduceLeDiff, Int.reduceEq, e0, e1, e2, e3, e4, e5, e6, e7, hm, km, hnn, z1, z2, z3, z4]
      intro l hl
      refine Eq.mpr (copy_own (l := l) (src := [b0]) rfl (by omega)) ?_
      have hm1 : min [b0].length (n - 0) = 1 := by simp; omega
      have hsp : (splice l 0 ([b0].take 1)).take 1 = List.replicate 1 b0 := by simp [splice]
      have hsl : (splice l 0 ([b0].take 1)).length = n := by rw [splice_len _ _ _ (by simp; omega), hl]
      rw [hm1]
      generalize splice l 0 ([b0].take 1) = l1 at *
      simp only [↓amD, amU, Nat.reduceBEq, Nat.reduceAdd, Nat.reduceSub, Nat.reduceMul, Nat.reduceMod, Nat.reducePow, Nat.reduceLT, Nat.reduceDiv, Int.reduceToNat, BitVec.reduceToNat, zipEnv, Int.reduceLE, Int.reduceLT, Int.reduceNeg, BitVec.reduceEq, Int.reduceAdd, Int.reduceSub, Int.reduceMul, Nat.reduceLeDiff, Int.reduceEq]
      refine kLoop_inv (fun k env rows => ∃ bp : Nat, ∃ l2 : List (BitVec 8), k = n - bp ∧ 1 ≤ bp ∧ bp ≤ n ∧ l2.length = n ∧ l2.take bp = List.replicate bp b0 ∧ has env [(10, .raw (it (bp : Int))), (7, .raw (it (n : Int))), (8, .raw (it (c : Int))), (9, .sl L8 0 [] 0 n (exOf (some (n : Int)) n n n false))] ∧ rows = [some ⟨L8, bs l2⟩]) ?_ (n - 1) ⟨1, l1, rfl, Nat.le_refl _, by omega, hsl, hsp, ?_, rfl⟩
      · rintro k env rows ⟨bp, l2, rfl, hb1, hbn, hl2, ht, hh, rfl⟩ R hR
        simp only [has] at hh
        obtain ⟨h10, h7, h8, h9, -⟩ := hh
        by_cases hlt : bp < n
        · have f0 : ((bp : Int) < (n : Int)) = True := eq_true (by omega)
          have f1 : min (bp : Int) (c : Int) = ((min bp c : Nat) : Int) := by omega
          have f2 : ((0 : Int) ≤ (bp : Int)) = True := eq_true (by omega)
          have f3 : ((bp : Int) ≤ (n : Int)) = True := eq_true (by omega)
          have f4 : ((0 : Int) ≤ ((min bp c : Nat) : Int)) = True := eq_true (by omega)
          have f5 : (((min bp c : Nat) : Int) ≤ (n : Int)) = True := eq_true (by omega)
          simp only [↓amD, amU, Nat.reduceBEq, Nat.reduceAdd, Nat.reduceSub, Nat.reduceMul, Nat.reduceMod, Nat.reducePow, Nat.reduceLT, Nat.reduceDiv, Int.reduceToNat, BitVec.reduceToNat, zipEnv, Int.reduceLE, Int.reduceLT, Int.reduceNeg, BitVec.reduceEq, Int.reduceAdd, Int.reduceSub, Int.reduceMul, Nat.reduceLeDiff, Int.reduceEq, h10, h7, h8, h9, f0, f1, f2, f3, f4, f5, decide_true]
          rw [Nat.sub_zero, bs_take]
          refine ⟨by rw [bs_len, List.length_take]; omega, Eq.mpr (copy_own rfl (by omega)) ?_⟩
          obtain ⟨m, hm'⟩ : ∃ m, m = min ((l2.take (min bp c)).length) (n - bp) := ⟨_, rfl⟩
          have hm2 : m = min (min bp c) (n - bp) := by rw [hm', List.length_take]; omega
          have hr := rep_take l2 b0 bp (min bp c) n hl2 ht hbn (by omega) m hm2
          have hsl2 : (splice l2 bp ((l2.take (min bp c)).take m)).length = n := by rw [splice_len _ _ _ (by rw [List.length_take, List.length_take]; omega), hl2]
          rw [← hm']
          generalize splice l2 bp ((l2.take (min bp c)).take m) = l3 at *
          have f6 : wz ((bp : Int) + (m : Int)) = ((bp + m : Nat) : Int) := by rw [wz_id (by omega)]; omega
          simp only [↓amD, amU, Nat.reduceBEq, Nat.reduceAdd, Nat.reduceSub, Nat.reduceMul, Nat.reduceMod, Nat.reducePow, Nat.reduceLT, Nat.reduceDiv, Int.reduceToNat, BitVec.reduceToNat, zipEnv, Int.reduceLE, Int.reduceLT, Int.reduceNeg, BitVec.reduceEq, Int.reduceAdd, Int.reduceSub, Int.reduceMul, Nat.reduceLeDiff, Int.reduceEq, h10, h7, h8, h9, f6]
          exact hR (n - (bp + m)) _ _ (by omega) ⟨bp + m, l3, rfl, by omega, by omega, hsl2, hr, by simp only [has, ↓amD, amU, Nat.reduceBEq, Nat.reduceAdd, Nat.reduceSub, Nat.reduceMul, Nat.reduceMod, Nat.reducePow, Nat.reduceLT, Nat.reduceDiv, Int.reduceToNat, BitVec.reduceToNat, zipEnv, Int.reduceLE, Int.reduceLT, Int.reduceNeg, BitVec.reduceEq, Int.reduceAdd, Int.reduceSub, Int.reduceMul, Nat.reduceLeDiff, Int.reduceEq, h7, h8, h9], rfl⟩
        · obtain rfl : bp = n := by omega
          have f0 : ((bp : Int) < (bp : Int)) = False := eq_false (by omega)
          rw [List.take_of_length_le (by omega)] at ht
          simp only [↓amD, amU, Nat.reduceBEq, Nat.reduceAdd, Nat.reduceSub, Nat.reduceMul, Nat.reduceMod, Nat.reducePow, Nat.reduceLT, Nat.reduceDiv, Int.reduceToNat, BitVec.reduceToNat, zipEnv, Int.reduceLE, Int.reduceLT, Int.reduceNeg, BitVec.reduceEq, Int.reduceAdd, Int.reduceSub, Int.reduceMul, Nat.reduceLeDiff, Int.reduceEq, h10, h7, h8, h9, f0, decide_false, ht]
          subst ht
          exact Own.expo (l := List.replicate bp b0) (.inr ⟨0, _, by rw [bs_len, List.length_replicate], rfl⟩)
      · simp only [has, ↓amD, amU, Nat.reduceBEq, Nat.reduceAdd, Nat.reduceSub, Nat.reduceMul, Nat.reduceMod, Nat.reducePow, Nat.reduceLT, Nat.reduceDiv, Int.reduceToNat, BitVec.reduceToNat, zipEnv, Int.reduceLE, Int.reduceLT, Int.reduceNeg, BitVec.reduceEq, Int.reduceAdd, Int.reduceSub, Int.reduceMul, Nat.reduceLeDiff, Int.reduceEq, hc, Nat.sub_zero]
        first | (rw [show min n 8192 = 8192 by omega]; rfl) | rw [show min n 8192 = n by omega]
theorem kRepeat {rows : Rows} {d : D} {b : BitVec 8} (h : BsIn rows d [b]) (n : Nat) (hn : n ≤ 1048576) (k : D → Rows → Prop) :
    kCall fRepeat rows k [d, .raw (it (n : Int))] = k (.sl L8 (0 + rows.length) [] 0 n false) (rows ++ [some ⟨L8, bs (List.replicate n b)⟩]) := by
  refine (kCall_bs_raw h (rdI_eq (n : Int)) (by simp; omega) rfl).trans ?_
  simp [outBs, shift, shiftRows, Sh.pure]
end Job
end Go.Am
