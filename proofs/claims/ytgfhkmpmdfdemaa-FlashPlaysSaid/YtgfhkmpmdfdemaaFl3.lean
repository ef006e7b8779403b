/- the flash: what is read -/
import Derived.Test.YtgfhkmpmdfdemaaFl2
namespace Go.Am
set_option linter.unusedSimpArgs false
set_option linter.unusedVariables false
attribute [local congr] bnd_congr kCond_congr kGd_congr kPick_congr kCall_congr kIdx_congr kSlice_congr kLoop_congr cond_congr' aBin_congr aBounds_congr aApp_congr aCopy_congr kFn_congr
namespace Job
open Go.Am.F
set_option maxRecDepth 10000
theorem errW_0 {x : List (BitVec 8)} {e : Bool} {a n : Int} (h : errW (some (x, e)) a n = 0) : 0 ≤ a ∧ 0 ≤ n ∧ a ≤ x.length ∧ n ≤ x.length - a := by
  simp only [errW] at h
  split at h
  · cases h
  · omega
theorem errP_0 {x : List (BitVec 8)} {e : Bool} {i : Int} (h : errP (some (x, e)) i = 0) : 0 ≤ i ∧ 256 * i + 256 ≤ x.length := by
  simp only [errP] at h
  split at h
  · cases h
  · omega
def sub (x : List (BitVec 8)) (a n : Nat) : List (BitVec 8) := (x.drop a).take n
theorem sub_len {x : List (BitVec 8)} {a n : Nat} (h : a + n ≤ x.length) : (sub x a n).length = n := by
  rw [sub, List.length_take, List.length_drop]; omega
def flDat : FV → List (BitVec 8)
  | none => []
  | some (x, _) => x
def outR (K : FV) (a n : Int) : D × Rows :=
  if errW K a n = 0 then (.tup [.sl L8 0 [] 0 n.toNat false, .raw (it 0)], [some ⟨L8, bs (sub (flDat K) a.toNat n.toNat)⟩]) else (.tup [.raw (.slice none 0 0), .raw (it (errW K a n))], [])
noncomputable def fRead : Fn := fn3 (rdOf flD) rdI rdI (fun K _ _ => decide (flLen K ≤ 1048576)) outR
theorem lstIn (rows : Rows) (l : List (BitVec 8)) (e : Bool) : BsIn rows (.lst L8 (bs l) e) l := IsBs.to (.inr ⟨e, rfl⟩)
theorem flIn_c (rows : Rows) (K : FV) : FlIn rows (flD K) K := by
  refine .inr ⟨rfl, ?_⟩
  rcases K with _ | ⟨x, e⟩ <;> simp [flD, hasRef, hasRefL, Sh.pure]
theorem read_ok (C : Ctx) (hC : CtxOK C P) (hw : C.fn 26 = some fWithin) (hc : C.fn 27 = some fClone) : Meets C.glob P 15 (Fn.run fRead) := by
  refine fn_meets (m_flash_Flash_Read C hC) fun ds rows r h => ?_
  obtain ⟨d, e, f, K, a, n, rfl, rfl, hd, he, hf, hp, rfl⟩ := fn3_some h
  cases rdOf_some hd
  cases rdI_some he
  cases rdI_some hf
  simp only [decide_eq_true_eq] at hp
  refine ⟨rfl, afun_mk rfl ?_⟩
  clear h hd he hf
  unfold a_flash_Flash_Read r_flash_Flash_Read
  have k1 := fun rows k => kWithin (flIn_c rows K) hp a n k
  by_cases h0 : errW K a n = 0
  · rw [outR, if_pos h0]
    rcases K with _ | ⟨x, e⟩
    · cases h0
    simp only [flLen] at hp
    obtain ⟨b1, b2, b3, b4⟩ := errW_0 h0
    rw [h0] at k1
    obtain ⟨a, rfl⟩ := Int.eq_ofNat_of_zero_le b1
    obtain ⟨n, rfl⟩ := Int.eq_ofNat_of_zero_le b2
    have e1 : wz ((a : Int) + (n : Int)) = ((a + n : Nat) : Int) := by rw [wz_id (by omega)]; omega
    have e2 : ((0 : Int) ≤ (a : Int)) = True := eq_true (by omega)
    have e3 : ((a : Int) ≤ ((a + n : Nat) : Int)) = True := eq_true (by omega)
    have e4 : (((a + n : Nat) : Int) ≤ (x.length : Int)) = True := eq_true (by omega)
    have e5 : a + n - a = n := by omega
    have hsl : (sub x a n).length = n := sub_len (by omega)
    have kc := fun rows k e => kClone rows k (.lst L8 (bs (sub x a n)) e) (sub x a n) (lstIn rows _ e) (by omega)
    rw [hsl] at kc
    have hsb : ((x.drop a).take n) = sub x a n := rfl
    simp only [flD] at k1 ⊢
    simp only [↓amD, amU, Nat.reduceBEq, Nat.reduceAdd, Nat.reduceSub, Nat.reduceMul, Nat.reduceMod, Nat.reducePow, Nat.reduceLT, Nat.reduceDiv, Int.reduceToNat, BitVec.reduceToNat, zipEnv, Int.reduceLE, Int.reduceLT, Int.reduceNeg, BitVec.reduceEq, Int.reduceAdd, Int.reduceSub, Int.reduceMul, Nat.reduceLeDiff, Int.reduceEq, hw, k1, hc, kc, bs_len, bs_drop, bs_take, hsb, e1, e2, e3, e4, e5, flDat]
    exact .ownT L8 0 0 n _ false _ _ rfl rfl rfl (fun h => by cases h)
  · rw [outR, if_neg h0]
    have h1 : (errW K a n = 0) = False := eq_false h0
    simp only [↓amD, amU, Nat.reduceBEq, Nat.reduceAdd, Nat.reduceSub, Nat.reduceMul, Nat.reduceMod, Nat.reducePow, Nat.reduceLT, Nat.reduceDiv, Int.reduceToNat, BitVec.reduceToNat, zipEnv, Int.reduceLE, Int.reduceLT, Int.reduceNeg, BitVec.reduceEq, Int.reduceAdd, Int.reduceSub, Int.reduceMul, Nat.reduceLeDiff, Int.reduceEq, hw, k1, h1]
    exact .val _ rfl
theorem kRead {rows : Rows} {d : D} {K : FV} (h : FlIn rows d K) (hl : flLen K ≤ 1048576) (a n : Int) (k : D → Rows → Prop) : kCall fRead rows k [d, .raw (it a), .raw (it n)] = k (shift rows.length (outR K a n).1) (rows ++ shiftRows rows.length (outR K a n).2) := by
  refine kCall_fl h rfl rfl (r := outR K a n) ?_ ?_ k
  · simp only [fRead, fn3_ev, rdOf_eq flD_inj, rdI_eq, Option.bind_some, hl, decide_true, cond_true]
  · unfold outR; split <;> rfl
theorem kRead_ok {rows : Rows} {r m : Nat} {x : List (BitVec 8)} (h : FlAt rows r m x) (hl : x.length ≤ 1048576) (a n : Nat) (ha : a + n ≤ x.length) (k : D → Rows → Prop) :
    kCall fRead rows k [.ptr SF r [0], .raw (it (a : Int)), .raw (it (n : Int))] = k (.tup [.sl L8 rows.length [] 0 n false, .raw (it 0)]) (rows ++ [some ⟨L8, bs (sub x a n)⟩]) := by
  obtain ⟨e, h⟩ := h.to
  rw [kRead h hl]
  have h0 : errW (some (x, e)) (a : Int) (n : Int) = 0 := by
    simp only [errW]; rw [if_neg (by omega)]
  rw [outR, if_pos h0]
  simp [shift, shiftL, shiftRows, Sh.pure, flDat]
/-- blank? -/
def all255 (l : List (BitVec 8)) : Prop := ∀ i, i < l.length → l.getD i 0#8 = 255#8
noncomputable def blankB (K : FV) (f p : Int) : Bool := open Classical in
  if p < 0 ∨ 1024 < p ∨ f < 0 ∨ 1024 < f ∨ errW K (256 * f) (256 * p) ≠ 0 then false else decide (all255 (sub (flDat K) (256 * f.toNat) (256 * p.toNat)))
noncomputable def fBlank : Fn := fn3 (rdOf flD) rdI rdI (fun K _ _ => decide (flLen K ≤ 1048576)) fun K f p => (.raw (.bool (blankB K f p)), [])
theorem blank_ok (C : Ctx) (hC : CtxOK C P) (hw : C.fn 26 = some fWithin) : Meets C.glob P 11 (Fn.run fBlank) := by
  refine fn_meets (m_flash_Flash_Blank C hC) fun ds rows r h => ?_
  obtain ⟨d, e, g, K, f, p, rfl, rfl, hd, he, hf, hp, rfl⟩ := fn3_some h
  cases rdOf_some hd
  cases rdI_some he
  cases rdI_some hf
  simp only [decide_eq_true_eq] at hp
  refine ⟨rfl, afun_mk rfl ?_⟩
  clear h hd he hf
  unfold a_flash_Flash_Blank r_flash_Flash_Blank
  by_cases c1 : p < 0
  · have hb : blankB K f p = false := by rw [blankB, if_pos (.inl c1)]
    simp only [↓amD, amU, Nat.reduceBEq, Nat.reduceAdd, Nat.reduceSub, Nat.reduceMul, Nat.reduceMod, Nat.reducePow, Nat.reduceLT, Nat.reduceDiv, Int.reduceToNat, BitVec.reduceToNat, zipEnv, Int.reduceLE, Int.reduceLT, Int.reduceNeg, BitVec.reduceEq, Int.reduceAdd, Int.reduceSub, Int.reduceMul, Nat.reduceLeDiff, Int.reduceEq, c1, hb, decide_true]
    exact .val _ rfl
  by_cases c2 : 1024 < p
  · have hb : blankB K f p = false := by rw [blankB, if_pos (.inr (.inl c2))]
    simp only [↓amD, amU, Nat.reduceBEq, Nat.reduceAdd, Nat.reduceSub, Nat.reduceMul, Nat.reduceMod, Nat.reducePow, Nat.reduceLT, Nat.reduceDiv, Int.reduceToNat, BitVec.reduceToNat, zipEnv, Int.reduceLE, Int.reduceLT, Int.reduceNeg, BitVec.reduceEq, Int.reduceAdd, Int.reduceSub, Int.reduceMul, Nat.reduceLeDiff, Int.reduceEq, c1, c2, hb, decide_true, decide_false]
    exact .val _ rfl
  by_cases c3 : f < 0
  · have hb : blankB K f p = false := by rw [blankB, if_pos (.inr (.inr (.inl c3)))]
    simp only [↓amD, amU, Nat.reduceBEq, Nat.reduceAdd, Nat.reduceSub, Nat.reduceMul, Nat.reduceMod, Nat.reducePow, Nat.reduceLT, Nat.reduceDiv, Int.reduceToNat, BitVec.reduceToNat, zipEnv, Int.reduceLE, Int.reduceLT, Int.reduceNeg, BitVec.reduceEq, Int.reduceAdd, Int.reduceSub, Int.reduceMul, Nat.reduceLeDiff, Int.reduceEq, c1, c2, c3, hb, decide_true, decide_false]
    exact .val _ rfl
  by_cases c4 : 1024 < f
  · have hb : blankB K f p = false := by rw [blankB, if_pos (.inr (.inr (.inr (.inl c4))))]
    simp only [↓amD, amU, Nat.reduceBEq, Nat.reduceAdd, Nat.reduceSub, Nat.reduceMul, Nat.reduceMod, Nat.reducePow, Nat.reduceLT, Nat.reduceDiv, Int.reduceToNat, BitVec.reduceToNat, zipEnv, Int.reduceLE, Int.reduceLT, Int.reduceNeg, BitVec.reduceEq, Int.reduceAdd, Int.reduceSub, Int.reduceMul, Nat.reduceLeDiff, Int.reduceEq, c1, c2, c3, c4, hb, decide_true, decide_false]
    exact .val _ rfl
  have k1 := fun rows k => kWithin (flIn_c rows K) hp (256 * f) (256 * p) k
  have w1 : wz (256 * f) = 256 * f := wz_id (by omega)
  have w2 : wz (256 * p) = 256 * p := wz_id (by omega)
  by_cases c5 : errW K (256 * f) (256 * p) = 0
  · rcases K with _ | ⟨x, e⟩
    · cases c5
    simp only [flLen] at hp
    obtain ⟨b1, b2, b3, b4⟩ := errW_0 c5
    rw [c5] at k1
    obtain ⟨f, rfl⟩ := Int.eq_ofNat_of_zero_le (by omega : 0 ≤ f)
    obtain ⟨p, rfl⟩ := Int.eq_ofNat_of_zero_le (by omega : 0 ≤ p)
    have hb : blankB (some (x, e)) (f : Int) (p : Int) = (open Classical in decide (all255 (sub x (256 * f) (256 * p)))) := by
      rw [blankB, if_neg (by rw [c5]; omega)]; rfl
    rw [hb]
    have w3 : wz ((f : Int) + (p : Int)) = ((f + p : Nat) : Int) := by rw [wz_id (by omega)]; omega
    have w4 : wz (256 * ((f + p : Nat) : Int)) = ((256 * (f + p) : Nat) : Int) := by rw [wz_id (by omega)]; omega
    have w5 : (256 * (f : Int)) = ((256 * f : Nat) : Int) := by omega
    have e2 : ((0 : Int) ≤ ((256 * f : Nat) : Int)) = True := eq_true (by omega)
    have e3 : (((256 * f : Nat) : Int) ≤ ((256 * (f + p) : Nat) : Int)) = True := eq_true (by omega)
    have e4 : (((256 * (f + p) : Nat) : Int) ≤ (x.length : Int)) = True := eq_true (by omega)
    have e5 : 256 * (f + p) - 256 * f = 256 * p := by omega
    have hsl : (sub x (256 * f) (256 * p)).length = 256 * p := sub_len (by omega)
    have hsb : ((x.drop (256 * f)).take (256 * p)) = sub x (256 * f) (256 * p) := rfl
    rw [w5] at w1 k1
    simp only [flD] at k1 ⊢
    simp only [↓amD, amU, Nat.reduceBEq, Nat.reduceAdd, Nat.reduceSub, Nat.reduceMul, Nat.reduceMod, Nat.reducePow, Nat.reduceLT, Nat.reduceDiv, Int.reduceToNat, BitVec.reduceToNat, zipEnv, Int.reduceLE, Int.reduceLT, Int.reduceNeg, BitVec.reduceEq, Int.reduceAdd, Int.reduceSub, Int.reduceMul, Nat.reduceLeDiff, Int.reduceEq, hw, k1, w1, w2, w3, w4, w5, bs_len, bs_drop, bs_take, hsb, hsl, e2, e3, e4, e5, c1, c2, c3, c4, decide_false, decide_true]
    generalize sub x (256 * f) (256 * p) = s at *
    refine kLoop_up (256 * p) (fun i env rows => (∃ e, has env [(44, .raw (it (i : Int))), (43, .raw (it ((256 * p : Nat) : Int))), (42, .lst L8 (bs s) e)]) ∧ rows = [] ∧ ∀ j, j < i → s.getD j 0#8 = 255#8) ?_ ?_ ⟨⟨exOf none (256 * (f + p)) (256 * (f + p)) x.length e, ?_⟩, rfl, fun j h => by omega⟩
    · rintro i hi env rows ⟨⟨e6, hh⟩, rfl, hc⟩ R hR
      simp only [has] at hh
      obtain ⟨h44, h43, h42, -⟩ := hh
      have e0 : ((i : Int) < ((256 * p : Nat) : Int)) = True := eq_true (by omega)
      have e2 := wz_succ i (by omega)
      have g1 : ∀ rows k, kIdx L8 (i : Int) rows k (.lst L8 (bs s) e6) = k (.cptr (.raw (u8 (s.getD i 0#8)))) rows := fun rows k => idx_bs s e6 i (by omega) rows k
      by_cases hz : s.getD i 0#8 = 255#8
      · simp only [↓amD, amU, Nat.reduceBEq, Nat.reduceAdd, Nat.reduceSub, Nat.reduceMul, Nat.reduceMod, Nat.reducePow, Nat.reduceLT, Nat.reduceDiv, Int.reduceToNat, BitVec.reduceToNat, zipEnv, Int.reduceLE, Int.reduceLT, Int.reduceNeg, BitVec.reduceEq, Int.reduceAdd, Int.reduceSub, Int.reduceMul, Nat.reduceLeDiff, Int.reduceEq, h44, h43, h42, e0, e2, g1, hz, decide_true]
        exact hR _ _ ⟨⟨e6, by simp only [has, ↓amD, amU, Nat.reduceBEq, Nat.reduceAdd, Nat.reduceSub, Nat.reduceMul, Nat.reduceMod, Nat.reducePow, Nat.reduceLT, Nat.reduceDiv, Int.reduceToNat, BitVec.reduceToNat, zipEnv, Int.reduceLE, Int.reduceLT, Int.reduceNeg, BitVec.reduceEq, Int.reduceAdd, Int.reduceSub, Int.reduceMul, Nat.reduceLeDiff, Int.reduceEq, h43, h42]⟩, rfl, fun j hj => by
          rcases Nat.lt_or_ge j i with h | h
          · exact hc j h
          · obtain rfl : j = i := by omega
            exact hz⟩
      · have hno : (open Classical in decide (all255 s)) = false := by
          classical
          rw [decide_eq_false_iff_not]
          exact fun h => hz (h i (by omega))
        have hz' : (s.getD i 0#8 = 255#8) = False := eq_false hz
        simp only [↓amD, amU, Nat.reduceBEq, Nat.reduceAdd, Nat.reduceSub, Nat.reduceMul, Nat.reduceMod, Nat.reducePow, Nat.reduceLT, Nat.reduceDiv, Int.reduceToNat, BitVec.reduceToNat, zipEnv, Int.reduceLE, Int.reduceLT, Int.reduceNeg, BitVec.reduceEq, Int.reduceAdd, Int.reduceSub, Int.reduceMul, Nat.reduceLeDiff, Int.reduceEq, h44, h43, h42, e0, e2, g1, hz', hno, decide_true, decide_false]
        exact .val _ rfl
    · rintro env rows ⟨⟨e6, hh⟩, rfl, hc⟩ R
      simp only [has] at hh
      obtain ⟨h44, h43, h42, -⟩ := hh
      have e0 : (((256 * p : Nat) : Int) < ((256 * p : Nat) : Int)) = False := eq_false (by omega)
      have hy : (open Classical in decide (all255 s)) = true := by
        classical
        rw [decide_eq_true_iff]
        intro i hi
        exact hc i (by omega)
      simp only [↓amD, amU, Nat.reduceBEq, Nat.reduceAdd, Nat.reduceSub, Nat.reduceMul, Nat.reduceMod, Nat.reducePow, Nat.reduceLT, Nat.reduceDiv, Int.reduceToNat, BitVec.reduceToNat, zipEnv, Int.reduceLE, Int.reduceLT, Int.reduceNeg, BitVec.reduceEq, Int.reduceAdd, Int.reduceSub, Int.reduceMul, Nat.reduceLeDiff, Int.reduceEq, h44, h43, h42, e0, hy, decide_false]
      exact .val _ rfl
    · simp only [has, ↓amD, amU, Nat.reduceBEq, Nat.reduceAdd, Nat.reduceSub, Nat.reduceMul, Nat.reduceMod, Nat.reducePow, Nat.reduceLT, Nat.reduceDiv, Int.reduceToNat, BitVec.reduceToNat, zipEnv, Int.reduceLE, Int.reduceLT, Int.reduceNeg, BitVec.reduceEq, Int.reduceAdd, Int.reduceSub, Int.reduceMul, Nat.reduceLeDiff, Int.reduceEq]
  · have hb : blankB K f p = false := by rw [blankB, if_pos (.inr (.inr (.inr (.inr c5))))]
    have c5' : (errW K (256 * f) (256 * p) = 0) = False := eq_false c5
    simp only [↓amD, amU, Nat.reduceBEq, Nat.reduceAdd, Nat.reduceSub, Nat.reduceMul, Nat.reduceMod, Nat.reducePow, Nat.reduceLT, Nat.reduceDiv, Int.reduceToNat, BitVec.reduceToNat, zipEnv, Int.reduceLE, Int.reduceLT, Int.reduceNeg, BitVec.reduceEq, Int.reduceAdd, Int.reduceSub, Int.reduceMul, Nat.reduceLeDiff, Int.reduceEq, c1, c2, c3, c4, hw, k1, w1, w2, c5', hb, decide_true, decide_false]
    exact .val _ rfl
theorem kBlank {rows : Rows} {d : D} {K : FV} (h : FlIn rows d K) (hl : flLen K ≤ 1048576) (a n : Int) (k : D → Rows → Prop) : kCall fBlank rows k [d, .raw (it a), .raw (it n)] = k (.raw (.bool (blankB K a n))) rows := by
  refine (kCall_fl h rfl rfl (r := (.raw (.bool (blankB K a n)), [])) ?_ rfl k).trans ?_
  · simp only [fBlank, fn3_ev, rdOf_eq flD_inj, rdI_eq, Option.bind_some, hl, decide_true, cond_true]
  · simp [shift, shiftRows]
end Job
end Go.Am
