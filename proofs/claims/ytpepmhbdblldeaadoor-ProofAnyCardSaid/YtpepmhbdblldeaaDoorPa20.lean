import Derived.Test.YtpepmhbdblldeaaDoorPa19
namespace Go.Am
set_option linter.unusedSimpArgs false
set_option linter.unusedVariables false
attribute [local congr] bnd_congr kCond_congr kGd_congr kPick_congr kCall_congr kIdx_congr kSlice_congr kLoop_congr cond_congr' aBin_congr aBounds_congr aApp_congr aCopy_congr kFn_congr
namespace Job
open Go.Am.F
set_option maxRecDepth 10000
def lqS (p : List (BitVec 8)) : BitVec 32 := numS p
def loS (p : List (BitVec 8)) : BitVec 32 := numS (p.drop 4)
def lpS (p : List (BitVec 8)) : Nat := pT (loS p).toNat
def ltS (p : List (BitVec 8)) : BitVec 32 := numS (p.drop (40 + 32 * lpS p))
def lhS (p : List (BitVec 8)) : Nat := hT (ltS p).toNat
def oneS (p : List (BitVec 8)) : List (BitVec 8) := (p.drop 4).take (36 + 32 * lpS p)
def pcS (p : List (BitVec 8)) (i : Nat) : List (BitVec 8) := (p.drop (44 + 32 * lpS p + 32 * i)).take 32
def rstS (p : List (BitVec 8)) (i : Nat) : List (BitVec 8) := p.drop (44 + 32 * lpS p + 32 * i)
def pathS (p : List (BitVec 8)) (n : Nat) : List (List (BitVec 8)) := (List.range n).map (pcS p)
def partsE (p : List (BitVec 8)) : Int :=
 if p.length < 8 then 2 else if okT (loS p).toNat = false then 6 else if p.length < 44 + 32 * lpS p then 2 else if okH (ltS p).toNat = false then 6
 else if p.length ≠ 44 + 32 * lpS p + 32 * lhS p ∨ (lqS p).toNat >>> lhS p ≠ 0 then 2 else 0
theorem partsE_0 {p : List (BitVec 8)} (h : partsE p = 0) : okT (loS p).toNat = true ∧ okH (ltS p).toNat = true ∧ p.length = 44 + 32 * lpS p + 32 * lhS p ∧ (lqS p).toNat >>> lhS p = 0 := by
 unfold partsE at h
 split at h
 ·cases h
 split at h
 ·cases h
 split at h
 ·cases h
 split at h
 ·cases h
 split at h
 ·cases h
 rename_i h1 h2 h3 h4 h5
 refine ⟨by simpa using h2, by simpa using h4, ?_, ?_⟩ <;> omega
theorem okH_pos {t : Nat} (h : okH t = true) : 1 ≤ hT t := by
 unfold okH at h
 unfold hT
 simp only [decide_eq_true_eq] at h
 split
 ·omega
 ·split <;> omega
noncomputable def fParts : Fn := fn1 rdBs (fun p => decide (p.length ≤ 1099511627776)) fun p => if partsE p = 0 then
  (.tup [.raw (u32 (lqS p)), .sl L8 0 [] 0 (36 + 32 * lpS p) false, .raw (u32 (ltS p)), .sl (.ar 32 L8) 1 [] 0 (lhS p) false, .raw (it 0)], [some ⟨L8, bs (oneS p)⟩, some ⟨.ar 32 L8, (pathS p (lhS p)).map d32D⟩])
 else (.tup [.raw (u32 0#32), .raw (.slice none 0 0), .raw (u32 0#32), .raw (.slice none 0 0), .raw (it (partsE p))], [])
set_option maxHeartbeats 4000000 in
theorem parts_ok (C CT : Ctx) (hC : CtxOK C P) (h1 : C.fn 57 = some fLNum) (h2 : C.fn 45 = some fHeight) (h3 : C.fn 40 = some fParams) (h4 : C.fn 55 = some fNoneP) (n5 : C.fn 56 = none) (r5 : C.fnr 56 = some (afun CT 2 r_lms_take a_lms_take)) :
  Meets C.glob P 30 (Fn.run fParts) := by
 refine fn_meetsN (m_lms_Parts C hC) fun ds rows r h => ?_
 obtain ⟨d, p, rfl, rfl, hd, hp, rfl⟩ := fn1_some h
 obtain ⟨x, hx⟩ := rdBs_nrm hd
 refine ⟨rfl, _, .cons hx .nil, afun_mk rfl ?_⟩
 simp only [decide_eq_true_eq] at hp
 clear h hx hd
 unfold a_lms_Parts r_lms_Parts
 have mb : memB 55 [55] = true := rfl
 by_cases hl : p.length < 4
 ·have hq : partsE p = 2 := by unfold partsE; rw [if_pos (by omega)]
  have c1 : ((p.length : Int) < 4) = True := eq_true (by omega)
  rw [hq, if_neg (by decide)]
  simp only [↓amD, amU, simprocAttr, zipEnv, amR, bs_len, q_afun, n5, r5, a_lms_take, r_lms_take, c1, mb, h4, kNoneP]
  exact .val _ rfl
 have c1 : ((p.length : Int) < 4) = False := eq_false (by omega)
 have g1 : ((4 : Int) ≤ (p.length : Int)) = True := eq_true (by omega)
 have tk : (bs (p.drop 4)).take (p.length - 4) = bs (p.drop 4) := List.take_of_length_le (by rw [bs_len, List.length_drop]; exact Nat.le_refl _)
 by_cases h8 : p.length < 8
 ·have hq : partsE p = 2 := by unfold partsE; rw [if_pos h8]
  have c2 : (((p.length - 4 : Nat) : Int) < 4) = True := eq_true (by omega)
  rw [hq, if_neg (by decide)]
  simp only [↓amD, amU, simprocAttr, zipEnv, amR, bs_len, q_afun, n5, r5, a_lms_take, r_lms_take, c1, c2, g1, bs_drop, tk, List.length_drop, mb, h4, kNoneP]
  exact .val _ rfl
 have c2 : (((p.length - 4 : Nat) : Int) < 4) = False := eq_false (by omega)
 have d4 : 4 ≤ (p.drop 4).length := by rw [List.length_drop]; omega
 have kL := fun rows k e => kLNumL rows k (p.drop 4) e d4
 have eo : numS (p.drop 4) = loS p := rfl
 have par_fits : ∀ x : Par, D.fits (.agg SPar [.raw (it (x.w : Int)), .raw (it (x.p : Int)), .raw (it (x.l : Int))]) SPar = true := fun x => rfl
 rw [eo] at kL
 cases ho : okT (loS p).toNat with
 | false =>
  have hq : partsE p = 6 := by unfold partsE; rw [if_neg h8, if_pos ho]
  rw [hq, if_neg (by decide)]
  simp only [↓amD, amU, simprocAttr, zipEnv, amR, bs_len, q_afun, n5, r5, a_lms_take, r_lms_take, c1, c2, g1, bs_drop, tk, List.length_drop, mb, h4, kNoneP, h1, kL, h3, kParams, parD, ho, par_fits, Bool.not_false]
  exact .val _ rfl
 | true =>
 have hpt : lpS p ≤ 265 := (parT_ok ho).2.2.1
 have ep : ((parT (loS p).toNat).p : Int) = ((lpS p : Nat) : Int) := rfl
 have q1 : wz ((lpS p : Int) + 1) = ((lpS p + 1 : Nat) : Int) := wz_succ _ (by omega)
 have q2 : wz (32 * ((lpS p + 1 : Nat) : Int)) = ((32 * (lpS p + 1) : Nat) : Int) := by rw [wz_id (by omega)]; omega
 have q3 : wz (4 + ((32 * (lpS p + 1) : Nat) : Int)) = ((36 + 32 * lpS p : Nat) : Int) := by rw [wz_id (by omega)]; omega
 simp only [↓amD, amU, simprocAttr, zipEnv, amR, bs_len, q_afun, n5, r5, a_lms_take, r_lms_take, c1, c2, g1, bs_drop, tk, List.length_drop, mb, h4, kNoneP, h1, kL, h3, kParams, parD, ho, par_fits, Bool.not_true, ep, q1, q2, q3]
 have b0 : ∀ n : Nat, ((0 : Int) ≤ (n : Int)) = True := fun n => eq_true (by omega)
 by_cases c : p.length - 4 < 36 + 32 * lpS p
 ·have hq : partsE p = 2 := by unfold partsE; rw [if_neg h8, if_neg (by rw [ho]; decide), if_pos (by omega)]
  have c3 : (((p.length - 4 : Nat) : Int) < ((36 + 32 * lpS p : Nat) : Int)) = True := eq_true (by omega)
  rw [hq, if_neg (by decide)]
  simp only [↓amD, amU, simprocAttr, zipEnv, amR, c3, mb, h4, kNoneP]
  exact .val _ rfl
 have c3 : (((p.length - 4 : Nat) : Int) < ((36 + 32 * lpS p : Nat) : Int)) = False := eq_false (by omega)
 have c4 : (((36 + 32 * lpS p : Nat) : Int) ≤ ((p.length - 4 : Nat) : Int)) = True := eq_true (by omega)
 have tk2 : List.take (p.length - 4 - (36 + 32 * lpS p)) (List.drop (36 + 32 * lpS p) (List.drop 4 p)) = p.drop (40 + 32 * lpS p) := by
  rw [List.drop_drop, List.take_of_length_le (by rw [List.length_drop]; omega)]
  congr 1; omega
 have tk1 : List.take (36 + 32 * lpS p) (List.drop 4 p) = oneS p := rfl
 by_cases h3' : p.length < 44 + 32 * lpS p
 ·have hq : partsE p = 2 := by unfold partsE; rw [if_neg h8, if_neg (by rw [ho]; decide), if_pos h3']
  have c5 : (((p.length - (40 + 32 * lpS p) : Nat) : Int) < 4) = True := eq_true (by omega)
  rw [hq, if_neg (by decide)]
  simp only [↓amD, amU, simprocAttr, zipEnv, amR, c3, c4, c5, b0, bs_len, List.length_drop, bs_drop, bs_take, tk2, mb, h4, kNoneP]
  exact .val _ rfl
 have c5 : (((p.length - (40 + 32 * lpS p) : Nat) : Int) < 4) = False := eq_false (by omega)
 have d5 : 4 ≤ (p.drop (40 + 32 * lpS p)).length := by rw [List.length_drop]; omega
 have kT := fun rows k e => kLNumL rows k (p.drop (40 + 32 * lpS p)) e d5
 rw [show numS (p.drop (40 + 32 * lpS p)) = ltS p from rfl] at kT
 cases hh : okH (ltS p).toNat with
 | false =>
  have hq : partsE p = 6 := by unfold partsE; rw [if_neg h8, if_neg (by rw [ho]; decide), if_neg h3', if_pos hh]
  rw [hq, if_neg (by decide)]
  simp only [↓amD, amU, simprocAttr, zipEnv, amR, c3, c4, c5, b0, bs_len, List.length_drop, bs_drop, bs_take, tk2, mb, h4, kNoneP, h1, kT, h2, kHeight, hh, Bool.not_false]
  exact .val _ rfl
 | true =>
 have hh1 := okH_pos hh
 have hh2 := hT_le (ltS p).toNat
 have ehh : hT (ltS p).toNat = lhS p := rfl
 rw [ehh] at hh1 hh2
 have d0 : 4 ≤ (p.take 4).length := by rw [List.length_take]; omega
 have kQ := fun rows k e => kLNumL rows k (p.take 4) e d0
 rw [numS_take p 4 (Nat.le_refl _), show numS p = lqS p from rfl] at kQ
 have c6 : ((4 : Int) ≤ ((p.length - (40 + 32 * lpS p) : Nat) : Int)) = True := eq_true (by omega)
 have c7 : wz (32 * ((lhS p : Nat) : Int)) = ((32 * lhS p : Nat) : Int) := by rw [wz_id (by omega)]; omega
 have tk3 : List.take (p.length - (40 + 32 * lpS p) - 4) (List.drop 4 (List.drop (40 + 32 * lpS p) p)) = p.drop (44 + 32 * lpS p) := by
  rw [List.drop_drop, List.take_of_length_le (by rw [List.length_drop]; omega)]
  congr 1; omega
 simp only [↓amD, amU, simprocAttr, zipEnv, amR, c3, c4, c5, c6, c7, b0, bs_len, List.length_drop, bs_drop, bs_take, tk2, tk3, mb, h4, kNoneP, h1, kT, kQ, h2, kHeight, hh, ehh, Bool.not_true]
 have bq : ∀ m : Nat, (lqS p >>> m = 0#32) ↔ (lqS p).toNat >>> m = 0 := fun m => by
  constructor
  ·intro h; have := congrArg BitVec.toNat h; simpa using this
  ·intro h; apply BitVec.eq_of_toNat_eq; simpa using h
 by_cases cl : p.length = 44 + 32 * lpS p + 32 * lhS p
 rotate_left
 ·have hq : partsE p = 2 := by unfold partsE; rw [if_neg h8, if_neg (by rw [ho]; decide), if_neg h3', if_neg (by rw [hh]; decide), if_pos (.inl cl)]
  have c8 : (((p.length - (44 + 32 * lpS p) : Nat) : Int) = ((32 * lhS p : Nat) : Int)) = False := eq_false (by omega)
  rw [hq, if_neg (by decide)]
  simp only [↓amD, amU, simprocAttr, zipEnv, amR, c8, mb, h4, kNoneP]
  exact .val _ rfl
 have c8 : (((p.length - (44 + 32 * lpS p) : Nat) : Int) = ((32 * lhS p : Nat) : Int)) = True := eq_true (by omega)
 by_cases cq : (lqS p).toNat >>> lhS p = 0
 rotate_left
 ·have hq : partsE p = 2 := by unfold partsE; rw [if_neg h8, if_neg (by rw [ho]; decide), if_neg h3', if_neg (by rw [hh]; decide), if_pos (.inr cq)]
  have c9 : (lqS p >>> lhS p = 0#32) = False := eq_false (fun h => cq ((bq _).1 h))
  rw [hq, if_neg (by decide)]
  simp only [↓amD, amU, simprocAttr, zipEnv, amR, c8, c9, b0, Int.toNat_natCast, mb, h4, kNoneP]
  exact .val _ rfl
 have hq : partsE p = 0 := by unfold partsE; rw [if_neg h8, if_neg (by rw [ho]; decide), if_neg h3', if_neg (by rw [hh]; decide), if_neg (by omega)]
 have c9 : (lqS p >>> lhS p = 0#32) = True := eq_true ((bq _).2 cq)
 rw [if_pos hq]
 simp only [↓amD, amU, simprocAttr, zipEnv, amR, c8, c9, b0, Int.toNat_natCast]
 have hcl : ∀ i, i < lhS p → (pcS p i).length = 32 := fun i hi => by rw [pcS, List.length_take, List.length_drop]; omega
 have hds : ∀ i, (pathS p i).map d32D ++ [.agg (.ar 32 L8) (bs (pcS p i))] = (pathS p (i + 1)).map d32D := fun i => by simp [pathS, List.range_succ, d32D]
 have hdl : ∀ i, (pathS p i).length = i := fun i => by simp [pathS]
 have tk1' : List.take (36 + 32 * lpS p - 0) (List.drop 4 p) = oneS p := rfl
 rw [tk1']
 generalize exOf (some (((36 + 32 * lpS p : Nat) : Int))) (36 + 32 * lpS p) (36 + 32 * lpS p) (p.length - 4) (exOf none p.length p.length p.length x) = e12
 generalize exOf none (p.length - (40 + 32 * lpS p)) (p.length - (40 + 32 * lpS p)) (p.length - (40 + 32 * lpS p)) (exOf none (p.length - 4) (p.length - 4) (p.length - 4) (exOf none p.length p.length p.length x)) = e0
 have er : List.drop (44 + 32 * lpS p) p = rstS p 0 := rfl
 have hrl : ∀ i, i ≤ lhS p → (rstS p i).length = 32 * (lhS p - i) := fun i hi => by rw [rstS, List.length_drop]; omega
 have hrn : ∀ i, List.drop 32 (rstS p i) = rstS p (i + 1) := fun i => by rw [rstS, List.drop_drop]; rfl
 have hrt : ∀ i, List.take 32 (rstS p i) = pcS p i := fun i => rfl
 rw [er]
 refine kLoop_up (lhS p) (fun i env rows => has env [(13, .raw (u32 (ltS p))), (15, .raw (u32 (lqS p))), (8, .ptr .ref 0 [0]), (12, .lst L8 (bs (oneS p)) e12)] ∧
  (∃ e, live rows 0 = some ⟨.ref, [.lst L8 (bs (rstS p i)) e]⟩) ∧ ∃ d', look env 16 = some d' ∧ Own (.ar 32 L8) d' rows ((pathS p i).map d32D) ∧ (∀ r ex n, d' = .sl (.ar 32 L8) r [] 0 n ex → 1 ≤ r)) ?_ ?_ ⟨?_, ⟨e0, rfl⟩, .raw (.slice none 0 0), ?_, .inl ⟨rfl, rfl⟩, fun r ex n h => ?_⟩
 ·rintro i hi env rows ⟨hw, ⟨e', r0⟩, d', h16, hO, hne⟩ R hR
  simp only [has] at hw
  have hl := hrl i (by omega)
  have hn := hrn i
  have ht := hrt i
  have hpl := hcl i hi
  have hln : (rstS p (i + 1)).length = 32 * (lhS p - i) - 32 := by rw [hrl _ (by omega)]; omega
  have f0 : ((0 : Int) < ((32 * (lhS p - i) : Nat) : Int)) = True := eq_true (by omega)
  have f1 : (((32 * (lhS p - i) : Nat) : Int) < 32) = False := eq_false (by omega)
  have f2 : ((32 : Int) ≤ ((32 * (lhS p - i) : Nat) : Int)) = True := eq_true (by omega)
  have lt0 := live_lt r0
  have w0 := fun y => live_set_eq (y := y) r0
  generalize 32 * (lhS p - i) = M at *
  have tkn : List.take (M - 32) (rstS p (i + 1)) = rstS p (i + 1) := List.take_of_length_le (by omega)
  have tkp : List.take 32 (pcS p i) = pcS p i := List.take_of_length_le (by omega)
  generalize rstS p i = X at *
  simp only [↓amD, amU, simprocAttr, zipEnv, amR, hw, h16, r0, w0, bs_len, hl, f0, f1, f2, bs_drop, bs_take, q_afun, n5, r5, a_lms_take, r_lms_take, b0, hn, ht, tkn, tkp, hpl]
  have hL : ∀ A Y, live (rows.set 0 (some A) ++ [some Y]) rows.length = some Y := fun A Y => by
   have := live_append_new (rows.set 0 (some A)) Y
   simpa using this
  have hO1 : ∀ A, Own (.ar 32 L8) d' (rows.set 0 (some A)) ((pathS p i).map d32D) := fun A => by
   rcases hO with h | ⟨r, ex, rfl, h⟩
   ·exact .inl h
   ·exact .inr ⟨r, ex, rfl, live_set_o h (by have := hne _ _ _ rfl; omega)⟩
  simp only [↓amD, amU, simprocAttr, zipEnv, hL, List.take]
  refine app_ownA (hO1 _).push (by rw [List.length_map, hdl]; simp [most]; omega) (by rw [List.length_map, hdl]; simp [most]; omega) fun rows' hl' hfr hlen' => ?_
  rw [hds] at hl'
  have r0' := hfr 0 _ (live_push (w0 _)) (fun ex n e => by have := hne _ _ _ e; omega)
  have hlg : ∀ A : Row, (rows.set 0 (some A) ++ [some (⟨.ar 32 L8, [.agg (.ar 32 L8) (bs (pcS p i))]⟩ : Row)]).length = rows.length + 1 := fun A => by simp
  rw [hlg] at hl'
  simp only [↓amD, amU, simprocAttr, zipEnv, amR, hw, hlg]
  refine hR _ _ ⟨by simp only [has, ↓amD, amU, simprocAttr, zipEnv, hw], ⟨_, r0'⟩, .sl (.ar 32 L8) (rows.length + 1) [] 0 ((pathS p i).length + 1) false, by simp only [↓amD, amU, simprocAttr, zipEnv, List.length_map, hlg], .inr ⟨_, false, by rw [List.length_map, hdl, hdl], hl'⟩, fun r ex n e => by injection e with _ e; omega⟩
 ·rintro env rows ⟨hw, ⟨e', r0⟩, d', h16, hO, hne⟩ R
  simp only [has] at hw
  have hl := hrl (lhS p) (Nat.le_refl _)
  rw [Nat.sub_self, Nat.mul_zero] at hl
  have hol : (oneS p).length = 36 + 32 * lpS p := by rw [oneS, List.length_take, List.length_drop]; omega
  simp only [↓amD, amU, simprocAttr, zipEnv, amR, hw, h16, r0, bs_len, hl, hO.nTup]
  refine ⟨by rw [hol]; omega, by rw [hol]; omega, ?_⟩
  rw [hol]
  have hp1 : 1 ≤ (pathS p (lhS p)).length := by rw [hdl]; exact hh1
  rcases hO with ⟨h, _⟩ | ⟨r, ex1, rfl, hlv⟩
  ·have := congrArg List.length h; rw [List.length_map, List.length_nil] at this; omega
  ·have hlt := live_lt hlv
   rw [List.length_map, hdl]
   have l1 : live (rows ++ [none, some (⟨L8, bs (oneS p)⟩ : Row)]) (rows.length + 1) = some ⟨L8, bs (oneS p)⟩ := by rw [lv_appk]; rfl
   exact .own2 [.raw (u32 (lqS p))] [.raw (u32 (ltS p))] [.raw (it 0)] L8 (.ar 32 L8) (rows.length + 1) r 0 _ 0 _ false false ex1 false _ _ l1 (live_push hlv) (by omega) rfl rfl rfl rfl rfl (fun h => h) (fun h => by cases h)
 ·simp only [has, ↓amD, amU, simprocAttr, zipEnv]
 ·simp only [↓amD, amU, simprocAttr, zipEnv]
 ·cases h
theorem oneS_len {p : List (BitVec 8)} (h : partsE p = 0) : (oneS p).length = 36 + 32 * lpS p := by
 obtain ⟨-, -, h, -⟩ := partsE_0 h
 rw [oneS, List.length_take, List.length_drop]; omega
theorem pathS_len (p : List (BitVec 8)) (n : Nat) : (pathS p n).length = n := by simp [pathS]
theorem pathS_32 {p : List (BitVec 8)} (h : partsE p = 0) : ∀ x ∈ pathS p (lhS p), x.length = 32 := by
 obtain ⟨-, -, h, -⟩ := partsE_0 h
 intro x hx
 obtain ⟨i, hi, rfl⟩ := List.mem_map.1 hx
 have := List.mem_range.1 hi
 rw [pcS, List.length_take, List.length_drop]; omega
theorem kParts (rows : Rows) (k : D → Rows → Prop) (d : D) (p : List (BitVec 8)) (hd : BsIn rows d p) (hp : p.length ≤ 1099511627776) (he : partsE p = 0) :
  kCall fParts rows k [d] = k (.tup [.raw (u32 (lqS p)), .sl L8 (0 + rows.length) [] 0 (36 + 32 * lpS p) false, .raw (u32 (ltS p)), .sl (.ar 32 L8) (1 + rows.length) [] 0 (lhS p) false, .raw (it 0)])
   (rows ++ [some ⟨L8, bs (oneS p)⟩, some ⟨.ar 32 L8, (pathS p (lhS p)).map d32D⟩]) := by
 refine (kCall_rd1 (RdIn.bs hd) (by simpa using hp) (by simp only [if_pos he]; rfl) k).trans ?_
 simp only [if_pos he]
 simp [shift, shiftL, shiftRows, Sh.pure]
theorem kPartsE (rows : Rows) (k : D → Rows → Prop) (d : D) (p : List (BitVec 8)) (hd : BsIn rows d p) (hp : p.length ≤ 1099511627776) (he : ¬ partsE p = 0) :
  kCall fParts rows k [d] = k (.tup [.raw (u32 0#32), .raw (.slice none 0 0), .raw (u32 0#32), .raw (.slice none 0 0), .raw (it (partsE p))]) rows := by
 refine (kCall_rd1 (RdIn.bs hd) (by simpa using hp) (by simp only [if_neg he]; rfl) k).trans ?_
 simp only [if_neg he]
 simp [shift, shiftL, shiftRows]
def stepC (id : List (BitVec 8)) (r : BitVec 32) (d x : List (BitVec 8)) : List (BitVec 8) := if r &&& 1#32 = 1#32 then nodeS id (r >>> 1) x d else nodeS id (r >>> 1) d x
theorem stepC_len (id : List (BitVec 8)) (r : BitVec 32) (d x : List (BitVec 8)) : (stepC id r d x).length = 32 := by
 unfold stepC; split <;> exact nodeS_len _ _ _ _
def dI (id : List (BitVec 8)) (r : BitVec 32) (d : List (BitVec 8)) (path : List (List (BitVec 8))) : Nat → List (BitVec 8)
 | 0 => d
 | i + 1 => stepC id (r >>> i) (dI id r d path i) (path.getD i [])
theorem dI_len (id : List (BitVec 8)) (r : BitVec 32) (d : List (BitVec 8)) (path : List (List (BitVec 8))) (h : d.length = 32) : ∀ i, (dI id r d path i).length = 32
 | 0 => h
 | i + 1 => stepC_len _ _ _ _
def climbS (id : List (BitVec 8)) (q : BitVec 32) (d : List (BitVec 8)) (path : List (List (BitVec 8))) : List (BitVec 8) := dI id (q + 1#32 <<< path.length) d path path.length
theorem shr_add (r : BitVec 32) (i : Nat) : (r >>> i) >>> 1 = r >>> (i + 1) := (BitVec.shiftRight_add r i 1).symm
theorem and1 (r : BitVec 32) : r % 2#32 = r &&& 1#32 := by
 apply BitVec.eq_of_toNat_eq
 rw [BitVec.toNat_umod, BitVec.toNat_and]
 exact (Nat.and_two_pow_sub_one_eq_mod r.toNat 1).symm
def rtE (pub sig : List (BitVec 8)) : Int :=
 if (readS pub).2 ≠ 0 then (readS pub).2 else if partsE sig ≠ 0 then partsE sig else if ltS sig = (readS pub).1.t ∧ loS sig = (readS pub).1.o then 0 else 6
def rtS (pub msg sig : List (BitVec 8)) : List (BitVec 8) :=
 climbS (readS pub).1.id (lqS sig) (leafS (readS pub).1.id (lqS sig + 1#32 <<< lhS sig) (claimS ⟨(readS pub).1.id, lqS sig⟩ (oneS sig) msg)) (pathS sig (lhS sig))
theorem rtS_len (pub msg sig : List (BitVec 8)) : (rtS pub msg sig).length = 32 := dI_len _ _ _ _ (leafS_len _ _ _) _
theorem claimS_len (s : Site) (p m : List (BitVec 8)) : (claimS s p m).length = 32 := sumS_len _
theorem readS_id (p : List (BitVec 8)) : (readS p).1.id.length = 16 ∧ (readS p).1.root.length = 32 := by
 unfold readS
 by_cases c : p.length = 56
 ·simp only [c, decide_true, cond_true]
  cases okH (numS p).toNat && okT (numS (p.drop 4)).toNat
  ·exact ⟨rfl, rfl⟩
  ·simp only [cond_true, keyOf, List.length_take, List.length_drop]; omega
 ·simp only [c, decide_false, cond_false]; exact ⟨rfl, rfl⟩
theorem split_one {p : List (BitVec 8)} (h : partsE p = 0) : splitE (oneS p) = 0 := by
 obtain ⟨h1, h2, h3, h4⟩ := partsE_0 h
 have hl := oneS_len h
 have hT : sigT (oneS p) = loS p := by
  show numS _ = numS _
  rw [oneS, numS_take _ _ (by omega)]
 rw [splitE, if_neg (by omega), hT, h1, hl]
 show (if 36 + 32 * lpS p = 36 + 32 * lpS p then (0 : Int) else 2) = 0
 rw [if_pos rfl]
theorem one_T {p : List (BitVec 8)} : numS (oneS p) = loS p := by rw [oneS, numS_take _ _ (by omega)]; rfl
noncomputable def fRoot : Fn := fn3 rdBs rdBs rdBs (fun a b c => decide (a.length ≤ 1099511627776) && decide (b.length ≤ 1099511627776) && decide (c.length ≤ 1099511627776)) fun a b c =>
 (.tup [d32D (if rtE a c = 0 then rtS a b c else z32), .raw (it (rtE a c))], [])
set_option maxHeartbeats 2000000 in
theorem root_ok (C : Ctx) (hC : CtxOK C P) (h1 : C.fn 39 = some fReadK) (h2 : C.fn 30 = some fParts) (h3 : C.fn 57 = some fLNum) (h4 : C.fn 31 = some fClaim) (h5 : C.fn 46 = some fLeaf) (h6 : C.fn 47 = some fNode) : Meets C.glob P 38 (Fn.run fRoot) := by
 refine fn_meetsN (m_lms_Root C hC) fun ds rows r h => ?_
 obtain ⟨d0, d1, d2, pub, msg, sig, rfl, rfl, g0, g1, g2, hp, rfl⟩ := fn3_some h
 obtain ⟨x0, hx0⟩ := rdBs_nrm g0
 obtain ⟨x1, hx1⟩ := rdBs_nrm g1
 obtain ⟨x2, hx2⟩ := rdBs_nrm g2
 simp only [Bool.and_eq_true, decide_eq_true_eq] at hp
 obtain ⟨⟨hp0, hp1⟩, hp2⟩ := hp
 refine ⟨rfl, _, .cons hx0 (.cons hx1 (.cons hx2 .nil)), afun_mk rfl ?_⟩
 clear h g0 g1 g2 hx0 hx1 hx2
 unfold a_lms_Root r_lms_Root
 have bL := fun (rows : Rows) (l : List (BitVec 8)) (e : Bool) => (IsBs.to (rows := rows) (d := .lst L8 (bs l) e) (.inr ⟨e, rfl⟩))
 have kR := fun rows k => kReadK rows k _ pub (bL rows pub x0) hp0
 have hz : D.agg SKey [.raw (u32 0#32), .raw (u32 0#32), .agg (.ar 16 L8) (List.replicate 16 (.raw (u8 0#8))), .agg (.ar 32 L8) (List.replicate 32 (.raw (u8 0#8)))] = keyD key0 := rfl
 have key_fits : ∀ k, (keyD k).fits SKey = true := fun _ => rfl
 simp only [hz, z32_eq]
 have hid := (readS_id pub).1
 have hE := readS_le pub
 by_cases c0 : (readS pub).2 = 0
 rotate_left
 ·have e : rtE pub sig = (readS pub).2 := by rw [rtE, if_pos c0]
  have c0' := eq_false c0
  rw [e, if_neg c0]
  simp only [↓amD, amU, simprocAttr, zipEnv, amR, h1, kR, key_fits, c0']
  exact .val _ rfl
 have hne : ¬ (readS pub).2 ≠ 0 := by simp [c0]
 by_cases c1 : partsE sig = 0
 rotate_left
 ·have e : rtE pub sig = partsE sig := by rw [rtE, if_neg hne, if_pos c1]
  have kP := fun rows k => kPartsE rows k _ sig (bL rows sig x2) hp2 c1
  have c1' := eq_false c1
  rw [e, if_neg c1]
  simp only [↓amD, amU, simprocAttr, zipEnv, amR, h1, kR, key_fits, c0, h2, kP, c1']
  exact .val _ rfl
 have kP := fun rows k => kParts rows k _ sig (bL rows sig x2) hp2 c1
 have hol := oneS_len c1
 have hot := @one_T sig
 have gt : ∀ k : Key, (keyD k).get [0] = some (.raw (u32 k.t)) := fun _ => rfl
 have go : ∀ k : Key, (keyD k).get [1] = some (.raw (u32 k.o)) := fun _ => rfl
 have gi : ∀ k : Key, (keyD k).get [2] = some (.agg (.ar 16 L8) (bs k.id)) := fun _ => rfl
 have hl4 : 4 ≤ (oneS sig).length := by omega
 have hlh := hT_le (ltS sig).toNat
 rw [show hT (ltS sig).toNat = lhS sig from rfl] at hlh
 have hpl := pathS_len sig (lhS sig)
 have hp32 := pathS_32 c1
 have hrt : ltS sig = (readS pub).1.t ∧ loS sig = (readS pub).1.o → rtE pub sig = 0 := fun h => by rw [rtE, if_neg hne, if_neg (by simp [c1]), if_pos h]
 have hrn : ¬ (ltS sig = (readS pub).1.t ∧ loS sig = (readS pub).1.o) → rtE pub sig = 6 := fun h => by rw [rtE, if_neg hne, if_neg (by simp [c1]), if_neg h]
 have hsp := split_one c1
 have hrS : rtS pub msg sig = climbS (readS pub).1.id (lqS sig) (leafS (readS pub).1.id (lqS sig + 1#32 <<< lhS sig) (claimS ⟨(readS pub).1.id, lqS sig⟩ (oneS sig) msg)) (pathS sig (lhS sig)) := rfl
 rw [hrS]
 have hE0 : (readS pub).2 = 0 := c0
 rw [hE0] at kR
 clear hE c0 hne hE0
 generalize (readS pub).1 = K at *
 by_cases ht : ltS sig = K.t
 rotate_left
 ·have e := hrn (fun h => ht h.1)
  have ht' := eq_false ht
  rw [e, if_neg (by decide)]
  simp only [↓amD, amU, simprocAttr, zipEnv, amR, h1, kR, key_fits, h2, kP, h3, gt, ht']
  exact .val _ rfl
 have ht' := eq_true ht
 have kN := fun rows k hd => kLNum rows k (.sl L8 2 [] 0 (36 + 32 * lpS sig) false) (oneS sig) hd hl4
 rw [hot] at kN
 have kN0 := fun k => kN [some ⟨.ar 32 L8, [.agg (.ar 32 L8) (bs z32)]⟩, some ⟨SKey, [keyD K]⟩, some ⟨L8, bs (oneS sig)⟩, some ⟨.ar 32 L8, (pathS sig (lhS sig)).map d32D⟩] k (BsIn.own rfl _ hol.symm)
 by_cases ho : loS sig = K.o
 rotate_left
 ·have e := hrn (fun h => ho h.2)
  have ho' := eq_false ho
  rw [e, if_neg (by decide)]
  simp only [↓amD, amU, simprocAttr, zipEnv, amR, h1, kR, key_fits, h2, kP, h3, gt, go, ht', ho', kN0]
  exact .val _ rfl
 have ho' := eq_true ho
 have e := hrt ⟨ht, ho⟩
 rw [e, if_pos rfl]
 have hcl := claimS_len ⟨K.id, lqS sig⟩ (oneS sig) msg
 simp only [↓amD, amU, simprocAttr, zipEnv, amR, h1, kR, key_fits, h2, kP, h3, gt, go, gi, ht', ho', kN0, h4]
 refine Eq.mpr (kClaim _ _ ⟨K.id, lqS sig⟩ _ _ (oneS sig) msg (BsIn.own rfl _ hol.symm) (bL _ msg x1) hid (by have := (partsE_0 c1).2.2.1; omega) hsp) ?_
 have b0 : ∀ n : Nat, ((0 : Int) ≤ (n : Int)) = True := fun n => eq_true (by omega)
 generalize claimS ⟨K.id, lqS sig⟩ (oneS sig) msg = CL at *
 simp only [↓amD, amU, simprocAttr, zipEnv, amR, gi, b0, Int.toNat_natCast, h5, kLeaf _ _ _ _ _ hid hcl]
 have hdl := dI_len K.id (lqS sig + 1#32 <<< lhS sig) (leafS K.id (lqS sig + 1#32 <<< lhS sig) CL) (pathS sig (lhS sig)) (leafS_len _ _ _)
 have hcs : climbS K.id (lqS sig) (leafS K.id (lqS sig + 1#32 <<< lhS sig) CL) (pathS sig (lhS sig)) = dI K.id (lqS sig + 1#32 <<< lhS sig) (leafS K.id (lqS sig + 1#32 <<< lhS sig) CL) (pathS sig (lhS sig)) (lhS sig) := by rw [climbS, hpl]
 rw [hcs]
 have hd0 : leafS K.id (lqS sig + 1#32 <<< lhS sig) CL = dI K.id (lqS sig + 1#32 <<< lhS sig) (leafS K.id (lqS sig + 1#32 <<< lhS sig) CL) (pathS sig (lhS sig)) 0 := rfl
 generalize leafS K.id (lqS sig + 1#32 <<< lhS sig) CL = L0 at *
 generalize lqS sig + 1#32 <<< lhS sig = R0 at *
 generalize hN : lhS sig = N at *
 generalize pathS sig N = l at *
 refine kLoop_up N (fun i env rows => has env [(77, .raw (it (i : Int))), (76, .raw (it (N : Int))), (75, .sl (.ar 32 L8) 3 [] 0 N false), (16, .raw (u32 (R0 >>> i))), (8, .ptr SKey 1 [0]), (17, .ptr (.ar 32 L8) 5 [0]), (6, .ptr (.ar 32 L8) 0 [0])] ∧
  live rows 0 = some ⟨.ar 32 L8, [.agg (.ar 32 L8) (bs z32)]⟩ ∧ live rows 1 = some ⟨SKey, [keyD K]⟩ ∧ live rows 3 = some ⟨.ar 32 L8, l.map d32D⟩ ∧ live rows 5 = some ⟨.ar 32 L8, [.agg (.ar 32 L8) (bs (dI K.id R0 L0 l i))]⟩) ?_ ?_ ⟨?_, rfl, rfl, rfl, rfl⟩
 ·rintro i hi env rows ⟨hh, r0, r1, r3, r5⟩ R hR
  simp only [has] at hh
  have e0 : ((i : Int) < (N : Int)) = True := eq_true (by omega)
  have e1 := wz_succ i (by omega)
  have hil : i < l.length := by omega
  have hxl := hp32 _ (List.getElem_mem hil)
  have g : (l.map d32D)[i]? = some (.agg (.ar 32 L8) (bs l[i])) := by simp [d32D, hil]
  have hcl2 := hdl i
  have hn : dI K.id R0 L0 l (i + 1) = stepC K.id (R0 >>> i) (dI K.id R0 L0 l i) l[i] := by
   show stepC _ _ _ (l.getD i []) = _
   simp [List.getD, hil]
  have lt0 := live_lt r0
  have lt1 := live_lt r1
  have lt3 := live_lt r3
  have lt5 := live_lt r5
  rw [hn] at hR
  generalize l[i] = x at *
  generalize dI K.id R0 L0 l i = dc at *
  have r1A := fun L => live_app r1 L
  have r5A := fun L => live_app r5 L
  have hs := shr_add R0 i
  have hst : stepC K.id (R0 >>> i) dc x = if R0 >>> i &&& 1#32 = 1#32 then nodeS K.id (R0 >>> (i + 1)) x dc else nodeS K.id (R0 >>> (i + 1)) dc x := by rw [stepC, hs]
  have s1 : (1#64).toNat = 1 := rfl
  by_cases hb : (R0 >>> i &&& 1#32 = 1#32)
  ·rw [hst, if_pos hb] at hR
   have eb := eq_true hb
   simp only [↓amD, amU, simprocAttr, zipEnv, amR, hh, e0, e1, b0, g, r3, r1A, r5A, gi, s1, hs, eb, h6, kNode _ _ _ _ _ _ hid hxl hcl2]
   refine hR _ _ ⟨by simp only [has, ↓amD, amU, simprocAttr, zipEnv, hh], ?_, ?_, ?_, ?_⟩
   ·rw [live_set_ne (by omega)]; exact live_push r0
   ·rw [live_set_ne (by omega)]; exact live_push r1
   ·rw [live_set_ne (by omega)]; exact live_push r3
   ·exact live_set_eq (live_push r5)
  ·rw [hst, if_neg hb] at hR
   have eb := eq_false hb
   simp only [↓amD, amU, simprocAttr, zipEnv, amR, hh, e0, e1, b0, g, r3, r1A, r5A, gi, s1, hs, eb, h6, kNode _ _ _ _ _ _ hid hcl2 hxl]
   refine hR _ _ ⟨by simp only [has, ↓amD, amU, simprocAttr, zipEnv, hh], ?_, ?_, ?_, ?_⟩
   ·rw [live_set_ne (by omega)]; exact live_push r0
   ·rw [live_set_ne (by omega)]; exact live_push r1
   ·rw [live_set_ne (by omega)]; exact live_push r3
   ·exact live_set_eq (live_push r5)
 ·rintro env rows ⟨hh, r0, r1, r3, r5⟩ R
  simp only [has] at hh
  have e0 : ((N : Int) < (N : Int)) = False := eq_false (by omega)
  have w1 := fun x => live_set_eq (y := x) r0
  simp only [↓amD, amU, simprocAttr, zipEnv, amR, hh, e0, r5, r0, w1]
  exact .val _ rfl
 ·have e : R0 >>> 0 = R0 := by simp
  rw [e]
  simp only [has, ↓amD, amU, simprocAttr, zipEnv]
theorem kRoot (rows : Rows) (k : D → Rows → Prop) (d0 d1 d2 : D) (a b c : List (BitVec 8)) (h0 : BsIn rows d0 a) (h1 : BsIn rows d1 b) (h2 : BsIn rows d2 c) (ha : a.length ≤ 1099511627776) (hb : b.length ≤ 1099511627776) (hc : c.length ≤ 1099511627776) :
  kCall fRoot rows k [d0, d1, d2] = k (.tup [.agg (.ar 32 L8) (bs (if rtE a c = 0 then rtS a b c else z32)), .raw (it (rtE a c))]) rows := by
 refine (kCall_rd3 (.bs h0) (.bs h1) (.bs h2) (by simp [ha, hb, hc]) rfl k).trans ?_
 simp [d32D, shift, shiftL, shiftRows, Sh.pure]
def verE (pub msg sig : List (BitVec 8)) : Int := if rtE pub sig = 0 then (if rtS pub msg sig = (readS pub).1.root then 0 else 5) else rtE pub sig
noncomputable def fVerify : Fn := fn3 rdBs rdBs rdBs (fun a b c => decide (a.length ≤ 1099511627776) && decide (b.length ≤ 1099511627776) && decide (c.length ≤ 1099511627776)) fun a b c => (.raw (it (verE a b c)), [])
theorem verify_ok (C : Ctx) (hC : CtxOK C P) (h1 : C.fn 39 = some fReadK) (h2 : C.fn 38 = some fRoot) : Meets C.glob P 14 (Fn.run fVerify) := by
 refine fn_meetsN (m_lms_Verify C hC) fun ds rows r h => ?_
 obtain ⟨d0, d1, d2, pub, msg, sig, rfl, rfl, g0, g1, g2, hp, rfl⟩ := fn3_some h
 obtain ⟨x0, hx0⟩ := rdBs_nrm g0
 obtain ⟨x1, hx1⟩ := rdBs_nrm g1
 obtain ⟨x2, hx2⟩ := rdBs_nrm g2
 simp only [Bool.and_eq_true, decide_eq_true_eq] at hp
 obtain ⟨⟨hp0, hp1⟩, hp2⟩ := hp
 refine ⟨rfl, _, .cons hx0 (.cons hx1 (.cons hx2 .nil)), afun_mk rfl ?_⟩
 clear h g0 g1 g2 hx0 hx1 hx2
 unfold a_lms_Verify r_lms_Verify
 have bL := fun (rows : Rows) (l : List (BitVec 8)) (e : Bool) => (IsBs.to (rows := rows) (d := .lst L8 (bs l) e) (.inr ⟨e, rfl⟩))
 have hz : D.agg SKey [.raw (u32 0#32), .raw (u32 0#32), .agg (.ar 16 L8) (List.replicate 16 (.raw (u8 0#8))), .agg (.ar 32 L8) (List.replicate 32 (.raw (u8 0#8)))] = keyD key0 := rfl
 have key_fits : ∀ k, (keyD k).fits SKey = true := fun _ => rfl
 have gr : ∀ k : Key, (keyD k).get [3] = some (.agg (.ar 32 L8) (bs k.root)) := fun _ => rfl
 have kR := fun rows k => kReadK rows k _ pub (bL rows pub x0) hp0
 have kT := fun rows k => kRoot rows k _ _ _ pub msg sig (bL rows pub x0) (bL rows msg x1) (bL rows sig x2) hp0 hp1 hp2
 simp only [hz, z32_eq]
 by_cases c0 : rtE pub sig = 0
 ·have e := rtS_len pub msg sig
  have e2 := (readS_id pub).2
  have eq := eqA_d32 (rtS pub msg sig) (readS pub).1.root e e2
  have hv : verE pub msg sig = if rtS pub msg sig = (readS pub).1.root then 0 else 5 := by rw [verE, if_pos c0]
  rw [hv]
  simp only [c0, if_true] at kT
  by_cases c1 : rtS pub msg sig = (readS pub).1.root
  ·rw [if_pos c1]
   rw [decide_eq_true c1] at eq
   simp only [↓amD, amU, simprocAttr, zipEnv, amR, h1, kR, key_fits, h2, kT, gr, eq]
   exact .val _ rfl
  ·rw [if_neg c1]
   rw [decide_eq_false c1] at eq
   simp only [↓amD, amU, simprocAttr, zipEnv, amR, h1, kR, key_fits, h2, kT, gr, eq]
   exact .val _ rfl
 ·have hv : verE pub msg sig = rtE pub sig := by rw [verE, if_neg c0]
  have c0' := eq_false c0
  rw [hv]
  simp only [↓amD, amU, simprocAttr, zipEnv, amR, h1, kR, key_fits, h2, kT, gr, c0']
  exact .val _ rfl
theorem kVerify (rows : Rows) (k : D → Rows → Prop) (d0 d1 d2 : D) (a b c : List (BitVec 8)) (h0 : BsIn rows d0 a) (h1 : BsIn rows d1 b) (h2 : BsIn rows d2 c) (ha : a.length ≤ 1099511627776) (hb : b.length ≤ 1099511627776) (hc : c.length ≤ 1099511627776) :
  kCall fVerify rows k [d0, d1, d2] = k (.raw (it (verE a b c))) rows := by
 refine (kCall_rd3 (.bs h0) (.bs h1) (.bs h2) (by simp [ha, hb, hc]) rfl k).trans ?_
 simp [shift, shiftRows]
abbrev SSig : Sh := S3
abbrev SLet : Sh := S8
abbrev SSpot : Sh := S7
abbrev SPlc : Sh := S1
abbrev MSgn : Sh := mpS LS LB
abbrev MTold : Sh := mpS SSpot LI
structure SgV where
 t : BitVec 32
 o : BitVec 32
 id : List (BitVec 8)
 seed : List (BitVec 8)
 ns : List (List (BitVec 8))
 en : Bool
 nx : BitVec 32
 sm : List D
 tm : List D
 ld : D
def sgV (s : SgV) : D := .cptr (.agg SSig [.raw (u32 s.t), .raw (u32 s.o), .agg (.ar 16 L8) (bs s.id), .agg (.ar 32 L8) (bs s.seed), .lst (.ar 32 L8) (s.ns.map d32D) s.en, .raw (u32 s.nx), .om MSgn s.sm, .om MTold s.tm, s.ld])
theorem map_d32_inj : ∀ {a b : List (List (BitVec 8))}, a.map d32D = b.map d32D → a = b
 | [], [], _ => rfl
 | [], _ :: _, h => by simp at h
 | _ :: _, [], h => by simp at h
 | x :: a, y :: b, h => by
  simp only [List.map_cons, List.cons.injEq] at h
  rw [d32D_inj x y h.1, map_d32_inj h.2]
theorem sgV_inj (x y : SgV) (h : sgV x = sgV y) : x = y := by
 obtain ⟨t, o, id, seed, ns, en, nx, sm, tm, ld⟩ := x
 obtain ⟨t', o', id', seed', ns', en', nx', sm', tm', ld'⟩ := y
 simp only [sgV, D.cptr.injEq, D.agg.injEq, List.cons.injEq, D.raw.injEq, D.lst.injEq, D.om.injEq, true_and, and_true] at h
 obtain ⟨h1, h2, h3, h4, ⟨h5, h6⟩, h7, h8, h9, h10⟩ := h
 rw [u32_inj h1, u32_inj h2, bs_inj h3, bs_inj h4, map_d32_inj h5, h6, u32_inj h7, h8, h9, h10]
def lvN (s : SgV) : Nat := s.ns.length / 2
def okSg (s : SgV) : Bool := decide (s.id.length = 16) && decide (s.seed.length = 32) && all32 s.ns && decide (4 ≤ s.ns.length) && decide (s.ns.length ≤ 2048) && decide (s.ns.length % 2 = 0) && !hasRef s.ld
theorem okSg_iff {s : SgV} : okSg s = true ↔ s.id.length = 16 ∧ s.seed.length = 32 ∧ (∀ x ∈ s.ns, x.length = 32) ∧ 4 ≤ s.ns.length ∧ s.ns.length ≤ 2048 ∧ s.ns.length % 2 = 0 ∧ hasRef s.ld = false := by
 simp only [okSg, Bool.and_eq_true, decide_eq_true_eq, all32_eq, Bool.not_eq_true']
 constructor
 ·rintro ⟨⟨⟨⟨⟨⟨h1, h2⟩, h3⟩, h4⟩, h5⟩, h6⟩, h7⟩; exact ⟨h1, h2, h3, h4, h5, h6, h7⟩
 ·rintro ⟨h1, h2, h3, h4, h5, h6, h7⟩; exact ⟨⟨⟨⟨⟨⟨h1, h2⟩, h3⟩, h4⟩, h5⟩, h6⟩, h7⟩
theorem sgV_noref {s : SgV} (h : hasRef s.ld = false) : hasRef (sgV s) = false := by
 simp [sgV, hasRef, hasRefL, Sh.pure, h]
noncomputable def fLeaves : Fn := fn1 (rdOf sgV) okSg fun s => (.raw (it (lvN s : Int)), [])
theorem leaves_ok (C : Ctx) (hC : CtxOK C P) : Meets C.glob P 24 (Fn.run fLeaves) := by
 refine fn_meets (m_lms_Signer_leaves C hC) fun ds rows r h => ?_
 obtain ⟨d, s, rfl, rfl, hd, hp, rfl⟩ := fn1_some h
 cases rdOf_some hd
 obtain ⟨hid, hsd, h32, hn4, hn, hev, hld⟩ := okSg_iff.1 hp
 refine ⟨rfl, afun_mk rfl ?_⟩
 clear h hd
 unfold a_lms_Signer_leaves r_lms_Signer_leaves
 have e1 : ((s.ns.length : Nat) : Int).tdiv 2 = ((lvN s : Nat) : Int) := rfl
 have e2 : wz ((lvN s : Nat) : Int) = ((lvN s : Nat) : Int) := wz_id (by unfold lvN; omega)
 simp only [sgV, ↓amD, amU, simprocAttr, zipEnv, amR, List.length_map, e1, e2]
 exact .val _ rfl
theorem kLeavesV (rows : Rows) (k : D → Rows → Prop) (d : D) (s : SgV) (h : RdIn rows (rdOf sgV) d s) (hp : okSg s = true) : kCall fLeaves rows k [d] = k (.raw (it (lvN s : Int))) rows := by
 refine (kCall_rd1 h hp rfl k).trans ?_
 simp [shift, shiftRows]
theorem kLeavesC (rows : Rows) (k : D → Rows → Prop) (s : SgV) (hp : okSg s = true) : kCall fLeaves rows k [sgV s] = k (.raw (it (lvN s : Int))) rows := by
 refine (kCall_val (by simp [hasRefL, sgV_noref (okSg_iff.1 hp).2.2.2.2.2.2]) (fn1_eq (rdOf_eq sgV_inj s) hp)).trans ?_
 simp [shift, shiftRows]
noncomputable def fSite : Fn := fn2 (rdOf sgV) rd32 (fun s _ => okSg s) fun s q => (siteD ⟨s.id, q⟩, [])
theorem site_ok (C : Ctx) (hC : CtxOK C P) : Meets C.glob P 26 (Fn.run fSite) := by
 refine fn_meets (m_lms_Signer_site C hC) fun ds rows r h => ?_
 obtain ⟨d, d2, s, q, rfl, rfl, hd, hd2, hp, rfl⟩ := fn2_some h
 cases rdOf_some hd
 cases rd32_some hd2
 obtain ⟨hid, hsd, h32, hn4, hn, hev, hld⟩ := okSg_iff.1 hp
 refine ⟨rfl, afun_mk rfl ?_⟩
 clear h hd hd2
 unfold a_lms_Signer_site r_lms_Signer_site
 have hz : D.agg SSite [.agg (.ar 16 L8) (List.replicate 16 (.raw (u8 0#8))), .raw (u32 0#32)] = siteD ⟨List.replicate 16 0#8, 0#32⟩ := rfl
 simp only [hz]
 simp only [sgV, ↓amD, amU, simprocAttr, zipEnv, amR, site_fits]
 exact .val _ rfl
theorem kSiteV (rows : Rows) (k : D → Rows → Prop) (d : D) (s : SgV) (q : BitVec 32) (h : RdIn rows (rdOf sgV) d s) (hp : okSg s = true) : kCall fSite rows k [d, .raw (u32 q)] = k (siteD ⟨s.id, q⟩) rows := by
 refine (kCall_rd2 h (RdIn.raw (rd32_eq q)) hp rfl k).trans ?_
 simp [siteD, shift, shiftRows, Sh.pure]
theorem kSiteC (rows : Rows) (k : D → Rows → Prop) (s : SgV) (q : BitVec 32) (hp : okSg s = true) : kCall fSite rows k [sgV s, .raw (u32 q)] = k (siteD ⟨s.id, q⟩) rows := by
 refine (kCall_val (by simp [hasRefL, sgV_noref (okSg_iff.1 hp).2.2.2.2.2.2, hasRef]) (fn2_eq (rdOf_eq sgV_inj s) (rd32_eq q) hp)).trans ?_
 simp [siteD, shift, shiftRows, Sh.pure]
noncomputable def fLeft : Fn := fn1 (rdOf sgV) okSg fun s => (.raw (it ((lvN s : Int) - (s.nx.toNat : Int))), [])
theorem left_ok (C : Ctx) (hC : CtxOK C P) (h1 : C.fn 24 = some fLeaves) : Meets C.glob P 48 (Fn.run fLeft) := by
 refine fn_meets (m_lms_Signer_Left C hC) fun ds rows r h => ?_
 obtain ⟨d, s, rfl, rfl, hd, hp, rfl⟩ := fn1_some h
 cases rdOf_some hd
 obtain ⟨hid, hsd, h32, hn4, hn, hev, hld⟩ := okSg_iff.1 hp
 refine ⟨rfl, afun_mk rfl ?_⟩
 clear h hd
 unfold a_lms_Signer_Left r_lms_Signer_Left
 have kL := fun rows k => kLeavesC rows k s hp
 have hx := s.nx.isLt
 have e2 : wz ((lvN s : Int) - (s.nx.toNat : Int)) = (lvN s : Int) - (s.nx.toNat : Int) := wz_id (by unfold lvN; omega)
 simp only [sgV] at kL
 simp only [sgV, ↓amD, amU, simprocAttr, zipEnv, amR, h1, kL, e2]
 exact .val _ rfl
theorem kLeftV (rows : Rows) (k : D → Rows → Prop) (d : D) (s : SgV) (h : RdIn rows (rdOf sgV) d s) (hp : okSg s = true) : kCall fLeft rows k [d] = k (.raw (it ((lvN s : Int) - (s.nx.toNat : Int)))) rows := by
 refine (kCall_rd1 h hp rfl k).trans ?_
 simp [shift, shiftRows]
def pubSg (s : SgV) : List (BitVec 8) := wordB s.t ++ wordB s.o ++ s.id ++ s.ns.getD 1 []
theorem pubSg_len {s : SgV} (hp : okSg s = true) : (pubSg s).length = 56 := by
 obtain ⟨hid, hsd, h32, hn4, hn, hev, hld⟩ := okSg_iff.1 hp
 have := h32 _ (List.getElem_mem (show 1 < s.ns.length by omega))
 have e : s.ns.getD 1 [] = s.ns[1]'(by omega) := by simp [List.getD, show 1 < s.ns.length by omega]
 rw [pubSg, e]
 simp only [List.length_append, this, hid]
 rfl
theorem sg_n1 {s : SgV} (hp : okSg s = true) : (s.ns.map d32D)[1]? = some (.agg (.ar 32 L8) (bs (s.ns.getD 1 []))) ∧ (s.ns.getD 1 []).length = 32 := by
 obtain ⟨hid, hsd, h32, hn4, hn, hev, hld⟩ := okSg_iff.1 hp
 have := h32 _ (List.getElem_mem (show 1 < s.ns.length by omega))
 have e : s.ns.getD 1 [] = s.ns[1]'(by omega) := by simp [List.getD, show 1 < s.ns.length by omega]
 rw [e]
 exact ⟨by simp [d32D, show 1 < s.ns.length by omega], this⟩
noncomputable def fPublicK : Fn := fn1 (rdOf sgV) okSg fun s => outBs (pubSg s) false
theorem publicK_ok (C : Ctx) (hC : CtxOK C P) (h1 : C.fn 27 = some fFour) : Meets C.glob P 15 (Fn.run fPublicK) := by
 refine fn_meets (m_lms_Signer_Public C hC) fun ds rows r h => ?_
 obtain ⟨d, s, rfl, rfl, hd, hp, rfl⟩ := fn1_some h
 cases rdOf_some hd
 obtain ⟨hid, hsd, h32, hn4, hn, hev, hld⟩ := okSg_iff.1 hp
 refine ⟨rfl, afun_mk rfl ?_⟩
 clear h hd
 unfold a_lms_Signer_Public r_lms_Signer_Public
 obtain ⟨g1, hl1⟩ := sg_n1 hp
 have b1 : ((1 : Int) < (s.ns.length : Int)) = True := eq_true (by omega)
 have w4 : ∀ x : BitVec 32, List.take 4 (bs (wordB x)) = bs (wordB x) := fun x => List.take_of_length_le (Nat.le_refl _)
 have l4 : ∀ x : BitVec 32, (bs (wordB x)).length = 4 := fun x => rfl
 have i16 : List.take 16 (bs s.id) = bs s.id := List.take_of_length_le (by rw [bs_len, hid]; exact Nat.le_refl _)
 have l16 : (bs s.id).length = 16 := by rw [bs_len, hid]
 have n32 : List.take 32 (bs (s.ns.getD 1 [])) = bs (s.ns.getD 1 []) := List.take_of_length_le (by rw [bs_len, hl1]; exact Nat.le_refl _)
 have ln : (bs (s.ns.getD 1 [])).length = 32 := by rw [bs_len, hl1]
 have t8 : List.take 8 (bs (wordB s.t ++ wordB s.o)) = bs (wordB s.t ++ wordB s.o) := List.take_of_length_le (Nat.le_refl _)
 have l8 : (bs (wordB s.t ++ wordB s.o)).length = 8 := rfl
 have l24 : (bs (wordB s.t ++ (wordB s.o ++ s.id))).length = 24 := by rw [bs_len, List.length_append, List.length_append, hid]; rfl
 have t24 : List.take 24 (bs (wordB s.t ++ (wordB s.o ++ s.id))) = bs (wordB s.t ++ (wordB s.o ++ s.id)) := List.take_of_length_le (by rw [l24]; exact Nat.le_refl _)
 simp only [sgV, ↓amD, amU, simprocAttr, zipEnv, amR, h1, kFour, w4, l4, i16, l16, t8, l8, t24, l24, n32, ln, g1, b1, bs_app, List.length_map]
 have e : bs (wordB s.t ++ (wordB s.o ++ (s.id ++ s.ns.getD 1 []))) = bs (pubSg s) := by rw [pubSg]; simp only [List.append_assoc]
 show Expo _ _ (.sl L8 0 [] 0 (pubSg s).length false) [some ⟨L8, bs (pubSg s)⟩]
 rw [pubSg_len hp, e]
 exact .own L8 4 0 56 false false ⟨L8, bs (pubSg s)⟩ rfl rfl (fun h => h)
theorem kPublicV (rows : Rows) (k : D → Rows → Prop) (d : D) (s : SgV) (h : RdIn rows (rdOf sgV) d s) (hp : okSg s = true) : kCall fPublicK rows k [d] = k (.sl L8 (0 + rows.length) [] 0 56 false) (rows ++ [some ⟨L8, bs (pubSg s)⟩]) := by
 refine (kCall_rd1 h hp rfl k).trans ?_
 simp [outBs, shift, shiftRows, Sh.pure, pubSg_len hp]
theorem xor1 (r : Nat) : r ^^^ 1 = if r % 2 = 0 then r + 1 else r - 1 := by
 have h1 : (r ^^^ 1) / 2 = r / 2 := by
  have := Nat.xor_div_two_pow (a := r) (b := 1) (n := 1)
  simpa using this
 have h2 : (r ^^^ 1) % 2 = (r + 1) % 2 := by
  have := Nat.xor_mod_two_pow (a := r) (b := 1) (n := 1)
  rw [Nat.pow_one] at this
  rw [this]
  have e0 : (0 : Nat) ^^^ 1 % 2 = 1 := rfl
  have e1 : (1 : Nat) ^^^ 1 % 2 = 0 := rfl
  rcases Nat.mod_two_eq_zero_or_one r with h | h <;> rw [h]
  ·rw [e0]; omega
  ·rw [e1]; omega
 split <;> omega
theorem xor_it (r : Nat) (h : r < 4611686018427387904) (k : D → Prop) : aBin .xor (it (r : Int)) (it 1) k = k (.raw (it ((r ^^^ 1 : Nat) : Int))) := by
 have e1 : BitVec.ofInt IntKind.i64.bits (r : Int) = BitVec.ofNat 64 r := BitVec.ofInt_natCast _ _
 have e2 : BitVec.ofInt IntKind.i64.bits (1 : Int) = BitVec.ofNat 64 1 := rfl
 have hx : r ^^^ 1 < 9223372036854775808 := by have := xor1 r; split at this <;> omega
 have e3 : (BitVec.ofNat 64 r ^^^ BitVec.ofNat 64 1).toNat = r ^^^ 1 := by
  rw [BitVec.toNat_xor, BitVec.toNat_ofNat, BitVec.toNat_ofNat, Nat.mod_eq_of_lt (by omega)]
 simp only [aBin, it, true_and]
 rw [e1, e2]
 show k (.raw (.int .i64 (wz (((BitVec.ofNat 64 r ^^^ BitVec.ofNat 64 1).toNat : Nat) : Int)))) = _
 rw [e3, wz_id (by omega)]
def pathN (s : SgV) (q : Nat) : Nat := Nat.log2 (lvN s + q)
def pathAt (s : SgV) (q i : Nat) : List (BitVec 8) := s.ns.getD (((lvN s + q) / 2 ^ i) ^^^ 1) []
def pathG (s : SgV) (q : Nat) : List (List (BitVec 8)) := (List.range (pathN s q)).map (pathAt s q)
theorem pathG_len (s : SgV) (q : Nat) : (pathG s q).length = pathN s q := by simp [pathG]
theorem path_get {s : SgV} (hp : okSg s = true) {q : Nat} (hq : q < lvN s) (i : Nat) : (s.ns.map d32D)[((lvN s + q) / 2 ^ i) ^^^ 1]? = some (.agg (.ar 32 L8) (bs (pathAt s q i))) ∧ (pathAt s q i).length = 32 ∧ ((lvN s + q) / 2 ^ i) ^^^ 1 < s.ns.length := by
 obtain ⟨hid, hsd, h32, hn4, hn, hev, hld⟩ := okSg_iff.1 hp
 have hr : (lvN s + q) / 2 ^ i ≤ lvN s + q := Nat.div_le_self _ _
 have hl : lvN s + q < s.ns.length := by unfold lvN at *; omega
 have hx := xor1 ((lvN s + q) / 2 ^ i)
 have hlt : ((lvN s + q) / 2 ^ i) ^^^ 1 < s.ns.length := by split at hx <;> omega
 have e : pathAt s q i = s.ns[((lvN s + q) / 2 ^ i) ^^^ 1] := by simp [pathAt, List.getD, hlt]
 rw [e]
 exact ⟨by simp [d32D, hlt], h32 _ (List.getElem_mem hlt), hlt⟩
theorem pathG_32 {s : SgV} (hp : okSg s = true) {q : Nat} (hq : q < lvN s) : ∀ x ∈ pathG s q, x.length = 32 := by
 intro x hx
 obtain ⟨i, _, rfl⟩ := List.mem_map.1 hx
 exact (path_get hp hq i).2.1
noncomputable def fPath : Fn := fn2 (rdOf sgV) rd32 (fun s _ => okSg s) fun s q => if q.toNat < lvN s then (.sl (.ar 32 L8) 0 [] 0 (pathN s q.toNat) false, [some ⟨.ar 32 L8, (pathG s q.toNat).map d32D⟩]) else (.raw (.slice none 0 0), [])
theorem pathN_pos {s : SgV} (hp : okSg s = true) (q : Nat) : 1 ≤ pathN s q := by
 obtain ⟨hid, hsd, h32, hn4, hn, hev, hld⟩ := okSg_iff.1 hp
 have : lvN s + q ≠ 0 := by unfold lvN; omega
 exact (Nat.le_log2 this).2 (by unfold lvN; omega)
set_option maxHeartbeats 1000000 in
theorem path_ok (C : Ctx) (hC : CtxOK C P) (h1 : C.fn 24 = some fLeaves) : Meets C.glob P 28 (Fn.run fPath) := by
 refine fn_meets (m_lms_Signer_Path C hC) fun ds rows r h => ?_
 obtain ⟨d, d2, s, q, rfl, rfl, hd, hd2, hp, rfl⟩ := fn2_some h
 cases rdOf_some hd
 cases rd32_some hd2
 obtain ⟨hid, hsd, h32, hn4, hn, hev, hld⟩ := okSg_iff.1 hp
 refine ⟨rfl, afun_mk rfl ?_⟩
 clear h hd hd2
 unfold a_lms_Signer_Path r_lms_Signer_Path
 have kL := fun rows k => kLeavesC rows k s hp
 simp only [sgV] at kL
 have hq32 := q.isLt
 have hlv : lvN s ≤ 1024 := by unfold lvN; omega
 have hcv : BitVec.ofInt 64 ((lvN s : Nat) : Int) = BitVec.ofNat 64 (lvN s) := BitVec.ofInt_natCast _ _
 by_cases hq : q.toNat < lvN s
 rotate_left
 ·have c1 : (BitVec.ofNat 64 (lvN s) ≤ q.setWidth 64) = True := eq_true (by rw [BitVec.le_def, BitVec.toNat_ofNat, BitVec.toNat_setWidth]; omega)
  rw [if_neg hq]
  simp only [sgV, ↓amD, amU, simprocAttr, zipEnv, amR, h1, kL, hcv, c1]
  exact .val _ rfl
 have c1 : (BitVec.ofNat 64 (lvN s) ≤ q.setWidth 64) = False := eq_false (by rw [BitVec.le_def, BitVec.toNat_ofNat, BitVec.toNat_setWidth]; omega)
 rw [if_pos hq]
 generalize hQ : q.toNat = Q at *
 have a1 : wz ((lvN s : Int) + (Q : Int)) = ((lvN s + Q : Nat) : Int) := by rw [wz_id (by omega)]; omega
 have hN1 := pathN_pos hp Q
 have hpg := fun i => path_get hp hq i
 have hN : ∀ i, i < pathN s Q → 1 < (lvN s + Q) / 2 ^ i := fun i hi => by
  have h0 : lvN s + Q ≠ 0 := by unfold lvN; omega
  have := (Nat.le_log2 h0 (k := i + 1)).1 hi
  rw [Nat.pow_succ] at this
  exact (Nat.le_div_iff_mul_le (Nat.two_pow_pos i)).2 (by omega)
 have hNe : (lvN s + Q) / 2 ^ pathN s Q ≤ 1 := by
  have h0 : lvN s + Q ≠ 0 := by unfold lvN; omega
  have := (Nat.log2_lt h0 (k := pathN s Q + 1)).1 (by unfold pathN; omega)
  rw [Nat.pow_succ] at this
  have := (Nat.div_lt_iff_lt_mul (Nat.two_pow_pos (pathN s Q)) (x := lvN s + Q) (y := 2)).2 (by omega)
  omega
 have hds : ∀ i, ((List.range i).map (pathAt s Q)).map d32D ++ [.agg (.ar 32 L8) (bs (pathAt s Q i))] = ((List.range (i + 1)).map (pathAt s Q)).map d32D := fun i => by simp [List.range_succ, d32D]
 simp only [sgV, ↓amD, amU, simprocAttr, zipEnv, amR, h1, kL, hcv, c1, hQ, a1]
 have e1 : ∀ (m : Nat) k, aBin .shr (it (m : Int)) (u64 1#64) k = k (.raw (it ((m / 2 ^ 1 : Nat) : Int))) := fun m k => shr_n m 1 .u64 (by decide) k
 have hR : lvN s + Q ≤ 2048 := by unfold lvN at *; omega
 have hdv : ∀ i, (lvN s + Q) / 2 ^ i ≤ 2048 := fun i => Nat.le_trans (Nat.div_le_self _ _) hR
 have hnx : ∀ i, (lvN s + Q) / 2 ^ i / 2 ^ 1 = (lvN s + Q) / 2 ^ (i + 1) := fun i => by rw [Nat.div_div_eq_div_mul, ← Nat.pow_add]
 have hR0 : (lvN s + Q) / 2 ^ 0 = lvN s + Q := by simp
 have hpG : pathG s Q = (List.range (pathN s Q)).map (pathAt s Q) := rfl
 rw [hpG]
 have hsl : hasRef s.ld = false := hld
 generalize hV : (D.agg SSig [.raw (u32 s.t), .raw (u32 s.o), .agg (.ar 16 L8) (bs s.id), .agg (.ar 32 L8) (bs s.seed), .lst (.ar 32 L8) (s.ns.map d32D) s.en, .raw (u32 s.nx), .om MSgn s.sm, .om MTold s.tm, s.ld]).cptr = V
 have hfa : V = (D.agg SSig [.raw (u32 s.t), .raw (u32 s.o), .agg (.ar 16 L8) (bs s.id), .agg (.ar 32 L8) (bs s.seed), .lst (.ar 32 L8) (s.ns.map d32D) s.en, .raw (u32 s.nx), .om MSgn s.sm, .om MTold s.tm, s.ld]).cptr := hV.symm
 refine kLoop_up (pathN s Q) (fun i env rows => has env [(6, .raw (it (((lvN s + Q) / 2 ^ i : Nat) : Int))), (0, V)] ∧ ∃ d', look env 5 = some d' ∧ Own (.ar 32 L8) d' rows (((List.range i).map (pathAt s Q)).map d32D)) ?_ ?_ ⟨?_, .raw (.slice none 0 0), ?_, .inl ⟨rfl, rfl⟩⟩
 ·rintro i hi env rows ⟨hw, d', h5, hO⟩ R hRR
  simp only [has] at hw
  obtain ⟨g1, g2, g3⟩ := hpg i
  have hgt := hN i hi
  have hle := hdv i
  have hxi := xor_it ((lvN s + Q) / 2 ^ i) (by omega)
  have hnx' := hnx i
  have hde := hds i
  have b0 : ∀ n : Nat, ((0 : Int) ≤ (n : Int)) = True := fun n => eq_true (by omega)
  generalize (lvN s + Q) / 2 ^ i = r at *
  generalize pathAt s Q i = x at *
  have f0 : ((1 : Int) < (r : Int)) = True := eq_true (by omega)
  have f1 : (((r ^^^ 1 : Nat) : Int) < (s.ns.length : Int)) = True := eq_true (by omega)
  have w0 : look env 0 = _ := hw.2.1.trans (congrArg some hfa)
  have w6 := hw.1
  simp only [↓amD, amU, simprocAttr, zipEnv, amR, w0, w6, h5, f0, hxi, b0, f1, List.length_map, g1, e1, hnx']
  have hil : (List.range i).length = i := List.length_range
  have hN12 : pathN s Q ≤ 11 := by
   have h0 : lvN s + Q ≠ 0 := by unfold lvN; omega
   have := (Nat.log2_lt h0 (k := 12)).2 (by omega)
   unfold pathN; omega
  refine app_own hO.push (by rw [List.length_map, List.length_map, hil]; simp [most]; omega) (by rw [List.length_map, List.length_map, hil]; simp [most]; omega) fun d2 rows' hO' hfr hlen' _ => ?_
  rw [hde] at hO'
  simp only [↓amD, amU, simprocAttr, zipEnv, amR, w0, w6, hxi, e1, hnx']
  exact hRR _ _ ⟨by simp only [has, ↓amD, amU, simprocAttr, zipEnv, w0, hfa], d2, by simp only [↓amD, amU, simprocAttr, zipEnv], hO'⟩
 ·rintro env rows ⟨hw, d', h5, hO⟩ R
  simp only [has] at hw
  have f0 : ((1 : Int) < (((lvN s + Q) / 2 ^ pathN s Q : Nat) : Int)) = False := eq_false (by omega)
  simp only [↓amD, amU, simprocAttr, zipEnv, amR, hw.1, h5, f0]
  rcases hO with ⟨h, _⟩ | ⟨r, ex1, rfl, hlv⟩
  ·have := congrArg List.length h
   rw [List.length_map, List.length_map, List.length_range, List.length_nil] at this
   omega
  ·rw [List.length_map, List.length_map, List.length_range]
   exact .own (.ar 32 L8) r 0 _ ex1 false _ hlv rfl (fun h => by cases h)
 ·rw [hR0]; simp only [has, ↓amD, amU, simprocAttr, zipEnv]
 ·simp only [↓amD, amU, simprocAttr, zipEnv]
theorem kPathC (rows : Rows) (k : D → Rows → Prop) (s : SgV) (q : BitVec 32) (hp : okSg s = true) (hq : q.toNat < lvN s) :
  kCall fPath rows k [sgV s, .raw (u32 q)] = k (.sl (.ar 32 L8) (0 + rows.length) [] 0 (pathN s q.toNat) false) (rows ++ [some ⟨.ar 32 L8, (pathG s q.toNat).map d32D⟩]) := by
 refine (kCall_val (by simp [hasRefL, sgV_noref (okSg_iff.1 hp).2.2.2.2.2.2, hasRef]) (fn2_eq (rdOf_eq sgV_inj s) (rd32_eq q) hp)).trans ?_
 simp only [if_pos hq]
 simp [shift, shiftRows, Sh.pure]
theorem kPathV (rows : Rows) (k : D → Rows → Prop) (d : D) (s : SgV) (q : BitVec 32) (h : RdIn rows (rdOf sgV) d s) (hp : okSg s = true) (hq : q.toNat < lvN s) :
  kCall fPath rows k [d, .raw (u32 q)] = k (.sl (.ar 32 L8) (0 + rows.length) [] 0 (pathN s q.toNat) false) (rows ++ [some ⟨.ar 32 L8, (pathG s q.toNat).map d32D⟩]) := by
 refine (kCall_rd2 h (RdIn.raw (rd32_eq q)) hp (by simp only [if_pos hq]; rfl) k).trans ?_
 simp only [if_pos hq]
 simp [shift, shiftRows, Sh.pure]
def sigF (s : SgV) (q : BitVec 32) (c m : List (BitVec 8)) : List (BitVec 8) := wordB q ++ signS s.o ⟨s.id, q⟩ s.seed c m ++ wordB s.t ++ (pathG s q.toNat).flatten
theorem pathN_le {s : SgV} (hp : okSg s = true) {q : Nat} (hq : q < lvN s) : pathN s q ≤ 11 := by
 obtain ⟨hid, hsd, h32, hn4, hn, hev, hld⟩ := okSg_iff.1 hp
 have h0 : lvN s + q ≠ 0 := by unfold lvN; omega
 have := (Nat.log2_lt h0 (k := 12)).2 (by unfold lvN at *; omega)
 unfold pathN; omega
theorem sigF_len {s : SgV} (hp : okSg s = true) {q : BitVec 32} (hq : q.toNat < lvN s) (c m : List (BitVec 8)) (hc : c.length = 32) : (sigF s q c m).length = 44 + 32 * pT s.o.toNat + 32 * pathN s q.toNat := by
 rw [sigF]
 simp only [List.length_append, signS_len _ _ _ _ _ hc, flat_len (pathG_32 hp hq), pathG_len]
 show 4 + (36 + 32 * pT s.o.toNat) + 4 + 32 * pathN s q.toNat = _
 omega
noncomputable def fForce : Fn := gn4 (rdOf sgV) rd32 (rdOf d32D) rdBs (fun s _ c m => okSg s && okT s.o.toNat && decide (c.length = 32) && decide (m.length ≤ 1099511627776)) fun s q c m =>
 if q.toNat < lvN s then (.tup [.sl L8 0 [] 0 (44 + 32 * pT s.o.toNat + 32 * pathN s q.toNat) false, .raw (it 0)], [some ⟨L8, bs (sigF s q c m)⟩]) else (.tup [.raw (.slice none 0 0), .raw (it 1)], [])
set_option maxHeartbeats 2000000 in
theorem force_ok (C : Ctx) (hC : CtxOK C P) (h1 : C.fn 24 = some fLeaves) (h2 : C.fn 26 = some fSite) (h3 : C.fn 28 = some fPath) (h4 : C.fn 27 = some fFour) (h5 : C.fn 25 = some fSign) : Meets C.glob P 10 (Fn.run fForce) := by
 refine fn_meetsN (m_lms_Signer_Force C hC) fun ds rows r h => ?_
 obtain ⟨d0, d1, d2, d3, s, q, c, m, rfl, rfl, g0, g1, g2, g3, hp, rfl⟩ := gn4_some h
 cases rdOf_some g0
 cases rd32_some g1
 cases rdOf_some g2
 obtain ⟨xm, hx⟩ := rdBs_nrm g3
 simp only [Bool.and_eq_true, decide_eq_true_eq] at hp
 obtain ⟨⟨⟨hp, ho⟩, hc⟩, hm⟩ := hp
 obtain ⟨hid, hsd, h32, hn4, hn, hev, hld⟩ := okSg_iff.1 hp
 refine ⟨rfl, _, .cons (.refl _) (.cons (.refl _) (.cons (.refl _) (.cons hx .nil))), afun_mk rfl ?_⟩
 clear h g0 g1 g2 g3 hx
 unfold a_lms_Signer_Force r_lms_Signer_Force
 have kL := fun rows k => kLeavesC rows k s hp
 have kS := fun rows k => kSiteC rows k s q hp
 have hlv : lvN s ≤ 1024 := by unfold lvN; omega
 have hq32 := q.isLt
 have hcv : BitVec.ofInt 64 ((lvN s : Nat) : Int) = BitVec.ofNat 64 (lvN s) := BitVec.ofInt_natCast _ _
 have bL := fun (rows : Rows) (l : List (BitVec 8)) (e : Bool) => (IsBs.to (rows := rows) (d := .lst L8 (bs l) e) (.inr ⟨e, rfl⟩))
 have kG := fun rows k => kSign rows k s.o ⟨s.id, q⟩ s.seed c m (.lst L8 (bs m) xm) (bL rows m xm) hid hsd hc ho
 simp only [z32_eq]
 by_cases hq : q.toNat < lvN s
 rotate_left
 ·have c1 : (BitVec.ofNat 64 (lvN s) ≤ q.setWidth 64) = True := eq_true (by rw [BitVec.le_def, BitVec.toNat_ofNat, BitVec.toNat_setWidth]; omega)
  rw [if_neg hq]
  simp only [sgV] at kL
  simp only [sgV, d32D, ↓amD, amU, simprocAttr, zipEnv, amR, h1, kL, hcv, c1]
  exact .val _ rfl
 have c1 : (BitVec.ofNat 64 (lvN s) ≤ q.setWidth 64) = False := eq_false (by rw [BitVec.le_def, BitVec.toNat_ofNat, BitVec.toNat_setWidth]; omega)
 rw [if_pos hq]
 have kP := fun rows k => kPathC rows k s q hp hq
 have hsl := signS_len s.o ⟨s.id, q⟩ s.seed c m hc
 have hN := pathN_le hp hq
 have hpl := pathG_len s q.toNat
 have hp32 := pathG_32 hp hq
 have hpt : pT s.o.toNat ≤ 265 := (parT_ok ho).2.2.1
 have hsg : sigF s q c m = wordB q ++ signS s.o ⟨s.id, q⟩ s.seed c m ++ wordB s.t ++ (pathG s q.toNat).flatten := rfl
 rw [hsg]
 generalize signS s.o ⟨s.id, q⟩ s.seed c m = SG at *
 generalize pathG s q.toNat = l at *
 generalize pathN s q.toNat = N at *
 simp only [sgV] at kL kS kP
 generalize hM : pT s.o.toNat = M at *
 have w4 : ∀ x : BitVec 32, List.take 4 (bs (wordB x)) = bs (wordB x) := fun x => List.take_of_length_le (Nat.le_refl _)
 have l4 : ∀ x : BitVec 32, (bs (wordB x)).length = 4 := fun x => rfl
 have sg1 : List.take (36 + 32 * M) (bs SG) = bs SG := List.take_of_length_le (by rw [bs_len, hsl]; exact Nat.le_refl _)
 have sg2 : (bs SG).length = 36 + 32 * M := by rw [bs_len, hsl]
 have la : (bs (wordB q ++ SG)).length = 4 + (36 + 32 * M) := by rw [bs_len, List.length_append, hsl]; rfl
 have ta : List.take (4 + (36 + 32 * M)) (bs (wordB q ++ SG)) = bs (wordB q ++ SG) := List.take_of_length_le (by rw [la]; exact Nat.le_refl _)
 simp only [sgV, d32D, ↓amD, amU, simprocAttr, zipEnv, amR, h1, kL, hcv, c1, h2, kS, h5, kG, h4, kFour, h3, kP, w4, l4, sg1, sg2, la, ta, bs_app]
 refine ⟨by omega, by omega, by omega, by omega, ?_⟩
 generalize hT : wordB q ++ (SG ++ wordB s.t) = T0
 have e : wordB q ++ (SG ++ (wordB s.t ++ l.flatten)) = T0 ++ l.flatten := by rw [← hT]; simp only [List.append_assoc]
 have lT : T0.length = 44 + 32 * M := by rw [← hT, List.length_append, List.length_append, hsl]; show 4 + (36 + 32 * M + 4) = _; omega
 rw [e]
 have hln : l.length = N := hpl
 have hlt : ∀ i, i ≤ l.length → (T0 ++ (l.take i).flatten).length = 44 + 32 * M + 32 * i := fun i hi => by
  rw [List.length_append, lT, flat_len (fun x hx => hp32 x (List.mem_of_mem_take hx)), List.length_take]
  omega
 refine kLoop_up N (fun i env rows => has env [(57, .raw (it (i : Int))), (56, .raw (it (N : Int))), (55, .sl (.ar 32 L8) 6 [] 0 N false)] ∧
  live rows 6 = some ⟨.ar 32 L8, l.map d32D⟩ ∧ ∃ d, look env 12 = some d ∧ Own L8 d rows (bs (T0 ++ (l.take i).flatten))) ?_ ?_ ⟨?_, rfl, .sl L8 5 [] 0 (4 + (36 + (32 * M + 4))) false, by simp only [↓amD, amU, simprocAttr, zipEnv], .inr ⟨5, false, by rw [List.take_zero, List.flatten_nil, List.append_nil, bs_len, lT, show 4 + (36 + (32 * M + 4)) = 44 + 32 * M by omega], by rw [List.take_zero, List.flatten_nil, List.append_nil]; rfl⟩⟩
 ·rintro i hi env rows ⟨hh, r1, d, h7, hO⟩ R hR
  simp only [has] at hh
  have e0 : ((i : Int) < (N : Int)) = True := eq_true (by omega)
  have b0 : ∀ n : Nat, ((0 : Int) ≤ (n : Int)) = True := fun n => eq_true (by omega)
  have e1 := wz_succ i (by omega)
  have hil : i < l.length := by omega
  have hx := hp32 _ (List.getElem_mem hil)
  have g : (l.map d32D)[i]? = some (.agg (.ar 32 L8) (bs l[i])) := by simp [d32D, hil]
  have hs : T0 ++ (l.take i).flatten ++ l[i] = T0 ++ (l.take (i + 1)).flatten := by
   rw [List.append_assoc, List.take_succ_eq_append_getElem hil, List.flatten_append]; simp
  have hlen := hlt i (by omega)
  generalize l[i] = xi at *
  have lt6 := live_lt r1
  have ea : ∀ ex, elems (rows ++ [some ⟨.ar 32 L8, [.agg (.ar 32 L8) (bs xi)]⟩]) (.sl L8 rows.length [0] 0 32 ex) = some (bs xi) := fun ex => elems_arr (n := 32) (by rw [lv_app0]; rfl) rfl hx
  simp only [↓amD, amU, simprocAttr, zipEnv, amR, hh, e0, e1, b0, h7, r1, g, ea, bs_len, hx]
  refine app_own (hO.push) (by rw [bs_len, bs_len, hx, hlen]; simp [most]; omega) (by rw [bs_len, bs_len, hx, hlen]; simp [most]; omega) fun d' rows' hO' hfr hlen' _ => ?_
  rw [bs_app, hs] at hO'
  have r1' := hfr 6 _ (live_app r1 _) (fun ex => own_neA hO r1 (by decide) ex _)
  simp only [↓amD, amU, simprocAttr, zipEnv, amR, hh, e1]
  exact hR _ _ ⟨by simp only [has, ↓amD, amU, simprocAttr, zipEnv, hh], r1', d', by simp only [↓amD, amU, simprocAttr, zipEnv], hO'⟩
 ·rintro env rows ⟨hh, r1, d, h7, hO⟩ R
  simp only [has] at hh
  have e0 : ((N : Int) < (N : Int)) = False := eq_false (by omega)
  have htk : l.take N = l := List.take_of_length_le (by omega)
  rw [htk] at hO
  have hlen := hlt l.length (Nat.le_refl _)
  rw [List.take_length] at hlen
  simp only [↓amD, amU, simprocAttr, zipEnv, amR, hh, e0, h7]
  rcases hO with ⟨h, _⟩ | ⟨r, ex1, rfl, hlv⟩
  ·have := congrArg List.length h
   rw [bs_len, hlen, List.length_nil] at this
   omega
  ·have hle : (bs (T0 ++ l.flatten)).length = 44 + (32 * M + 32 * N) := by rw [bs_len, hlen]; omega
   rw [hle]
   exact .ownU [] L8 r 0 _ ex1 false _ [.raw (it 0)] hlv rfl rfl rfl (fun h => by cases h)
 ·simp only [has, ↓amD, amU, simprocAttr, zipEnv]
theorem kForceV (rows : Rows) (k : D → Rows → Prop) (d e : D) (s : SgV) (q : BitVec 32) (c m : List (BitVec 8)) (h : RdIn rows (rdOf sgV) d s) (hm : BsIn rows e m) (hp : okSg s = true) (ho : okT s.o.toNat = true) (hc : c.length = 32) (hml : m.length ≤ 1099511627776) (hq : q.toNat < lvN s) :
  kCall fForce rows k [d, .raw (u32 q), .agg (.ar 32 L8) (bs c), e] = k (.tup [.sl L8 (0 + rows.length) [] 0 (44 + 32 * pT s.o.toNat + 32 * pathN s q.toNat) false, .raw (it 0)]) (rows ++ [some ⟨L8, bs (sigF s q c m)⟩]) := by
 refine (kCall_g4 h (RdIn.raw (rd32_eq q)) (rdIn_d32 c) (.bs hm) (by simp [hp, ho, hc, hml]) (by simp only [if_pos hq]; rfl) k).trans ?_
 simp only [if_pos hq]
 simp [shift, shiftL, shiftRows, Sh.pure]
theorem shl_it (b w : Nat) (hb : b ≤ 4) (hw : w ≤ 30) (k : D → Prop) : aBin .shl (it (b : Int)) (it (w : Int)) k = k (.raw (it ((b * 2 ^ w : Nat) : Int))) := by
 have hm : min ((w : Int)).toNat IntKind.i64.bits = w := by show min ((w : Int)).toNat 64 = w; omega
 have hp : 2 ^ w ≤ 2 ^ 30 := Nat.pow_le_pow_right (by decide) hw
 have hq : b * 2 ^ w ≤ 4 * 2 ^ 30 := Nat.mul_le_mul hb hp
 have e : (b : Int) * 2 ^ w = ((b * 2 ^ w : Nat) : Int) := by simp
 simp only [aBin, it]
 rw [hm, e]
 have hz : IntKind.i64.wrap ((b * 2 ^ w : Nat) : Int) = ((b * 2 ^ w : Nat) : Int) := wz_id (by omega)
 rw [hz]
 simp
structure Plc where
 q : BitVec 32
 i : Int
 j : Int
def plcD (p : Plc) : D := .agg SPlc [.raw (u32 p.q), .raw (it p.i), .raw (it p.j)]
theorem plcD_inj (x y : Plc) (h : plcD x = plcD y) : x = y := by
 obtain ⟨q, i, j⟩ := x
 obtain ⟨q', i', j'⟩ := y
 simp only [plcD, D.agg.injEq, List.cons.injEq, D.raw.injEq, true_and, and_true, it, Value.int.injEq] at h
 rw [u32_inj h.1, h.2.1, h.2.2]
theorem plc_fits (p : Plc) : (plcD p).fits SPlc = true := rfl
theorem rdIn_plc {rows : Rows} (p : Plc) : RdIn rows (rdOf plcD) (plcD p) p := RdIn.agg rfl (rdOf_eq plcD_inj p)
def spotD (q : BitVec 32) (i : Int) : D := .agg SSpot [.raw (u32 q), .raw (it i)]
def toldO (tm : List D) (q : BitVec 32) (i : Int) : Option (Option Int) := match mfind (spotD q i) tm with
 | some none => some none
 | some (some (.int .i64 n)) => some (some n)
 | _ => none
theorem toldO_some {tm : List D} {q : BitVec 32} {i : Int} {o : Option Int} (h : toldO tm q i = some o) : mfind (spotD q i) tm = some (o.map fun n => it n) := by
 unfold toldO at h
 split at h
 ·rename_i e; cases h; exact e
 ·rename_i n e; cases h; exact e
 ·cases h
def knB (s : SgV) (p : Plc) : Bool := match toldO s.tm p.q p.i with
 | some (some n) => decide (n ≤ p.j) && decide (p.j < (2 ^ wT s.o.toNat : Nat))
 | _ => false
noncomputable def fKnows : Fn := fn2 (rdOf sgV) (rdOf plcD) (fun s p => okSg s && okT s.o.toNat && (toldO s.tm p.q p.i).isSome) fun s p => (.raw (.bool (knB s p)), [])
theorem knows_ok (C : Ctx) (hC : CtxOK C P) (h1 : C.fn 40 = some fParams) : Meets C.glob P 20 (Fn.run fKnows) := by
 refine fn_meets (m_lms_Signer_Knows C hC) fun ds rows r h => ?_
 obtain ⟨d, d2, s, p, rfl, rfl, hd, hd2, hp, rfl⟩ := fn2_some h
 cases rdOf_some hd
 cases rdOf_some hd2
 simp only [Bool.and_eq_true] at hp
 obtain ⟨⟨hp, ho⟩, hk⟩ := hp
 refine ⟨rfl, afun_mk rfl ?_⟩
 clear h hd hd2
 unfold a_lms_Signer_Knows r_lms_Signer_Knows
 have hz : D.agg SPar [.raw (it 0), .raw (it 0), .raw (it 0)] = parD ⟨0, 0, 0⟩ := rfl
 obtain ⟨o, hko⟩ := Option.isSome_iff_exists.1 hk
 have hm := toldO_some hko
 have pg0 : (plcD p).get [0] = some (.raw (u32 p.q)) := rfl
 have pg1 : (plcD p).get [1] = some (.raw (it p.i)) := rfl
 have pg2 : (plcD p).get [2] = some (.raw (it p.j)) := rfl
 have hw : wT s.o.toNat ≤ 8 := by rcases okT_cases ho with e | e | e | e <;> rw [e] <;> decide
 have gw : (parD (parT s.o.toNat)).get [0] = some (.raw (it (wT s.o.toNat : Int))) := rfl
 have hsp : ∀ q i, D.agg SSpot [.raw (u32 q), .raw (it i)] = spotD q i := fun _ _ => rfl
 have sp_fits : ∀ q i, (spotD q i).fits SSpot = true := fun _ _ => rfl
 simp only [hz]
 cases o with
 | none =>
  have hkb : knB s p = false := by rw [knB, hko]
  rw [hkb]
  simp only [sgV, ↓amD, amU, simprocAttr, zipEnv, amR, plc_fits, h1, kParams, par_fits, pg0, pg1, pg2, gw, hsp, sp_fits, hm, beq_self_eq_true, Option.map]
  exact .val _ rfl
 | some n =>
  have hkb : knB s p = (decide (n ≤ p.j) && decide (p.j < (2 ^ wT s.o.toNat : Nat))) := by rw [knB, hko]
  rw [hkb]
  have hsh := shl_it 1 (wT s.o.toNat) (by decide) (by omega)
  rw [Nat.one_mul, show ((1 : Nat) : Int) = 1 from rfl] at hsh
  by_cases c1 : n ≤ p.j
  ·have c1' := eq_true c1
   simp only [sgV, ↓amD, amU, simprocAttr, zipEnv, amR, plc_fits, h1, kParams, par_fits, pg0, pg1, pg2, gw, hsp, sp_fits, hm, beq_self_eq_true, Option.map, c1', hsh, decide_true, Bool.true_and]
   exact .val _ rfl
  ·have c1' := eq_false c1
   simp only [sgV, ↓amD, amU, simprocAttr, zipEnv, amR, plc_fits, h1, kParams, par_fits, pg0, pg1, pg2, gw, hsp, sp_fits, hm, beq_self_eq_true, Option.map, c1', hsh, decide_false, Bool.false_and]
   exact .val _ rfl
theorem kKnowsV (rows : Rows) (k : D → Rows → Prop) (d : D) (s : SgV) (p : Plc) (h : RdIn rows (rdOf sgV) d s) (hp : okSg s = true) (ho : okT s.o.toNat = true) (hk : (toldO s.tm p.q p.i).isSome = true) :
  kCall fKnows rows k [d, .agg SPlc [.raw (u32 p.q), .raw (it p.i), .raw (it p.j)]] = k (.raw (.bool (knB s p))) rows := by
 refine (kCall_rd2 h (rdIn_plc p) (by simp [hp, ho, hk]) rfl k).trans ?_
 simp [shift, shiftRows]
def msgV (m : List (BitVec 8)) : ByteArray := ⟨(ub m).toArray⟩
def sgnO (sm : List D) (m : List (BitVec 8)) : Option Bool := match mfind (.raw (.string (msgV m))) sm with
 | some none => some false
 | some (some (.bool b)) => some b
 | _ => none
noncomputable def fSigned : Fn := fn2 (rdOf sgV) rdBs (fun s m => okSg s && (sgnO s.sm m).isSome && decide (m.length ≤ 1099511627776)) fun s m => (.raw (.bool ((sgnO s.sm m).getD false)), [])
theorem signed_ok (C : Ctx) (hC : CtxOK C P) : Meets C.glob P 12 (Fn.run fSigned) := by
 refine fn_meetsN (m_lms_Signer_Signed C hC) fun ds rows r h => ?_
 obtain ⟨d, d2, s, m, rfl, rfl, hd, hd2, hp, rfl⟩ := fn2_some h
 cases rdOf_some hd
 obtain ⟨xm, hx⟩ := rdBs_nrm hd2
 simp only [Bool.and_eq_true, decide_eq_true_eq] at hp
 obtain ⟨⟨hp, hk⟩, hml⟩ := hp
 refine ⟨rfl, _, .cons (.refl _) (.cons hx .nil), afun_mk rfl ?_⟩
 clear h hd hd2 hx
 unfold a_lms_Signer_Signed r_lms_Signer_Signed
 have hb := byte_bs m
 have hstr : ∀ v : List UInt8, (D.raw (.string ⟨v.toArray⟩)).fits LS = true := fun _ => rfl
 have hmv : (⟨(ub m).toArray⟩ : ByteArray) = msgV m := rfl
 obtain ⟨o, hko⟩ := Option.isSome_iff_exists.1 hk
 rw [hko]
 unfold sgnO at hko
 split at hko
 ·rename_i e
  cases hko
  simp only [sgV, ↓amD, amU, simprocAttr, zipEnv, amR, bs_len, hb, hmv, e, beq_self_eq_true, Option.getD]
  exact ⟨rfl, .val _ rfl⟩
 ·rename_i b e
  cases hko
  simp only [sgV, ↓amD, amU, simprocAttr, zipEnv, amR, bs_len, hb, hmv, e, beq_self_eq_true, Option.getD]
  exact ⟨rfl, .val _ rfl⟩
 ·cases hko
theorem kSignedV (rows : Rows) (k : D → Rows → Prop) (d e : D) (s : SgV) (m : List (BitVec 8)) (h : RdIn rows (rdOf sgV) d s) (hm : BsIn rows e m) (hp : okSg s = true) (hk : (sgnO s.sm m).isSome = true) (hml : m.length ≤ 1099511627776) :
  kCall fSigned rows k [d, e] = k (.raw (.bool ((sgnO s.sm m).getD false))) rows := by
 refine (kCall_rd2 h (.bs hm) (by simp [hp, hk, hml]) rfl k).trans ?_
 simp [shift, shiftRows]
end Job
end Go.Am
