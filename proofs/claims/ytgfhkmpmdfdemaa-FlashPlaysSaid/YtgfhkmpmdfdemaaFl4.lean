/- the flash: pages; what would be -/
import Derived.Test.YtgfhkmpmdfdemaaFl3
namespace Go.Am
set_option linter.unusedSimpArgs false
set_option linter.unusedVariables false
attribute [local congr] bnd_congr kCond_congr kGd_congr kPick_congr kCall_congr kIdx_congr kSlice_congr kLoop_congr cond_congr' aBin_congr aBounds_congr aApp_congr aCopy_congr kFn_congr
namespace Job
open Go.Am.F
set_option maxRecDepth 10000
def pgN (K : FV) (l : List Int) : Nat → List (BitVec 8)
  | 0 => []
  | i + 1 => if errP K (l.getD i 0) = 0 then pgN K l i ++ sub (flDat K) (256 * (l.getD i 0).toNat) 256 else pgN K l i
theorem pgN_len (K : FV) (l : List Int) : ∀ i, (pgN K l i).length ≤ 256 * i
  | 0 => by simp [pgN]
  | i + 1 => by
    have := pgN_len K l i
    rw [pgN]
    split
    · rw [List.length_append, sub, List.length_take]; omega
    · omega
def itD (n : Int) : D := .raw (it n)
theorem itD_inj (x y : Int) (h : itD x = itD y) : x = y := by unfold itD at h; injection h with h; exact it_inj.1 h
noncomputable def fPages : Fn := fn2 (rdOf flD) (rdLst LI itD) (fun K l => decide (flLen K ≤ 1048576) && decide (l.length ≤ 64)) fun K l => outBs (pgN K l l.length) false
theorem pages_ok (C : Ctx) (hC : CtxOK C P) (hp : C.fn 28 = some fPageE) : Meets C.glob P 22 (Fn.run fPages) := by
  refine fn_meetsN (m_flash_Flash_Pages C hC) fun ds rows r h => ?_
  obtain ⟨d, e, K, l, rfl, rfl, hd, he, hpre, rfl⟩ := fn2_some h
  cases rdOf_some hd
  obtain ⟨x, hx⟩ := rdLst_nrm he
  simp only [Bool.and_eq_true, decide_eq_true_eq] at hpre
  obtain ⟨hK, hl⟩ := hpre
  refine ⟨rfl, _, .cons (.refl _) (.cons hx .nil), afun_mk rfl ?_⟩
  clear h hd he hx
  unfold a_flash_Flash_Pages r_flash_Flash_Pages
  simp only [↓amD, amU, Nat.reduceBEq, Nat.reduceAdd, Nat.reduceSub, Nat.reduceMul, Nat.reduceMod, Nat.reducePow, Nat.reduceLT, Nat.reduceDiv, Int.reduceToNat, BitVec.reduceToNat, zipEnv, Int.reduceLE, Int.reduceLT, Int.reduceNeg, BitVec.reduceEq, Int.reduceAdd, Int.reduceSub, Int.reduceMul, Nat.reduceLeDiff, Int.reduceEq, List.length_map]
  refine kLoop_up l.length (fun i env rows => has env [(10, .raw (it (i : Int))), (9, .raw (it (l.length : Int))), (8, .lst LI (l.map itD) x), (0, flD K)] ∧ ∃ d, look env 5 = some d ∧ Own L8 d rows (bs (pgN K l i))) ?_ ?_ ⟨?_, .raw (.slice none 0 0), ?_, .inl ⟨rfl, rfl⟩⟩
  · rintro i hi env rows ⟨hh, d, h5, hO⟩ R hR
    simp only [has] at hh
    obtain ⟨h10, h9, h8, h0, -⟩ := hh
    have e0 : ((i : Int) < (l.length : Int)) = True := eq_true (by omega)
    have e1 : ((0 : Int) ≤ (i : Int)) = True := eq_true (by omega)
    have e2 := wz_succ i (by omega)
    have g1 : (l.map itD)[i]? = some (.raw (it (l.getD i 0))) := by simp [itD, List.getD, hi]
    have k1 := fun rows k => kPageE (flIn_c rows K) hK (l.getD i 0) k
    have hlen := pgN_len K l i
    by_cases hz : errP K (l.getD i 0) = 0
    · have hn : pgN K l (i + 1) = pgN K l i ++ sub (flDat K) (256 * (l.getD i 0).toNat) 256 := by rw [pgN, if_pos hz]
      rw [hn] at hR
      rw [hz] at k1
      rcases K with _ | ⟨y, e⟩
      · cases hz
      obtain ⟨b1, b2⟩ := errP_0 hz
      obtain ⟨j, hj⟩ := Int.eq_ofNat_of_zero_le b1
      rw [hj] at g1 k1 hR b2
      simp only [flLen] at hK
      have w1 : wz (256 * (j : Int)) = ((256 * j : Nat) : Int) := by rw [wz_id (by omega)]; omega
      have w2 : wz ((j : Int) + 1) = ((j + 1 : Nat) : Int) := by rw [wz_id (by omega)]; omega
      have w3 : wz (256 * ((j + 1 : Nat) : Int)) = ((256 * j + 256 : Nat) : Int) := by rw [wz_id (by omega)]; omega
      have f1 : ((0 : Int) ≤ ((256 * j : Nat) : Int)) = True := eq_true (by omega)
      have f2 : (((256 * j : Nat) : Int) ≤ ((256 * j + 256 : Nat) : Int)) = True := eq_true (by omega)
      have f3 : (((256 * j + 256 : Nat) : Int) ≤ (y.length : Int)) = True := eq_true (by omega)
      have f4 : 256 * j + 256 - 256 * j = 256 := by omega
      have hsb : ((y.drop (256 * j)).take 256) = sub y (256 * j) 256 := rfl
      have hsl : (sub y (256 * j) 256).length = 256 := sub_len (by omega)
      simp only [flD] at k1 h0
      simp only [flDat, Int.toNat_natCast] at hR
      simp only [↓amD, amU, Nat.reduceBEq, Nat.reduceAdd, Nat.reduceSub, Nat.reduceMul, Nat.reduceMod, Nat.reducePow, Nat.reduceLT, Nat.reduceDiv, Int.reduceToNat, BitVec.reduceToNat, zipEnv, Int.reduceLE, Int.reduceLT, Int.reduceNeg, BitVec.reduceEq, Int.reduceAdd, Int.reduceSub, Int.reduceMul, Nat.reduceLeDiff, Int.reduceEq, List.length_map, h10, h9, h8, h0, h5, e0, e1, e2, g1, hp, k1, w1, w2, w3, f1, f2, f3, f4, bs_len, bs_drop, bs_take, hsb, hsl, decide_true]
      refine app_own hO (by rw [bs_len, bs_len, hsl]; simp [most]; omega) (by rw [bs_len, bs_len, hsl]; simp [most]; omega) fun d' rows' hO' hfr hlen' _ => ?_
      rw [bs_app] at hO'
      simp only [↓amD, amU, Nat.reduceBEq, Nat.reduceAdd, Nat.reduceSub, Nat.reduceMul, Nat.reduceMod, Nat.reducePow, Nat.reduceLT, Nat.reduceDiv, Int.reduceToNat, BitVec.reduceToNat, zipEnv, Int.reduceLE, Int.reduceLT, Int.reduceNeg, BitVec.reduceEq, Int.reduceAdd, Int.reduceSub, Int.reduceMul, Nat.reduceLeDiff, Int.reduceEq, h10, h9, h8, h0, e2]
      exact hR _ _ ⟨by simp only [has, ↓amD, amU, Nat.reduceBEq, Nat.reduceAdd, Nat.reduceSub, Nat.reduceMul, Nat.reduceMod, Nat.reducePow, Nat.reduceLT, Nat.reduceDiv, Int.reduceToNat, BitVec.reduceToNat, zipEnv, Int.reduceLE, Int.reduceLT, Int.reduceNeg, BitVec.reduceEq, Int.reduceAdd, Int.reduceSub, Int.reduceMul, Nat.reduceLeDiff, Int.reduceEq, h9, h8, h0, flD], d', by simp only [↓amD, amU, Nat.reduceBEq, Nat.reduceAdd, Nat.reduceSub, Nat.reduceMul, Nat.reduceMod, Nat.reducePow, Nat.reduceLT, Nat.reduceDiv, Int.reduceToNat, BitVec.reduceToNat, zipEnv, Int.reduceLE, Int.reduceLT, Int.reduceNeg, BitVec.reduceEq, Int.reduceAdd, Int.reduceSub, Int.reduceMul, Nat.reduceLeDiff, Int.reduceEq], hO'⟩
    · have hn : pgN K l (i + 1) = pgN K l i := by rw [pgN, if_neg hz]
      rw [hn] at hR
      have hz' : (errP K (l.getD i 0) = 0) = False := eq_false hz
      simp only [↓amD, amU, Nat.reduceBEq, Nat.reduceAdd, Nat.reduceSub, Nat.reduceMul, Nat.reduceMod, Nat.reducePow, Nat.reduceLT, Nat.reduceDiv, Int.reduceToNat, BitVec.reduceToNat, zipEnv, Int.reduceLE, Int.reduceLT, Int.reduceNeg, BitVec.reduceEq, Int.reduceAdd, Int.reduceSub, Int.reduceMul, Nat.reduceLeDiff, Int.reduceEq, List.length_map, h10, h9, h8, h0, h5, e0, e1, e2, g1, hp, k1, hz', decide_true, decide_false]
      exact hR _ _ ⟨by simp only [has, ↓amD, amU, Nat.reduceBEq, Nat.reduceAdd, Nat.reduceSub, Nat.reduceMul, Nat.reduceMod, Nat.reducePow, Nat.reduceLT, Nat.reduceDiv, Int.reduceToNat, BitVec.reduceToNat, zipEnv, Int.reduceLE, Int.reduceLT, Int.reduceNeg, BitVec.reduceEq, Int.reduceAdd, Int.reduceSub, Int.reduceMul, Nat.reduceLeDiff, Int.reduceEq, h9, h8, h0], d, by simp only [↓amD, amU, Nat.reduceBEq, Nat.reduceAdd, Nat.reduceSub, Nat.reduceMul, Nat.reduceMod, Nat.reducePow, Nat.reduceLT, Nat.reduceDiv, Int.reduceToNat, BitVec.reduceToNat, zipEnv, Int.reduceLE, Int.reduceLT, Int.reduceNeg, BitVec.reduceEq, Int.reduceAdd, Int.reduceSub, Int.reduceMul, Nat.reduceLeDiff, Int.reduceEq, h5], hO⟩
  · rintro env rows ⟨hh, d, h5, hO⟩ R
    simp only [has] at hh
    obtain ⟨h10, h9, h8, h0, -⟩ := hh
    have e0 : ((l.length : Int) < (l.length : Int)) = False := eq_false (by omega)
    simp only [↓amD, amU, Nat.reduceBEq, Nat.reduceAdd, Nat.reduceSub, Nat.reduceMul, Nat.reduceMod, Nat.reducePow, Nat.reduceLT, Nat.reduceDiv, Int.reduceToNat, BitVec.reduceToNat, zipEnv, Int.reduceLE, Int.reduceLT, Int.reduceNeg, BitVec.reduceEq, Int.reduceAdd, Int.reduceSub, Int.reduceMul, Nat.reduceLeDiff, Int.reduceEq, h10, h9, h8, h0, h5, e0, hO.nTup, decide_false]
    exact hO.expo
  · simp only [has, ↓amD, amU, Nat.reduceBEq, Nat.reduceAdd, Nat.reduceSub, Nat.reduceMul, Nat.reduceMod, Nat.reducePow, Nat.reduceLT, Nat.reduceDiv, Int.reduceToNat, BitVec.reduceToNat, zipEnv, Int.reduceLE, Int.reduceLT, Int.reduceNeg, BitVec.reduceEq, Int.reduceAdd, Int.reduceSub, Int.reduceMul, Nat.reduceLeDiff, Int.reduceEq]
  · simp only [↓amD, amU, Nat.reduceBEq, Nat.reduceAdd, Nat.reduceSub, Nat.reduceMul, Nat.reduceMod, Nat.reducePow, Nat.reduceLT, Nat.reduceDiv, Int.reduceToNat, BitVec.reduceToNat, zipEnv, Int.reduceLE, Int.reduceLT, Int.reduceNeg, BitVec.reduceEq, Int.reduceAdd, Int.reduceSub, Int.reduceMul, Nat.reduceLeDiff, Int.reduceEq]
theorem kPages {rows : Rows} {d : D} {K : FV} (h : view rows 9 d = some (flD K)) (hl : flLen K ≤ 1048576) {q : Nat} {ex : Bool} {l : List Int} (hq : live rows q = some ⟨LI, l.map itD⟩) (hll : l.length ≤ 64) (k : D → Rows → Prop) :
    kCall fPages rows k [d, .sl LI q [] 0 l.length ex] = k (.sl L8 (0 + rows.length) [] 0 (pgN K l l.length).length false) (rows ++ [some ⟨L8, bs (pgN K l l.length)⟩]) := by
  have hv : view rows 9 (.sl LI q [] 0 l.length ex) = some (.lst LI (l.map itD) ex) := by
    have : elems rows (.sl LI q [] 0 l.length ex) = some (l.map itD) := by
      simp only [elems, hq]; simp [List.take_of_length_le]
    simp only [view]
    rw [this]
    simp [Sh.pure]
  have hf : fPages [flD K, .lst LI (l.map itD) ex] [] = some (outBs (pgN K l l.length) false) := by
    rw [fPages, fn2_eq (rdOf_eq flD_inj K) (rdLst_eq itD_inj l ex) (by simp [hl, hll])]
  unfold kCall
  simp [hasRefL, hasRef, mapO, h, hv, hf, bnd, outBs, shift, shiftRows, Sh.pure, noLst, noLstRows]
/-- four arguments -/
def fn4 {α β γ δ : Type} (rd : D → Option α) (rd' : D → Option β) (rd2 : D → Option γ) (rd3 : D → Option δ) (pre : α → β → γ → δ → Bool) (out : α → β → γ → δ → D × Rows) : Fn
  | [d, e, f, g], [] => match rd d, rd' e, rd2 f, rd3 g with
    | some x, some y, some z, some w => bif pre x y z w then some (out x y z w) else none
    | _, _, _, _ => none
  | _, _ => none
theorem fn4_some {α β γ δ : Type} {rd : D → Option α} {rd' : D → Option β} {rd2 : D → Option γ} {rd3 : D → Option δ} {pre : α → β → γ → δ → Bool} {out : α → β → γ → δ → D × Rows} {ds : List D} {rows : Rows} {r : D × Rows} (h : fn4 rd rd' rd2 rd3 pre out ds rows = some r) :
    ∃ d e f g x y z w, ds = [d, e, f, g] ∧ rows = [] ∧ rd d = some x ∧ rd' e = some y ∧ rd2 f = some z ∧ rd3 g = some w ∧ pre x y z w = true ∧ r = out x y z w := by
  unfold fn4 at h
  split at h
  · rename_i d e f g
    split at h
    · rename_i x y z w hx hy hz hw
      cases hp : pre x y z w with
      | false => rw [hp] at h; cases h
      | true => rw [hp] at h; cases h; exact ⟨d, e, f, g, x, y, z, w, rfl, rfl, hx, hy, hz, hw, hp, rfl⟩
    · cases h
  · cases h
theorem fn4_eq {α β γ δ : Type} {rd : D → Option α} {rd' : D → Option β} {rd2 : D → Option γ} {rd3 : D → Option δ} {pre : α → β → γ → δ → Bool} {out : α → β → γ → δ → D × Rows} {d e f g : D} {x : α} {y : β} {z : γ} {w : δ} (h1 : rd d = some x) (h2 : rd' e = some y) (h3 : rd2 f = some z) (h4 : rd3 g = some w) (hp : pre x y z w = true) :
    fn4 rd rd' rd2 rd3 pre out [d, e, f, g] [] = some (out x y z w) := by
  simp [fn4, h1, h2, h3, h4, hp]
/-- the error, and what would be -/
noncomputable def errA (K : FV) (i a : Int) (p : List (BitVec 8)) : Int := open Classical in
  if errP K i ≠ 0 then errP K i else if p = [] then 0 else if a < 0 ∨ 256 < a ∨ 256 - a < (p.length : Int) then 9 else if clears ((sub (flDat K) (256 * i.toNat) 256).drop a.toNat) p then 0 else 14
def datA (K : FV) (i a : Int) (p : List (BitVec 8)) : List (BitVec 8) := if p = [] then List.replicate 256 255#8 else splice (sub (flDat K) (256 * i.toNat) 256) a.toNat p
noncomputable def outA (K : FV) (i a : Int) (p : List (BitVec 8)) : D × Rows :=
  if errA K i a p = 0 then (.tup [.sl L8 0 [] 0 256 false, .raw (it 0)], [some ⟨L8, bs (datA K i a p)⟩]) else (.tup [.raw (.slice none 0 0), .raw (it (errA K i a p))], [])
noncomputable def fAfter : Fn := fn4 (rdOf flD) rdI rdI rdBs (fun K _ _ p => decide (flLen K ≤ 1048576) && decide (p.length ≤ 1048576)) outA
theorem after_ok (C : Ctx) (hC : CtxOK C P) (hp : C.fn 28 = some fPageE) (hc : C.fn 27 = some fClone) (hcl : C.fn 29 = some fClears) (hrp : C.fn 25 = some fRepeat) : Meets C.glob P 19 (Fn.run fAfter) := by
  refine fn_meetsN (m_flash_Flash_After C hC) fun ds rows r h => ?_
  obtain ⟨d, e, f, g, K, i, a, p, rfl, rfl, hd, he, hf, hg, hpre, rfl⟩ := fn4_some h
  cases rdOf_some hd
  cases rdI_some he
  cases rdI_some hf
  obtain ⟨x, hx⟩ := rdBs_nrm hg
  simp only [Bool.and_eq_true, decide_eq_true_eq] at hpre
  obtain ⟨hK, hpl⟩ := hpre
  refine ⟨rfl, _, .cons (.refl _) (.cons (.refl _) (.cons (.refl _) (.cons hx .nil))), afun_mk rfl ?_⟩
  clear h hd he hf hg hx
  unfold a_flash_Flash_After r_flash_Flash_After
  have k1 := fun rows k => kPageE (flIn_c rows K) hK i k
  by_cases h0 : errP K i = 0
  · rw [h0] at k1
    rcases K with _ | ⟨y, e⟩
    · cases h0
    obtain ⟨b1, b2⟩ := errP_0 h0
    simp only [flLen] at hK
    obtain ⟨i, rfl⟩ := Int.eq_ofNat_of_zero_le b1
    by_cases hpn : p = []
    · subst hpn
      have hA : errA (some (y, e)) (i : Int) a [] = 0 := by rw [errA, if_neg (by rw [h0]; simp), if_pos rfl]
      rw [outA, if_pos hA, datA, if_pos rfl]
      have kr : ∀ k, kCall fRepeat [some ⟨L8, [.raw (u8 255#8)]⟩] k [.sl L8 0 [] 0 1 true, .raw (it 256)] = k (.sl L8 1 [] 0 256 false) [some ⟨L8, [.raw (u8 255#8)]⟩, some ⟨L8, bs (List.replicate 256 255#8)⟩] := fun k =>
        kRepeat (rows := [some ⟨L8, [.raw (u8 255#8)]⟩]) (b := 255#8) (BsIn.own rfl _ rfl) 256 (by omega) k
      have hb0 : bs ([] : List (BitVec 8)) = [] := rfl
      generalize List.replicate 256 255#8 = z at *
      simp only [flD] at k1 ⊢
      simp only [↓amD, amU, Nat.reduceBEq, Nat.reduceAdd, Nat.reduceSub, Nat.reduceMul, Nat.reduceMod, Nat.reducePow, Nat.reduceLT, Nat.reduceDiv, Int.reduceToNat, BitVec.reduceToNat, zipEnv, Int.reduceLE, Int.reduceLT, Int.reduceNeg, BitVec.reduceEq, Int.reduceAdd, Int.reduceSub, Int.reduceMul, Nat.reduceLeDiff, Int.reduceEq, hp, k1, hb0, hrp, kr]
      exact .ownT L8 1 0 256 false false _ _ rfl rfl rfl (fun h => by cases h)
    · have hpz : ((p.length : Int) = 0) = False := eq_false (by have : p.length ≠ 0 := fun h => hpn (List.eq_nil_of_length_eq_zero h); omega)
      have hA0 : errA (some (y, e)) (i : Int) a p = (open Classical in if a < 0 ∨ 256 < a ∨ 256 - a < (p.length : Int) then 9 else if clears ((sub y (256 * i) 256).drop a.toNat) p then 0 else 14) := by
        rw [errA, if_neg (by rw [h0]; simp), if_neg hpn]; rfl
      by_cases c1 : a < 0
      · rw [if_pos (.inl c1)] at hA0
        rw [outA, if_neg (by rw [hA0]; decide), hA0]
        simp only [flD] at k1 ⊢
        simp only [↓amD, amU, Nat.reduceBEq, Nat.reduceAdd, Nat.reduceSub, Nat.reduceMul, Nat.reduceMod, Nat.reducePow, Nat.reduceLT, Nat.reduceDiv, Int.reduceToNat, BitVec.reduceToNat, zipEnv, Int.reduceLE, Int.reduceLT, Int.reduceNeg, BitVec.reduceEq, Int.reduceAdd, Int.reduceSub, Int.reduceMul, Nat.reduceLeDiff, Int.reduceEq, hp, k1, bs_len, hpz, c1, decide_true, decide_false]
        exact .val _ rfl
      by_cases c2 : 256 < a
      · rw [if_pos (.inr (.inl c2))] at hA0
        rw [outA, if_neg (by rw [hA0]; decide), hA0]
        simp only [flD] at k1 ⊢
        simp only [↓amD, amU, Nat.reduceBEq, Nat.reduceAdd, Nat.reduceSub, Nat.reduceMul, Nat.reduceMod, Nat.reducePow, Nat.reduceLT, Nat.reduceDiv, Int.reduceToNat, BitVec.reduceToNat, zipEnv, Int.reduceLE, Int.reduceLT, Int.reduceNeg, BitVec.reduceEq, Int.reduceAdd, Int.reduceSub, Int.reduceMul, Nat.reduceLeDiff, Int.reduceEq, hp, k1, bs_len, hpz, c1, c2, decide_true, decide_false]
        exact .val _ rfl
      have w0 : wz (256 - a) = 256 - a := wz_id (by omega)
      by_cases c3 : 256 - a < (p.length : Int)
      · rw [if_pos (.inr (.inr c3))] at hA0
        rw [outA, if_neg (by rw [hA0]; decide), hA0]
        simp only [flD] at k1 ⊢
        simp only [↓amD, amU, Nat.reduceBEq, Nat.reduceAdd, Nat.reduceSub, Nat.reduceMul, Nat.reduceMod, Nat.reducePow, Nat.reduceLT, Nat.reduceDiv, Int.reduceToNat, BitVec.reduceToNat, zipEnv, Int.reduceLE, Int.reduceLT, Int.reduceNeg, BitVec.reduceEq, Int.reduceAdd, Int.reduceSub, Int.reduceMul, Nat.reduceLeDiff, Int.reduceEq, hp, k1, bs_len, hpz, c1, c2, c3, w0, decide_true, decide_false]
        exact .val _ rfl
      rw [if_neg (by omega)] at hA0
      obtain ⟨a, rfl⟩ := Int.eq_ofNat_of_zero_le (by omega : 0 ≤ a)
      have w1 : wz (256 * (i : Int)) = ((256 * i : Nat) : Int) := by rw [wz_id (by omega)]; omega
      have w2 : wz ((i : Int) + 1) = ((i + 1 : Nat) : Int) := by rw [wz_id (by omega)]; omega
      have w3 : wz (256 * ((i + 1 : Nat) : Int)) = ((256 * i + 256 : Nat) : Int) := by rw [wz_id (by omega)]; omega
      have f1 : ((0 : Int) ≤ ((256 * i : Nat) : Int)) = True := eq_true (by omega)
      have f2 : (((256 * i : Nat) : Int) ≤ ((256 * i + 256 : Nat) : Int)) = True := eq_true (by omega)
      have f3 : (((256 * i + 256 : Nat) : Int) ≤ (y.length : Int)) = True := eq_true (by omega)
      have f4 : 256 * i + 256 - 256 * i = 256 := by omega
      have f5 : ((0 : Int) ≤ (a : Int)) = True := eq_true (by omega)
      have f6 : ((a : Int) ≤ 256) = True := eq_true (by omega)
      have f7 : ((a : Int) ≤ ((256 : Nat) : Int)) = True := eq_true (by omega)
      have hsb : ((y.drop (256 * i)).take 256) = sub y (256 * i) 256 := rfl
      have hsl : (sub y (256 * i) 256).length = 256 := sub_len (by omega)
      have hdat : datA (some (y, e)) (i : Int) (a : Int) p = splice (sub y (256 * i) 256) a p := by rw [datA, if_neg hpn]; rfl
      have hspl : (splice (sub y (256 * i) 256) a p).length = 256 := by rw [splice_len _ _ _ (by omega), hsl]
      simp only [flD, Int.toNat_natCast] at k1 hA0 ⊢
      generalize sub y (256 * i) 256 = s at *
      have kc := fun rows k e => kClone rows k (.lst L8 (bs s) e) s (lstIn rows _ e) (by omega)
      rw [hsl] at kc
      have hdl : ((s.drop a).take (256 - a)) = s.drop a := List.take_of_length_le (by rw [List.length_drop]; omega)
      have kcl : ∀ e2 k, kCall fClears [some ⟨L8, bs s⟩] k [.sl L8 0 [] a (256 - a) e2, .lst L8 (bs p) x] = k (.raw (.bool (open Classical in decide (clears (s.drop a) p)))) [some ⟨L8, bs s⟩] := fun e2 k => by
        have hbi := BsIn.sub (rows := [some ⟨L8, bs s⟩]) (r := 0) (off := a) (len := 256 - a) (ex := e2) rfl (by omega : a + (256 - a) ≤ s.length)
        rw [hdl] at hbi
        exact kClears hbi (lstIn _ p x) (by rw [List.length_drop]; omega) (by rw [List.length_drop]; omega) k
      by_cases c4 : clears (s.drop a) p
      · have hdc : (open Classical in decide (clears (s.drop a) p)) = true := by classical exact decide_eq_true c4
        rw [if_pos c4] at hA0
        rw [outA, if_pos hA0, hdat]
        rw [hdc] at kcl
        simp only [↓amD, amU, Nat.reduceBEq, Nat.reduceAdd, Nat.reduceSub, Nat.reduceMul, Nat.reduceMod, Nat.reducePow, Nat.reduceLT, Nat.reduceDiv, Int.reduceToNat, BitVec.reduceToNat, zipEnv, Int.reduceLE, Int.reduceLT, Int.reduceNeg, BitVec.reduceEq, Int.reduceAdd, Int.reduceSub, Int.reduceMul, Nat.reduceLeDiff, Int.reduceEq, hp, k1, bs_len, hpz, c1, c2, c3, w0, w1, w2, w3, f1, f2, f3, f4, f5, f6, f7, hc, kc, hcl, kcl, bs_drop, bs_take, hsb, hsl, decide_true, decide_false]
        refine Eq.mpr (copy_own (l := s) rfl (by omega)) ?_
        rw [show min p.length (256 - a) = p.length by omega, List.take_length]
        simp only [↓amD, amU, Nat.reduceBEq, Nat.reduceAdd, Nat.reduceSub, Nat.reduceMul, Nat.reduceMod, Nat.reducePow, Nat.reduceLT, Nat.reduceDiv, Int.reduceToNat, BitVec.reduceToNat, zipEnv, Int.reduceLE, Int.reduceLT, Int.reduceNeg, BitVec.reduceEq, Int.reduceAdd, Int.reduceSub, Int.reduceMul, Nat.reduceLeDiff, Int.reduceEq]
        exact .ownT L8 0 0 256 false false _ _ rfl rfl rfl (fun h => by cases h)
      · have hdc : (open Classical in decide (clears (s.drop a) p)) = false := by classical exact decide_eq_false c4
        rw [if_neg c4] at hA0
        rw [outA, if_neg (by rw [hA0]; decide), hA0]
        rw [hdc] at kcl
        simp only [↓amD, amU, Nat.reduceBEq, Nat.reduceAdd, Nat.reduceSub, Nat.reduceMul, Nat.reduceMod, Nat.reducePow, Nat.reduceLT, Nat.reduceDiv, Int.reduceToNat, BitVec.reduceToNat, zipEnv, Int.reduceLE, Int.reduceLT, Int.reduceNeg, BitVec.reduceEq, Int.reduceAdd, Int.reduceSub, Int.reduceMul, Nat.reduceLeDiff, Int.reduceEq, hp, k1, bs_len, hpz, c1, c2, c3, w0, w1, w2, w3, f1, f2, f3, f4, f5, f6, f7, hc, kc, hcl, kcl, bs_drop, bs_take, hsb, hsl, decide_true, decide_false]
        exact .val _ rfl
  · have h0' : (errP K i = 0) = False := eq_false h0
    have hA : errA K i a p = errP K i := by rw [errA, if_pos h0]
    rw [outA, if_neg (by rw [hA]; exact h0), hA]
    simp only [↓amD, amU, Nat.reduceBEq, Nat.reduceAdd, Nat.reduceSub, Nat.reduceMul, Nat.reduceMod, Nat.reducePow, Nat.reduceLT, Nat.reduceDiv, Int.reduceToNat, BitVec.reduceToNat, zipEnv, Int.reduceLE, Int.reduceLT, Int.reduceNeg, BitVec.reduceEq, Int.reduceAdd, Int.reduceSub, Int.reduceMul, Nat.reduceLeDiff, Int.reduceEq, hp, k1, h0', decide_false]
    exact .val _ rfl
/-- a slice of ours as a source -/
theorem kAfter {rows : Rows} {d : D} {K : FV} (h : view rows 9 d = some (flD K)) (hl : flLen K ≤ 1048576) (i a : Int) {q : Nat} {ex : Bool} {p : List (BitVec 8)} (hq : live rows q = some ⟨L8, bs p⟩) (hp : p.length ≤ 1048576) (k : D → Rows → Prop) :
    kCall fAfter rows k [d, .raw (it i), .raw (it a), .sl L8 q [] 0 p.length ex] = k (shift rows.length (outA K i a p).1) (rows ++ shiftRows rows.length (outA K i a p).2) := by
  have hv : view rows 9 (.sl L8 q [] 0 p.length ex) = some (.lst L8 (bs p) ex) := by
    have : elems rows (.sl L8 q [] 0 p.length ex) = some (bs p) := by
      simp only [elems, hq]; simp [bs_take_len]
    simp only [view]
    rw [this]
    simp [Sh.pure, bs_len]
  have hf : fAfter [flD K, .raw (it i), .raw (it a), .lst L8 (bs p) ex] [] = some (outA K i a p) := by
    rw [fAfter, fn4_eq (rdOf_eq flD_inj K) (rdI_eq i) (rdI_eq a) (rdBs_lst p ex) (by simp [hl, hp])]
  have hn : (noLst (outA K i a p).1 && noLstRows (outA K i a p).2) = true := by
    unfold outA; split <;> rfl
  have hv1 : view rows 9 (.raw (it i)) = some (.raw (it i)) := rfl
  have hv2 : view rows 9 (.raw (it a)) = some (.raw (it a)) := rfl
  unfold kCall
  simp [hasRefL, hasRef, mapO, h, hv, hv1, hv2, hf, bnd, hn]
end Job
end Go.Am
