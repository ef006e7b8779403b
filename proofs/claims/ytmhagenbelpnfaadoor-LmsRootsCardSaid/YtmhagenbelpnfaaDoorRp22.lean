import Derived.Test.YtmhagenbelpnfaaDoorRp21
namespace Go.Am
set_option linter.unusedSimpArgs false
set_option linter.unusedVariables false
attribute [local congr] bnd_congr kCond_congr kGd_congr kPick_congr kCall_congr kIdx_congr kSlice_congr kLoop_congr cond_congr' aBin_congr aBounds_congr aApp_congr aCopy_congr kFn_congr
namespace Job
open Go.Am.F
set_option maxRecDepth 10000
theorem natD_inj (x y : Nat) (h : natD x = natD y) : x = y := by
 injection h with h; exact it_injN h
def bit8 (b : BitVec 8) : List Nat := (List.range 8).map fun k => b.toNat / 2 ^ (7 - k) % 2
def bitsS (p : List (BitVec 8)) : List Nat := p.flatMap bit8
theorem bit8_len (b : BitVec 8) : (bit8 b).length = 8 := by simp [bit8]
theorem bits_len (p : List (BitVec 8)) : (bitsS p).length = 8 * p.length := by
 induction p with
 | nil => rfl
 | cons b p ih => simp only [bitsS, List.flatMap_cons, List.length_append, bit8_len, List.length_cons] at ih ⊢; omega
def fBits : Fn := fn1 rdBs (fun p => decide (p.length ≤ 100000)) fun p => outI (bitsS p)
set_option maxHeartbeats 1000000 in
theorem bits_ok (C : Ctx) (hC : CtxOK C P) : Meets C.glob P 59 (Fn.run fBits) := by
 refine fn_meetsN (m_ref05_Bits C hC) fun ds rows r h => ?_
 obtain ⟨d, p, rfl, rfl, g0, hp, rfl⟩ := fn1_some h
 obtain ⟨ex, hx⟩ := rdBs_nrm g0
 simp only [decide_eq_true_eq] at hp
 refine ⟨rfl, _, .cons hx .nil, afun_mk rfl ?_⟩
 clear h g0 hx
 unfold a_ref05_Bits r_ref05_Bits
 have b0 : ∀ n : Nat, ((0 : Int) ≤ (n : Int)) = True := fun n => eq_true (by omega)
 simp only [↓amD, amU, simprocAttr, zipEnv, bs_len]
 refine kLoop_up p.length (fun i env rows => has env [(9, .raw (it (i : Int))), (8, .raw (it (p.length : Int))), (7, .lst L8 (bs p) ex)] ∧ ∃ d', look env 3 = some d' ∧ Own LI d' rows ((bitsS (p.take i)).map natD)) ?_ ?_ ⟨?_, .raw (.slice none 0 0), ?_, .inl ⟨rfl, rfl⟩⟩
 ·rintro i hi env rows ⟨hh, d', h3, hO⟩ R hR
  simp only [has] at hh
  have e0 : ((i : Int) < (p.length : Int)) = True := eq_true (by omega)
  have e1 := wz_succ i (by omega)
  have g : (bs p)[i]? = some (.raw (u8 (p.getD i 0#8))) := bs_get hi
  have hs : bitsS (p.take (i + 1)) = bitsS (p.take i) ++ (bit8 (p.getD i 0#8)).take 8 := by
   have h8 : (bit8 (p.getD i 0#8)).take 8 = bit8 (p.getD i 0#8) := List.take_of_length_le (by rw [bit8_len]; exact Nat.le_refl _)
   rw [h8, List.take_succ_eq_append_getElem hi, bitsS, List.flatMap_append]
   simp [bitsS, List.getD, hi]
  have hbl := bits_len (p.take i)
  rw [List.length_take] at hbl
  generalize p.getD i 0#8 = b at *
  simp only [↓amD, amU, simprocAttr, zipEnv, amR, hh, e0, e1, b0, h3, bs_len, g]
  refine kLoop_up 8 (fun k env rows => has env [(6, .raw (it (7 - (k : Int)))), (5, .raw (u8 b)), (9, .raw (it (i : Int))), (8, .raw (it (p.length : Int))), (7, .lst L8 (bs p) ex)] ∧ ∃ d', look env 3 = some d' ∧ Own LI d' rows ((bitsS (p.take i) ++ (bit8 b).take k).map natD)) ?_ ?_ ⟨?_, d', ?_, ?_⟩
  ·clear hh h3 hO
   rintro k hk env rows ⟨hh, d', h3, hO⟩ R2 hR2
   simp only [has] at hh
   have f0 : ((0 : Int) ≤ 7 - (k : Int)) = True := eq_true (by omega)
   have f1 : wz (7 - (k : Int) - 1) = 7 - ((k + 1 : Nat) : Int) := by rw [wz_id (by omega)]; omega
   have f2 : (7 - (k : Int)) = ((7 - k : Nat) : Int) := by omega
   have f3 : ∀ K, aBin .shr (it (b.toNat : Int)) (it (7 - (k : Int))) K = K (.raw (it ((b.toNat / 2 ^ (7 - k) : Nat) : Int))) := fun K => by rw [f2]; exact shr_n b.toNat (7 - k) .i64 (by omega) K
   have f4 : ∀ n : Nat, (n : Int).tmod 2 = ((n % 2 : Nat) : Int) := fun n => by rw [Int.tmod_eq_emod_of_nonneg (by omega)]; omega
   have hk2 : (bit8 b).take (k + 1) = (bit8 b).take k ++ [b.toNat / 2 ^ (7 - k) % 2] := by
    rw [List.take_succ_eq_append_getElem (by rw [bit8_len]; exact hk)]
    simp [bit8]
   have hkl : (bitsS (p.take i) ++ (bit8 b).take k).length ≤ 8 * p.length + 8 := by rw [List.length_append, hbl, List.length_take, bit8_len]; omega
   simp only [↓amD, amU, simprocAttr, zipEnv, amR, hh, f0, f1, f3, f4, h3, elems_one]
   refine app_own hO.push (by rw [List.length_map]; simp [most] at hkl ⊢; omega) (by rw [List.length_map]; simp [most] at hkl ⊢; omega) fun d2 rows' hO' hfr hlen' _ => ?_
   simp only [↓amD, amU, simprocAttr, zipEnv, amR, hh, f1]
   refine hR2 _ _ ⟨by simp only [has, ↓amD, amU, simprocAttr, zipEnv, hh], d2, by simp only [↓amD, amU, simprocAttr, zipEnv], ?_⟩
   rw [hk2, ← List.append_assoc, List.map_append]
   exact hO'
  ·clear hh h3 hO
   rintro env rows ⟨hh, d', h3, hO⟩ R2
   simp only [has] at hh
   have f0 : ((0 : Int) ≤ 7 - ((8 : Nat) : Int)) = False := eq_false (by decide)
   simp only [↓amD, amU, simprocAttr, zipEnv, amR, hh, f0, e1]
   refine hR _ _ ⟨by simp only [has, ↓amD, amU, simprocAttr, zipEnv, hh], d', by simp only [↓amD, amU, simprocAttr, zipEnv, h3], ?_⟩
   rw [hs]; exact hO
  ·simp only [has, ↓amD, amU, simprocAttr, zipEnv, hh]
  ·simp only [↓amD, amU, simprocAttr, zipEnv, h3]
  ·simpa using hO
 ·rintro env rows ⟨hh, d', h3, hO⟩ R
  simp only [has] at hh
  have e0 : ((p.length : Int) < (p.length : Int)) = False := eq_false (by omega)
  rw [List.take_length] at hO
  simp only [↓amD, amU, simprocAttr, zipEnv, amR, hh, e0, h3, hO.nTup]
  have := Own.expoL hO rfl
  rw [List.length_map] at this
  exact this
 ·simp only [has, ↓amD, amU, simprocAttr, zipEnv]
 ·simp only [↓amD, amU, simprocAttr, zipEnv]
theorem kBits (rows : Rows) (k : D → Rows → Prop) (d : D) (p : List (BitVec 8)) (hd : BsIn rows d p) (hp : p.length ≤ 100000) :
  kCall fBits rows k [d] = k (.sl LI (0 + rows.length) [] 0 (bitsS p).length false) (rows ++ [some ⟨LI, (bitsS p).map natD⟩]) := by
 refine (kCall_rd1 (.bs hd) (by simp [hp]) rfl k).trans ?_
 simp [outI, shift, shiftRows, Sh.pure]
theorem RdIn.il {rows : Rows} {r n : Nat} {ex : Bool} {l : List Nat} (hl : live rows r = some ⟨LI, l.map natD⟩) (hn : l.length = n) : RdIn rows (rdLst LI natD) (.sl LI r [] 0 n ex) l := by
 refine ⟨⟨.lst LI (l.map natD) ex, ?_, rdLst_eq natD_inj l ex⟩, fun h => by simp [hasRef] at h⟩
 have : elems rows (.sl LI r [] 0 n ex) = some (l.map natD) := by
  simp only [elems, hl]; simp [List.take_of_length_le, hn]
 simp only [view]
 rw [this]
 simp [Sh.pure, hn]
def digW (l : List Nat) (s : Nat) : Nat → Nat
 | 0 => 0
 | j + 1 => digW l s j * 2 + l.getD (s + j) 0
def digR (l : List Nat) (w k : Nat) : Nat := digW l (w * k) w
theorem digW_lt (l : List Nat) (h : ∀ x ∈ l, x ≤ 1) (s : Nat) : ∀ j, digW l s j < 2 ^ j
 | 0 => by simp [digW]
 | j + 1 => by
  have ih := digW_lt l h s j
  have : l.getD (s + j) 0 ≤ 1 := by
   by_cases c : s + j < l.length
   ·rw [List.getD, List.getElem?_eq_getElem c]; exact h _ (List.getElem_mem c)
   ·rw [List.getD, List.getElem?_eq_none (by omega)]; exact Nat.zero_le _
  rw [digW, Nat.pow_succ]; omega
noncomputable def fRDig : Fn := fn3 (rdLst LI natD) rdI rdI (fun l w n => decide (l.length ≤ 1000000) && (l.all fun x => decide (x ≤ 1)) && inI w 9 && inI n 1001) fun l w n => outI ((List.range n.toNat).map (digR l w.toNat))
set_option maxHeartbeats 1000000 in
theorem rdig_ok (C : Ctx) (hC : CtxOK C P) : Meets C.glob P 58 (Fn.run fRDig) := by
 refine fn_meetsN (m_ref05_Digits C hC) fun ds rows r h => ?_
 obtain ⟨d, d1, d2, l, w, n, rfl, rfl, g0, g1, g2, hp, rfl⟩ := fn3_some h
 obtain ⟨ex, hx⟩ := rdLst_nrm g0
 cases rdI_some g1
 cases rdI_some g2
 simp only [Bool.and_eq_true, decide_eq_true_eq, inI_eq, List.all_eq_true] at hp
 obtain ⟨⟨⟨hl, h1⟩, hw⟩, hn⟩ := hp
 refine ⟨rfl, _, .cons hx (.cons (.refl _) (.cons (.refl _) .nil)), afun_mk rfl ?_⟩
 clear h g0 hx g1 g2
 obtain ⟨w, rfl⟩ := Int.eq_ofNat_of_zero_le hw.1
 obtain ⟨n, rfl⟩ := Int.eq_ofNat_of_zero_le hn.1
 have hw : w < 9 := by omega
 have hn : n < 1001 := by omega
 simp only [Int.toNat_natCast]
 unfold a_ref05_Digits r_ref05_Digits
 have b0 : ∀ n : Nat, ((0 : Int) ≤ (n : Int)) = True := fun n => eq_true (by omega)
 simp only [↓amD, amU, simprocAttr, zipEnv, amR]
 refine kLoop_up n (fun k env rows => has env [(8, .raw (it (k : Int))), (2, .raw (it (n : Int))), (1, .raw (it (w : Int))), (0, .lst LI (l.map natD) ex)] ∧ ∃ d', look env 7 = some d' ∧ Own LI d' rows (((List.range k).map (digR l w)).map natD)) ?_ ?_ ⟨?_, .raw (.slice none 0 0), ?_, .inl ⟨rfl, rfl⟩⟩
 ·rintro k hk env rows ⟨hh, d', h7, hO⟩ R hR
  simp only [has] at hh
  have e0 : ((k : Int) < (n : Int)) = True := eq_true (by omega)
  have e1 := wz_succ k (by omega)
  have hwk : w * k ≤ 8 * 1000 := Nat.mul_le_mul (by omega) (by omega)
  have q1 : wz ((w : Int) * (k : Int)) = ((w * k : Nat) : Int) := by rw [← Int.natCast_mul]; exact wz_id (by omega)
  simp only [↓amD, amU, simprocAttr, zipEnv, amR, hh, e0, e1, h7]
  refine kLoop_up w (fun j env rows => has env [(10, .raw (it (j : Int))), (9, .raw (it (digW l (w * k) j : Int))), (8, .raw (it (k : Int))), (2, .raw (it (n : Int))), (1, .raw (it (w : Int))), (0, .lst LI (l.map natD) ex)] ∧ ∃ d', look env 7 = some d' ∧ Own LI d' rows (((List.range k).map (digR l w)).map natD)) ?_ ?_ ⟨?_, d', ?_, hO⟩
  ·clear hh h7 hO
   rintro j hj env rows ⟨hh, d', h7, hO⟩ R2 hR2
   simp only [has] at hh
   have f0 : ((j : Int) < (w : Int)) = True := eq_true (by omega)
   have f1 := wz_succ j (by omega)
   have hd := digW_lt l h1 (w * k) j
   have hd2 : 2 ^ j ≤ 2 ^ 8 := Nat.pow_le_pow_right (by decide) (by omega)
   have f2 : wz ((digW l (w * k) j : Int) * 2) = ((digW l (w * k) j * 2 : Nat) : Int) := by rw [wz_id (by omega)]; omega
   have f3 : wz (((w * k : Nat) : Int) + (j : Int)) = ((w * k + j : Nat) : Int) := by rw [wz_id (by omega)]; omega
   by_cases c : w * k + j < l.length
   ·have c1 : (((w * k + j : Nat) : Int) < (l.length : Int)) = True := eq_true (by omega)
    have g : (l.map natD)[w * k + j]? = some (.raw (it ((l.getD (w * k + j) 0 : Nat) : Int))) := by simp [natD, List.getD, c]
    have hb : l.getD (w * k + j) 0 ≤ 1 := by rw [List.getD, List.getElem?_eq_getElem c]; exact h1 _ (List.getElem_mem c)
    have f4 : wz (((digW l (w * k) j * 2 : Nat) : Int) + ((l.getD (w * k + j) 0 : Nat) : Int)) = (digW l (w * k) (j + 1) : Int) := by rw [wz_id (by omega), digW]; omega
    simp only [↓amD, amU, simprocAttr, zipEnv, amR, hh, f0, f1, f2, f3, f4, q1, c1, b0, h7, List.length_map, g]
    exact hR2 _ _ ⟨by simp only [has, ↓amD, amU, simprocAttr, zipEnv, hh], d', by simp only [↓amD, amU, simprocAttr, zipEnv, h7], hO⟩
   ·have c1 : (((w * k + j : Nat) : Int) < (l.length : Int)) = False := eq_false (by omega)
    have hb : l.getD (w * k + j) 0 = 0 := by rw [List.getD, List.getElem?_eq_none (by omega)]; rfl
    have f4 : digW l (w * k) (j + 1) = digW l (w * k) j * 2 := by rw [digW, hb, Nat.add_zero]
    simp only [↓amD, amU, simprocAttr, zipEnv, amR, hh, f0, f1, f2, f3, q1, c1, b0, h7, List.length_map]
    exact hR2 _ _ ⟨by simp only [has, ↓amD, amU, simprocAttr, zipEnv, hh, f4], d', by simp only [↓amD, amU, simprocAttr, zipEnv, h7], hO⟩
  ·clear hh h7 hO
   rintro env rows ⟨hh, d', h7, hO⟩ R2
   simp only [has] at hh
   have f0 : ((w : Int) < (w : Int)) = False := eq_false (by omega)
   have hkl : (((List.range k).map (digR l w)).map natD).length = k := by simp
   simp only [↓amD, amU, simprocAttr, zipEnv, amR, hh, f0, e1, h7, elems_one]
   refine app_own hO.push (by rw [hkl]; simp [most]; omega) (by rw [hkl]; simp [most]; omega) fun d2 rows' hO' hfr hlen' _ => ?_
   simp only [↓amD, amU, simprocAttr, zipEnv, amR, hh, e1]
   refine hR _ _ ⟨by simp only [has, ↓amD, amU, simprocAttr, zipEnv, hh], d2, by simp only [↓amD, amU, simprocAttr, zipEnv], ?_⟩
   rw [List.range_succ, List.map_append, List.map_append]
   exact hO'
  ·simp only [has, ↓amD, amU, simprocAttr, zipEnv, hh]
   simp [digW]
  ·simp only [↓amD, amU, simprocAttr, zipEnv, h7]
 ·rintro env rows ⟨hh, d', h7, hO⟩ R
  simp only [has] at hh
  have e0 : ((n : Int) < (n : Int)) = False := eq_false (by omega)
  simp only [↓amD, amU, simprocAttr, zipEnv, amR, hh, e0, h7, hO.nTup]
  have := Own.expoL hO rfl
  rw [List.length_map] at this
  exact this
 ·simp only [has, ↓amD, amU, simprocAttr, zipEnv]
 ·simp only [↓amD, amU, simprocAttr, zipEnv]
theorem kRDig (rows : Rows) (k : D → Rows → Prop) (d : D) (l : List Nat) (w n : Nat) (hd : RdIn rows (rdLst LI natD) d l) (hl : l.length ≤ 1000000) (h1 : ∀ x ∈ l, x ≤ 1) (hw : w < 9) (hn : n < 1001) :
  kCall fRDig rows k [d, .raw (it (w : Int)), .raw (it (n : Int))] = k (.sl LI (0 + rows.length) [] 0 n false) (rows ++ [some ⟨LI, ((List.range n).map (digR l w)).map natD⟩]) := by
 refine (kCall_rd3 hd (RdIn.int _) (RdIn.int _) (by simp [hl, inI]; exact ⟨⟨h1, by omega⟩, by omega⟩) rfl k).trans ?_
 simp [outI, shift, shiftRows, Sh.pure]
theorem BitVec.ofNat_toNat_self (x : BitVec 8) : BitVec.ofNat 8 x.toNat = x := by simp
theorem bits_get : ∀ (p : List (BitVec 8)) (m : Nat), m < 8 * p.length → (bitsS p).getD m 0 = (p.getD (m / 8) 0#8).toNat / 2 ^ (7 - m % 8) % 2
 | [], m, h => by simp at h
 | b :: p, m, h => by
  simp only [bitsS, List.flatMap_cons]
  by_cases c : m < 8
  ·rw [List.getD, List.getElem?_append_left (by rw [bit8_len]; exact c), show m / 8 = 0 by omega, show m % 8 = m by omega]
   simp [bit8, c]
  ·rw [List.getD, List.getElem?_append_right (by rw [bit8_len]; omega), bit8_len]
   have ih := bits_get p (m - 8) (by simp only [List.length_cons] at h; omega)
   simp only [bitsS, List.getD] at ih
   rw [ih, show m / 8 = (m - 8) / 8 + 1 by omega, show (m - 8) % 8 = m % 8 by omega]
   simp
theorem bits_le (p : List (BitVec 8)) : ∀ x ∈ bitsS p, x ≤ 1 := by
 intro x hx
 obtain ⟨b, -, hb⟩ := List.mem_flatMap.1 hx
 obtain ⟨k, -, rfl⟩ := List.mem_map.1 hb
 omega
theorem dig_coef (p : List (BitVec 8)) (k w : Nat) (hw : w4 w = true) (hk : k < p.length * (8 / w)) : digR (bitsS p) w k = coefN p k w := by
 unfold digR coefN
 rcases w4_eq.1 hw with rfl | rfl | rfl | rfl
 ·have key : ∀ (n : Fin 256) (r : Fin 8), (0 * 2 + n.val / 2 ^ (7 - (1 * r.val + 0)) % 2) = ((BitVec.ofNat 8 n.val >>> (8 - 1 * r.val - 1)) &&& BitVec.ofNat 8 (2 ^ 1 - 1)).toNat := by decide +kernel
  have hk : k < p.length * 8 := hk
  have hr : k % 8 < 8 := Nat.mod_lt _ (by decide)
  have hkk := key ⟨(p.getD (k / 8) 0#8).toNat, (p.getD (k / 8) 0#8).isLt⟩ ⟨k % 8, hr⟩
  have hx : BitVec.ofNat 8 (p.getD (k / 8) 0#8).toNat = p.getD (k / 8) 0#8 := BitVec.ofNat_toNat_self _
  simp only [hx] at hkk
  have g0 : (bitsS p).getD (1 * k + 0) 0 = (p.getD (k / 8) 0#8).toNat / 2 ^ (7 - (1 * (k % 8) + 0)) % 2 := by
   rw [bits_get p _ (by omega), show (1 * k + 0) / 8 = k / 8 by omega, show (1 * k + 0) % 8 = 1 * (k % 8) + 0 by omega]
  show digW (bitsS p) (1 * k) 1 = _
  simp only [digW, g0]
  exact hkk
 ·have key : ∀ (n : Fin 256) (r : Fin 4), ((0 * 2 + n.val / 2 ^ (7 - (2 * r.val + 0)) % 2) * 2 + n.val / 2 ^ (7 - (2 * r.val + 1)) % 2) = ((BitVec.ofNat 8 n.val >>> (8 - 2 * r.val - 2)) &&& BitVec.ofNat 8 (2 ^ 2 - 1)).toNat := by decide +kernel
  have hk : k < p.length * 4 := hk
  have hr : k % 4 < 4 := Nat.mod_lt _ (by decide)
  have hkk := key ⟨(p.getD (k / 4) 0#8).toNat, (p.getD (k / 4) 0#8).isLt⟩ ⟨k % 4, hr⟩
  have hx : BitVec.ofNat 8 (p.getD (k / 4) 0#8).toNat = p.getD (k / 4) 0#8 := BitVec.ofNat_toNat_self _
  simp only [hx] at hkk
  have g0 : (bitsS p).getD (2 * k + 0) 0 = (p.getD (k / 4) 0#8).toNat / 2 ^ (7 - (2 * (k % 4) + 0)) % 2 := by
   rw [bits_get p _ (by omega), show (2 * k + 0) / 8 = k / 4 by omega, show (2 * k + 0) % 8 = 2 * (k % 4) + 0 by omega]
  have g1 : (bitsS p).getD (2 * k + 1) 0 = (p.getD (k / 4) 0#8).toNat / 2 ^ (7 - (2 * (k % 4) + 1)) % 2 := by
   rw [bits_get p _ (by omega), show (2 * k + 1) / 8 = k / 4 by omega, show (2 * k + 1) % 8 = 2 * (k % 4) + 1 by omega]
  show digW (bitsS p) (2 * k) 2 = _
  simp only [digW, g0, g1]
  exact hkk
 ·have key : ∀ (n : Fin 256) (r : Fin 2), ((((0 * 2 + n.val / 2 ^ (7 - (4 * r.val + 0)) % 2) * 2 + n.val / 2 ^ (7 - (4 * r.val + 1)) % 2) * 2 + n.val / 2 ^ (7 - (4 * r.val + 2)) % 2) * 2 + n.val / 2 ^ (7 - (4 * r.val + 3)) % 2) = ((BitVec.ofNat 8 n.val >>> (8 - 4 * r.val - 4)) &&& BitVec.ofNat 8 (2 ^ 4 - 1)).toNat := by decide +kernel
  have hk : k < p.length * 2 := hk
  have hr : k % 2 < 2 := Nat.mod_lt _ (by decide)
  have hkk := key ⟨(p.getD (k / 2) 0#8).toNat, (p.getD (k / 2) 0#8).isLt⟩ ⟨k % 2, hr⟩
  have hx : BitVec.ofNat 8 (p.getD (k / 2) 0#8).toNat = p.getD (k / 2) 0#8 := BitVec.ofNat_toNat_self _
  simp only [hx] at hkk
  have g0 : (bitsS p).getD (4 * k + 0) 0 = (p.getD (k / 2) 0#8).toNat / 2 ^ (7 - (4 * (k % 2) + 0)) % 2 := by
   rw [bits_get p _ (by omega), show (4 * k + 0) / 8 = k / 2 by omega, show (4 * k + 0) % 8 = 4 * (k % 2) + 0 by omega]
  have g1 : (bitsS p).getD (4 * k + 1) 0 = (p.getD (k / 2) 0#8).toNat / 2 ^ (7 - (4 * (k % 2) + 1)) % 2 := by
   rw [bits_get p _ (by omega), show (4 * k + 1) / 8 = k / 2 by omega, show (4 * k + 1) % 8 = 4 * (k % 2) + 1 by omega]
  have g2 : (bitsS p).getD (4 * k + 2) 0 = (p.getD (k / 2) 0#8).toNat / 2 ^ (7 - (4 * (k % 2) + 2)) % 2 := by
   rw [bits_get p _ (by omega), show (4 * k + 2) / 8 = k / 2 by omega, show (4 * k + 2) % 8 = 4 * (k % 2) + 2 by omega]
  have g3 : (bitsS p).getD (4 * k + 3) 0 = (p.getD (k / 2) 0#8).toNat / 2 ^ (7 - (4 * (k % 2) + 3)) % 2 := by
   rw [bits_get p _ (by omega), show (4 * k + 3) / 8 = k / 2 by omega, show (4 * k + 3) % 8 = 4 * (k % 2) + 3 by omega]
  show digW (bitsS p) (4 * k) 4 = _
  simp only [digW, g0, g1, g2, g3]
  exact hkk
 ·have key : ∀ (n : Fin 256) (r : Fin 1), ((((((((0 * 2 + n.val / 2 ^ (7 - (8 * r.val + 0)) % 2) * 2 + n.val / 2 ^ (7 - (8 * r.val + 1)) % 2) * 2 + n.val / 2 ^ (7 - (8 * r.val + 2)) % 2) * 2 + n.val / 2 ^ (7 - (8 * r.val + 3)) % 2) * 2 + n.val / 2 ^ (7 - (8 * r.val + 4)) % 2) * 2 + n.val / 2 ^ (7 - (8 * r.val + 5)) % 2) * 2 + n.val / 2 ^ (7 - (8 * r.val + 6)) % 2) * 2 + n.val / 2 ^ (7 - (8 * r.val + 7)) % 2) = ((BitVec.ofNat 8 n.val >>> (8 - 8 * r.val - 8)) &&& BitVec.ofNat 8 (2 ^ 8 - 1)).toNat := by decide +kernel
  have hk : k < p.length * 1 := hk
  have hr : k % 1 < 1 := Nat.mod_lt _ (by decide)
  have hkk := key ⟨(p.getD (k / 1) 0#8).toNat, (p.getD (k / 1) 0#8).isLt⟩ ⟨k % 1, hr⟩
  have hx : BitVec.ofNat 8 (p.getD (k / 1) 0#8).toNat = p.getD (k / 1) 0#8 := BitVec.ofNat_toNat_self _
  simp only [hx] at hkk
  have g0 : (bitsS p).getD (8 * k + 0) 0 = (p.getD (k / 1) 0#8).toNat / 2 ^ (7 - (8 * (k % 1) + 0)) % 2 := by
   rw [bits_get p _ (by omega), show (8 * k + 0) / 8 = k / 1 by omega, show (8 * k + 0) % 8 = 8 * (k % 1) + 0 by omega]
  have g1 : (bitsS p).getD (8 * k + 1) 0 = (p.getD (k / 1) 0#8).toNat / 2 ^ (7 - (8 * (k % 1) + 1)) % 2 := by
   rw [bits_get p _ (by omega), show (8 * k + 1) / 8 = k / 1 by omega, show (8 * k + 1) % 8 = 8 * (k % 1) + 1 by omega]
  have g2 : (bitsS p).getD (8 * k + 2) 0 = (p.getD (k / 1) 0#8).toNat / 2 ^ (7 - (8 * (k % 1) + 2)) % 2 := by
   rw [bits_get p _ (by omega), show (8 * k + 2) / 8 = k / 1 by omega, show (8 * k + 2) % 8 = 8 * (k % 1) + 2 by omega]
  have g3 : (bitsS p).getD (8 * k + 3) 0 = (p.getD (k / 1) 0#8).toNat / 2 ^ (7 - (8 * (k % 1) + 3)) % 2 := by
   rw [bits_get p _ (by omega), show (8 * k + 3) / 8 = k / 1 by omega, show (8 * k + 3) % 8 = 8 * (k % 1) + 3 by omega]
  have g4 : (bitsS p).getD (8 * k + 4) 0 = (p.getD (k / 1) 0#8).toNat / 2 ^ (7 - (8 * (k % 1) + 4)) % 2 := by
   rw [bits_get p _ (by omega), show (8 * k + 4) / 8 = k / 1 by omega, show (8 * k + 4) % 8 = 8 * (k % 1) + 4 by omega]
  have g5 : (bitsS p).getD (8 * k + 5) 0 = (p.getD (k / 1) 0#8).toNat / 2 ^ (7 - (8 * (k % 1) + 5)) % 2 := by
   rw [bits_get p _ (by omega), show (8 * k + 5) / 8 = k / 1 by omega, show (8 * k + 5) % 8 = 8 * (k % 1) + 5 by omega]
  have g6 : (bitsS p).getD (8 * k + 6) 0 = (p.getD (k / 1) 0#8).toNat / 2 ^ (7 - (8 * (k % 1) + 6)) % 2 := by
   rw [bits_get p _ (by omega), show (8 * k + 6) / 8 = k / 1 by omega, show (8 * k + 6) % 8 = 8 * (k % 1) + 6 by omega]
  have g7 : (bitsS p).getD (8 * k + 7) 0 = (p.getD (k / 1) 0#8).toNat / 2 ^ (7 - (8 * (k % 1) + 7)) % 2 := by
   rw [bits_get p _ (by omega), show (8 * k + 7) / 8 = k / 1 by omega, show (8 * k + 7) % 8 = 8 * (k % 1) + 7 by omega]
  show digW (bitsS p) (8 * k) 8 = _
  simp only [digW, g0, g1, g2, g3, g4, g5, g6, g7]
  exact hkk
noncomputable def fAllD : Fn := fn2 rd32 (rdOf d32D) (fun _ d => decide (d.length = 32)) fun t d => outI (bif okT t.toNat then digitsS t.toNat d else [])
set_option maxHeartbeats 1000000 in
theorem alld_ok (C : Ctx) (hC : CtxOK C P) (h1 : C.fn 31 = some fTable) (h2 : C.fn 59 = some fBits) (h3 : C.fn 58 = some fRDig) (h4 : C.fn 55 = some fNumS) (h5 : C.fn 13 = some fJoin) : Meets C.glob P 32 (Fn.run fAllD) := by
 refine fn_meets (m_ref05_All C hC) fun ds rows r h => ?_
 obtain ⟨d0, d1, t, d, rfl, rfl, g0, g1, hp, rfl⟩ := fn2_some h
 cases rd32_some g0
 cases rdOf_some g1
 simp only [decide_eq_true_eq] at hp
 refine ⟨rfl, afun_mk rfl ?_⟩
 clear h g0 g1
 unfold a_ref05_All r_ref05_All
 have kT := fun rows k => kTable rows k t
 cases hk : okT t.toNat
 ·obtain ⟨hw, hp', hl⟩ := okT_not hk
  rw [hw, hp', hl] at kT
  simp only [↓amD, amU, simprocAttr, zipEnv, amR, d32D, h1, kT, cond_false]
  exact .nil0 _
 ·have hx := parT_ok hk
  have ew : wT t.toNat = (parT t.toNat).w := rfl
  have ep : pT t.toNat = (parT t.toNat).p := rfl
  have el : lT t.toNat = (parT t.toNat).l := rfl
  rw [digitsS, ep]
  rw [ew, ep, el] at kT
  generalize parT t.toNat = x at *
  obtain ⟨hw, hp1, hp2, hs, hl, h32⟩ := hx
  have hpw := pow_le hw
  have h256 : 256 / x.w ≤ 256 := Nat.div_le_self _ _
  have hw9 : x.w < 9 := by have := w4_eq.1 hw; omega
  have hw0 : ((x.w : Int) = 0) = False := eq_false (by have := w4_eq.1 hw; omega)
  have hw0' : ((x.w : Int) ≠ 0) = True := eq_true (by have := w4_eq.1 hw; omega)
  have q1 : wz (Int.tdiv 256 (x.w : Int)) = ((256 / x.w : Nat) : Int) := tdivN 256 x.w (by decide)
  have b0 : ∀ n : Nat, ((0 : Int) ≤ (n : Int)) = True := fun n => eq_true (by omega)
  have kB := fun rows k d' hd => kBits rows k d' d hd (by omega)
  have hbl : (bitsS d).length = 256 := by rw [bits_len, hp]
  rw [hbl] at kB
  simp only [↓amD, amU, simprocAttr, zipEnv, amR, d32D, h1, kT, cond_true, hw0, decide_false, h2]
  refine Eq.mpr (kB _ _ _ (BsIn.atAll (n := 32) rfl rfl hp)) ?_
  simp only [↓amD, amU, simprocAttr, zipEnv, amR, q1, hw0, hw0', h3]
  refine Eq.mpr (kRDig _ _ _ (bitsS d) x.w (256 / x.w) (RdIn.il rfl hbl) (by omega) (bits_le d) hw9 (by omega)) ?_
  simp only [↓amD, amU, simprocAttr, zipEnv, amR]
  have hle : ∀ i, i < 256 / x.w → digR (bitsS d) x.w i = coefN d i x.w := fun i hi => dig_coef d i x.w hw (by rw [hp]; omega)
  have gl : ∀ i, i < 256 / x.w → (((List.range (256 / x.w)).map (digR (bitsS d) x.w)).map natD)[i]? = some (.raw (it (coefN d i x.w : Int))) := fun i hi => by
   rw [← hle i hi]; simp [natD, hi]
  generalize ((List.range (256 / x.w)).map (digR (bitsS d) x.w)).map natD = GL at *
  have s1 : ∀ y, y ≤ 2 ^ x.w - 1 → 1#64 <<< x.w - 1#64 - BitVec.ofNat 64 y = BitVec.ofNat 64 (2 ^ x.w - 1 - y) := fun y hy => by
   apply BitVec.eq_of_toNat_eq
   have h2w : (1#64 <<< x.w).toNat = 2 ^ x.w := by
    rw [BitVec.toNat_shiftLeft, Nat.shiftLeft_eq]; simp; omega
   have hpos : 1 ≤ 2 ^ x.w := Nat.pow_pos (by decide)
   rw [BitVec.toNat_sub, BitVec.toNat_sub, h2w]
   simp only [BitVec.toNat_ofNat]
   generalize 2 ^ x.w = W at *
   omega
  have eI : ∀ y : Nat, BitVec.ofInt 64 (y : Int) = BitVec.ofNat 64 y := fun y => BitVec.ofInt_natCast _ _
  refine kLoop_up (256 / x.w) (fun i env rows => has env [(26, .raw (it (i : Int))), (25, .raw (it ((256 / x.w : Nat) : Int))), (24, .sl LI 2 [] 0 (256 / x.w) false), (8, .raw (u64 (BitVec.ofNat 64 (sumD d x.w i)))), (7, .raw (it (x.l : Int))), (6, .raw (it (x.p : Int))), (5, .raw (it (x.w : Int))), (3, .ptr (.ar 32 L8) 0 [0])] ∧
   rows = [some ⟨.ar 32 L8, [.agg (.ar 32 L8) (bs d)]⟩, some ⟨LI, (bitsS d).map natD⟩, some ⟨LI, GL⟩]) ?_ ?_ ⟨?_, rfl⟩
  ·rintro i hi env rows ⟨hh, rfl⟩ R hR
   simp only [has] at hh
   have e0 : ((i : Int) < ((256 / x.w : Nat) : Int)) = True := eq_true (by omega)
   have e1 := wz_succ i (by omega)
   have hc := coefN_le d i x.w hw
   have gi := gl i hi
   have s2 : BitVec.ofNat 64 (sumD d x.w i) + BitVec.ofNat 64 (2 ^ x.w - 1 - coefN d i x.w) = BitVec.ofNat 64 (sumD d x.w (i + 1)) := by rw [sumD, BitVec.ofNat_add]
   have s1i := s1 _ hc
   simp only [↓amD, amU, simprocAttr, zipEnv, amR, hh, e0, e1, b0, gi, eI, Int.toNat_natCast, s1i, s2]
   exact hR _ _ ⟨by simp only [has, ↓amD, amU, simprocAttr, zipEnv, hh], rfl⟩
  ·rintro env rows ⟨hh, rfl⟩ R
   simp only [has] at hh
   have e0 : (((256 / x.w : Nat) : Int) < ((256 / x.w : Nat) : Int)) = False := eq_false (by omega)
   have hsl := sumD_le d x.w (256 / x.w)
   have hbd : sumD d x.w (256 / x.w) * 2 ^ x.l < 65536 := Nat.lt_of_le_of_lt (Nat.mul_le_mul_right _ hsl) hs
   have hsh : BitVec.ofNat 64 (sumD d x.w (256 / x.w)) <<< x.l = BitVec.ofNat 64 (sumD d x.w (256 / x.w) * 2 ^ x.l) := by
    apply BitVec.eq_of_toNat_eq
    have hle2 : sumD d x.w (256 / x.w) ≤ sumD d x.w (256 / x.w) * 2 ^ x.l := Nat.le_mul_of_pos_right _ (Nat.pow_pos (by decide))
    rw [BitVec.toNat_shiftLeft, Nat.shiftLeft_eq, BitVec.toNat_ofNat, BitVec.toNat_ofNat, Nat.mod_eq_of_lt (a := sumD d x.w (256 / x.w)) (by omega)]
   have kN := fun rows k => kNumN rows k (BitVec.ofNat 64 (sumD d x.w (256 / x.w) * 2 ^ x.l)) 2 (by decide) (by decide)
   rw [show (2 : Int).toNat = 2 from rfl, numq2 _ hbd] at kN
   have hfd : [d, be2 (sumD d x.w (256 / x.w) * 2 ^ x.l)].flatten = fullD x d := by simp [fullD]
   have hfl : (fullD x d).length = 34 := by rw [fullD, List.length_append, hp]; rfl
   simp only [↓amD, amU, simprocAttr, zipEnv, amR, hh, e0, b0, Int.toNat_natCast, hsh, h4, kN, h5]
   refine Eq.mpr (kJoin _ _ _ 2 _ _ [d, be2 (sumD d x.w (256 / x.w) * 2 ^ x.l)] rfl rfl (.cons (BsIn.atAll (n := 32) rfl rfl hp) (.cons (BsIn.own rfl _ rfl) .nil)) (by simp) (by rw [hfd, hfl]; decide)) ?_
   rw [hfd, hfl]
   simp only [↓amD, amU, simprocAttr, zipEnv, amR, h2]
   refine Eq.mpr (kBits _ _ _ (fullD x d) (BsIn.own rfl _ hfl.symm) (by omega)) ?_
   have hbl2 : (bitsS (fullD x d)).length = 272 := by rw [bits_len, hfl]
   rw [hbl2]
   simp only [↓amD, amU, simprocAttr, zipEnv, amR, hh, h3]
   refine Eq.mpr (kRDig _ _ _ (bitsS (fullD x d)) x.w x.p (RdIn.il rfl hbl2) (by omega) (bits_le _) hw9 (by omega)) ?_
   have hdd : (List.range x.p).map (digR (bitsS (fullD x d)) x.w) = digsP x d x.p := by
    apply List.map_congr_left
    intro i hi
    have hi := List.mem_range.1 hi
    exact dig_coef (fullD x d) i x.w hw (by rw [hfl]; omega)
   rw [hdd]
   have hdl : (digsP x d x.p).length = x.p := by simp [digsP]
   simp only [↓amD, amU, simprocAttr, zipEnv, amR, hh]
   rw [outI, hdl]
   exact .own _ 7 0 _ false false _ rfl rfl (fun h => by cases h)
  ·simp only [has, ↓amD, amU, simprocAttr, zipEnv]
   rfl
theorem val4 (p : List (BitVec 8)) (h : 4 ≤ p.length) : ((p.take 4).foldl (fun n b => 256#64 * n + b.setWidth 64) 0#64).setWidth 32 = numS p := by
 match p, h with
 | a :: b :: c :: d :: l, _ =>
  have hb := numB_four a b c d
  have e : numS (a :: b :: c :: d :: l) = numS [a, b, c, d] := rfl
  rw [e]
  apply BitVec.eq_of_toNat_eq
  rw [← hb]
  have ha := a.isLt
  have hb := b.isLt
  have hc := c.isLt
  have hd := d.isLt
  simp only [List.take_succ_cons, List.take_zero, List.foldl_cons, List.foldl_nil, numB, BitVec.toNat_setWidth, BitVec.toNat_add, BitVec.toNat_mul]
  simp
  omega
theorem kValue (rows : Rows) (k : D → Rows → Prop) (d : D) (p : List (BitVec 8)) (hd : BsIn rows d p) (hp : p.length ≤ 64) : kCall fValue rows k [d] = k (.raw (u64 (p.foldl (fun n b => 256#64 * n + b.setWidth 64) 0#64))) rows := by
 refine (kCall_rd1 (.bs hd) (by simp [most]; omega) rfl k).trans ?_
 simp [shift, shiftRows]
end Job
end Go.Am
namespace Go.Am
set_option linter.unusedSimpArgs false
set_option linter.unusedVariables false
namespace Job
def id9 : List (BitVec 8) := 9#8 :: List.replicate 15 0#8
theorem id9_num : numB id9 = 11963051962064242856134263542523101184 := by kernel_rfl
theorem seed1_num : numB seed1 = 452312848583266388373324160190187140051835877600158453279131187530910662656 := by kernel_rfl
theorem numB_inj : ∀ (p q : List (BitVec 8)), p.length = q.length → numB p = numB q → p = q
 | [], [], _, _ => rfl
 | [], _ :: _, h, _ => by cases h
 | _ :: _, [], h, _ => by cases h
 | a :: p, b :: q, h, e => by
  have hl : p.length = q.length := by simpa using h
  rw [numB_cons, numB_cons, hl] at e
  have h1 := numB_lt p
  have h2 := numB_lt q
  rw [hl] at h1
  have hpos : 0 < 256 ^ q.length := Nat.pow_pos (by decide)
  have d1 : (a.toNat * 256 ^ q.length + numB p) / 256 ^ q.length = a.toNat := by
   rw [Nat.mul_comm, Nat.mul_add_div hpos, Nat.div_eq_of_lt h1, Nat.add_zero]
  have d2 : (b.toNat * 256 ^ q.length + numB q) / 256 ^ q.length = b.toNat := by
   rw [Nat.mul_comm, Nat.mul_add_div hpos, Nat.div_eq_of_lt h2, Nat.add_zero]
  have hab : a.toNat = b.toNat := by rw [← d1, e, d2]
  rw [hab] at e
  rw [BitVec.eq_of_toNat_eq hab, numB_inj p q hl (by omega)]
theorem sumN_of (p : List (BitVec 8)) (n k M z : Nat) (hl : p.length = n) (hk : (padS (BitVec.ofNat 64 n)).length = k) (hM : n + k = 64 * M) (hz : numB (padS (BitVec.ofNat 64 n)) = z) : numB (sumS p) = foldP (numB p * 256 ^ k + z) M firstN := by
 have ht : textS p = p ++ padS (BitVec.ofNat 64 n) := by rw [textS, hl]
 rw [sumN_eq p M (by rw [ht, List.length_append, hl, hk, hM]), ht, numB_app, hk, hz]
theorem fold_num (id : List (BitVec 8)) (q : BitVec 32) (l : List (List (BitVec 8))) (hid : id.length = 16) (h : ∀ x ∈ l, x.length = 32) (hl : l.length = 67) :
  numB (foldS id q l) = foldP (numB (id ++ wordB q ++ be2 32896 ++ l.flatten) * 1208925819614629174706176 + 604462909807314587370416) 34 firstN := by
 have e10 : (256 : Nat) ^ 10 = 1208925819614629174706176 := by decide
 rw [foldS, sumN_of _ 2166 10 34 604462909807314587370416 (by simp only [List.length_append, flat_len h, hl, hid]; rfl) (by kernel_rfl) (by decide) (by kernel_rfl), e10]
noncomputable def keyB (Q p V : Nat) : Bool := Nat.beq (foldP (endN 11963051962064242856134263542523101184 Q 452312848583266388373324160190187140051835877600158453279131187530910662656 15 67 0 p * 1208925819614629174706176 + 604462909807314587370416) 34 firstN) V
theorem key_of (q : BitVec 32) (Q p V : Nat) (hQ : q.toNat = Q) (hp : numB (id9 ++ wordB q ++ be2 32896) = p)
  (hk : keyB Q p V = true) : numB (foldS id9 q (endsS id9 q seed1 15 67)) = V := by
 have hE := endN_eq id9 q seed1 15 (by decide) rfl rfl 67 0 (id9 ++ wordB q ++ be2 32896) (by decide)
 rw [← List.range_eq_range', id9_num, seed1_num, hp, hQ] at hE
 have hE2 : numB (id9 ++ wordB q ++ be2 32896 ++ (endsS id9 q seed1 15 67).flatten) = endN 11963051962064242856134263542523101184 Q 452312848583266388373324160190187140051835877600158453279131187530910662656 15 67 0 p := hE.symm
 rw [fold_num id9 q _ rfl (ends_len _ _ _ _ _) (by rw [endsS, List.length_map, List.length_range]), hE2]
 rw [keyB] at hk
 exact Nat.eq_of_beq_eq_true hk
noncomputable def clN (I Q seed : Nat) (A B : List Nat) : Nat → Nat → Nat → Nat
 | 0, _, acc => acc
 | m + 1, i, acc => nF (A.getD i 0) fun a => nF (B.getD i 0) fun b => nF (baseN I Q i) fun base => nF (stN base 255 seed) fun s => nF (chN base b 0 s) fun y => nF (chN base (15 - a) a y) fun x =>
   nF (acc * 115792089237316195423570985008687907853269984665640564039457584007913129639936 + x) fun acc => clN I Q seed A B m (i + 1) acc
def clF (id : List (BitVec 8)) (q : BitVec 32) (seed : List (BitVec 8)) (A B : List Nat) (i : Nat) : List (BitVec 8) := chS id q i (15 - A.getD i 0) (A.getD i 0) (chS id q i (B.getD i 0) 0 (secS id q i seed))
theorem clF_len (id : List (BitVec 8)) (q : BitVec 32) (seed : List (BitVec 8)) (A B : List Nat) (i : Nat) : (clF id q seed A B i).length = 32 := chS_len _ _ _ _ _ _ (chS_len _ _ _ _ _ _ (stepS_len _ _ _ _ _))
theorem clN_eq (id : List (BitVec 8)) (q : BitVec 32) (seed : List (BitVec 8)) (A B : List Nat) (hA : ∀ i, A.getD i 0 ≤ 15) (hB : ∀ i, B.getD i 0 ≤ 15) (hid : id.length = 16) (hs : seed.length = 32) : ∀ (m i : Nat) (p : List (BitVec 8)), i + m ≤ 65536 →
  clN (numB id) q.toNat (numB seed) A B m i (numB p) = numB (p ++ ((List.range' i m).map (clF id q seed A B)).flatten)
 | 0, i, p, _ => by simp [clN]
 | m + 1, i, p, h => by
  have hsec : (secS id q i seed).length = 32 := stepS_len _ _ _ _ _
  have ha := hA i
  have hb := hB i
  have hc := chS_len id q i (B.getD i 0) 0 _ hsec
  have hF := clF_len id q seed A B i
  have e32 : (256 : Nat) ^ 32 = 115792089237316195423570985008687907853269984665640564039457584007913129639936 := by decide
  rw [clN, nF_eq, nF_eq, nF_eq, nF_eq, nF_eq, nF_eq, nF_eq, ← stN_eq id q i 255 seed hid (by omega) (by decide) hs, show stepS id q i 255 seed = secS id q i seed from rfl, ← chN_eq2 id q i hid (by omega) _ 0 _ (by omega) hsec, ← chN_eq2 id q i hid (by omega) _ _ _ (by omega) hc]
  have hx : numB p * 115792089237316195423570985008687907853269984665640564039457584007913129639936 + numB (chS id q i (15 - A.getD i 0) (A.getD i 0) (chS id q i (B.getD i 0) 0 (secS id q i seed))) = numB (p ++ clF id q seed A B i) := by rw [numB_app, hF, e32, clF]
  rw [hx, clN_eq id q seed A B hA hB hid hs m (i + 1) _ (by omega), List.range'_succ, List.map_cons, List.flatten_cons, List.append_assoc]
noncomputable def clB (Q : Nat) (A B : List Nat) (p V : Nat) : Bool := Nat.beq (foldP (clN 11963051962064242856134263542523101184 Q 452312848583266388373324160190187140051835877600158453279131187530910662656 A B 67 0 p * 1208925819614629174706176 + 604462909807314587370416) 34 firstN) V
theorem cl_of (q : BitVec 32) (A B : List Nat) (hA : ∀ i, A.getD i 0 ≤ 15) (hB : ∀ i, B.getD i 0 ≤ 15) (Q p V : Nat) (hQ : q.toNat = Q) (hp : numB (id9 ++ wordB q ++ be2 32896) = p)
  (hk : clB Q A B p V = true) : numB (foldS id9 q ((List.range 67).map (clF id9 q seed1 A B))) = V := by
 have hE := clN_eq id9 q seed1 A B hA hB rfl rfl 67 0 (id9 ++ wordB q ++ be2 32896) (by decide)
 rw [← List.range_eq_range', id9_num, seed1_num, hp, hQ] at hE
 rw [fold_num id9 q _ rfl (fun x hx => by obtain ⟨i, -, rfl⟩ := List.mem_map.1 hx; exact clF_len _ _ _ _ _ _) (by rw [List.length_map, List.length_range]), ← hE]
 rw [clB] at hk
 exact Nat.eq_of_beq_eq_true hk
end Job
end Go.Am
namespace Go.Am
set_option linter.unusedSimpArgs false
set_option linter.unusedVariables false
namespace Job
set_option maxRecDepth 1000000 in
theorem lk0_num : keyB 0 3367299772410400323541289854578316077287268579049600 11151918626334902023451868100243377019279054673825380846584311401555024936722 = true := by kernel_rfl
theorem lk0_eq : numB (foldS id9 0#32 (endsS id9 0#32 seed1 15 67)) = 11151918626334902023451868100243377019279054673825380846584311401555024936722 := key_of 0#32 0 3367299772410400323541289854578316077287268579049600 11151918626334902023451868100243377019279054673825380846584311401555024936722 rfl (by kernel_rfl) lk0_num
theorem lk1_num : keyB 1 3367299772410400323541289854578316077287268579115136 95758510889725395401743461543189492226965819919065467601467707756969263969617 = true := by kernel_rfl
theorem lk1_eq : numB (foldS id9 1#32 (endsS id9 1#32 seed1 15 67)) = 95758510889725395401743461543189492226965819919065467601467707756969263969617 := key_of 1#32 1 3367299772410400323541289854578316077287268579115136 95758510889725395401743461543189492226965819919065467601467707756969263969617 rfl (by kernel_rfl) lk1_num
end Job
end Go.Am
namespace Go.Am
set_option linter.unusedSimpArgs false
set_option linter.unusedVariables false
namespace Job
def dgA : List Nat := [4, 14, 10, 1, 8, 11, 3, 4, 2, 12, 14, 11, 7, 15, 2, 13, 4, 15, 11, 13, 15, 2, 5, 2, 7, 12, 12, 11, 7, 11, 6, 9, 5, 8, 1, 9, 11, 1, 5, 12, 9, 11, 2, 5, 13, 10, 9, 0, 6, 4, 12, 4, 5, 5, 6, 5, 11, 11, 7, 13, 9, 13, 11, 3, 1, 12, 3]
def dgB : List Nat := [10, 4, 5, 0, 4, 0, 1, 10, 0, 14, 10, 2, 0, 3, 7, 13, 15, 10, 2, 12, 13, 14, 3, 14, 15, 10, 10, 7, 4, 14, 12, 1, 14, 1, 12, 15, 10, 3, 10, 3, 4, 2, 12, 13, 15, 2, 15, 1, 2, 15, 7, 11, 14, 0, 13, 9, 2, 4, 8, 9, 10, 2, 14, 11, 1, 12, 10]
theorem getD_le (l : List Nat) (h : l.all (fun x => Nat.ble x 15) = true) (i : Nat) : l.getD i 0 ≤ 15 := by
 rw [List.all_eq_true] at h
 simp only [List.getD]
 by_cases hi : i < l.length
 ·rw [List.getElem?_eq_getElem hi, Option.getD_some]
  exact Nat.le_of_ble_eq_true (h _ (List.getElem_mem hi))
 ·rw [List.getElem?_eq_none (by omega)]; exact Nat.zero_le _
theorem dgA_le : ∀ i, dgA.getD i 0 ≤ 15 := getD_le dgA (by decide)
theorem dgB_le : ∀ i, dgB.getD i 0 ≤ 15 := getD_le dgB (by decide)
set_option maxRecDepth 1000000 in
theorem lk2_num : clB 1 dgA dgB 3367299772410400323541289854578316077287268579115136 79979948362487476648246284576668030838192662465047185940863818887185847081279 = true := by kernel_rfl
theorem lk2_eq : numB (foldS id9 1#32 ((List.range 67).map (clF id9 1#32 seed1 dgA dgB))) = 79979948362487476648246284576668030838192662465047185940863818887185847081279 := cl_of 1#32 dgA dgB dgA_le dgB_le 1 3367299772410400323541289854578316077287268579115136 79979948362487476648246284576668030838192662465047185940863818887185847081279 rfl (by kernel_rfl) lk2_num
end Job
end Go.Am
namespace Go.Am
set_option linter.unusedSimpArgs false
set_option linter.unusedVariables false
namespace Job
open Go.Am.F
noncomputable def leafB (f V W : Nat) : Bool := Nat.beq (foldP ((f * 115792089237316195423570985008687907853269984665640564039457584007913129639936 + V) * 1208925819614629174706176 + 604462909807314587353520) 1 firstN) W
noncomputable def nodeB (f V X W : Nat) : Bool := Nat.beq (foldP (((f * 115792089237316195423570985008687907853269984665640564039457584007913129639936 + V) * 115792089237316195423570985008687907853269984665640564039457584007913129639936 + X) * 139984046386112763159840142535527767382602843577165595931249318810236991948760059086304843329475444736 + 69992023193056381579920071267763883691301421788582797965624659405118495974380029543152421664737723056) 2 firstN) W
theorem leaf_num (r : BitVec 32) (k : List (BitVec 8)) (f V W : Nat) (hf : numB (id9 ++ wordB r ++ be2 33410) = f) (hk : numB k = V) (hl : k.length = 32) (h : leafB f V W = true) : numB (leafS id9 r k) = W := by
 have e32 : (256 : Nat) ^ 32 = 115792089237316195423570985008687907853269984665640564039457584007913129639936 := by decide
 have e10 : (256 : Nat) ^ 10 = 1208925819614629174706176 := by decide
 have hfl : [k].flatten = k := by simp
 rw [leafS, hashS, hfl, sumN_of _ 54 10 1 604462909807314587353520 (by simp only [List.length_append, hl]; rfl) (by kernel_rfl) (by decide) (by kernel_rfl), numB_app, hf, hk, hl, e32, e10]
 rw [leafB] at h
 exact Nat.eq_of_beq_eq_true h
theorem node_num (r : BitVec 32) (a b : List (BitVec 8)) (f V X W : Nat) (hf : numB (id9 ++ wordB r ++ be2 33667) = f) (ha : numB a = V) (hla : a.length = 32) (hb : numB b = X) (hlb : b.length = 32) (h : nodeB f V X W = true) : numB (nodeS id9 r a b) = W := by
 have e32 : (256 : Nat) ^ 32 = 115792089237316195423570985008687907853269984665640564039457584007913129639936 := by decide
 have e42 : (256 : Nat) ^ 42 = 139984046386112763159840142535527767382602843577165595931249318810236991948760059086304843329475444736 := by decide
 have hfl : [a, b].flatten = a ++ b := by simp
 rw [nodeS, hashS, hfl, ← List.append_assoc, sumN_of _ 86 42 2 69992023193056381579920071267763883691301421788582797965624659405118495974380029543152421664737723056 (by simp only [List.length_append, hla, hlb]; rfl) (by kernel_rfl) (by decide) (by kernel_rfl), numB_app, numB_app, hf, ha, hla, hb, hlb, e32, e42]
 rw [nodeB] at h
 exact Nat.eq_of_beq_eq_true h
def K0 : List (BitVec 8) := foldS id9 0#32 (endsS id9 0#32 seed1 15 67)
def K1 : List (BitVec 8) := foldS id9 1#32 (endsS id9 1#32 seed1 15 67)
def K2 : List (BitVec 8) := foldS id9 1#32 ((List.range 67).map (clF id9 1#32 seed1 dgA dgB))
theorem K0_len : K0.length = 32 := sumS_len _
theorem K1_len : K1.length = 32 := sumS_len _
theorem K2_len : K2.length = 32 := sumS_len _
theorem l2_num : numB (leafS id9 2#32 K0) = 3286757031305648817487373471089000148344800980706227639007472113496128276608 := leaf_num 2#32 K0 3367299772410400323541289854578316077287268579181186 11151918626334902023451868100243377019279054673825380846584311401555024936722 3286757031305648817487373471089000148344800980706227639007472113496128276608 (by kernel_rfl) lk0_eq K0_len (by kernel_rfl)
theorem l3_num : numB (leafS id9 3#32 K1) = 106024502437388962684701854921148278755204158072574375386759158145382570383665 := leaf_num 3#32 K1 3367299772410400323541289854578316077287268579246722 95758510889725395401743461543189492226965819919065467601467707756969263969617 106024502437388962684701854921148278755204158072574375386759158145382570383665 (by kernel_rfl) lk1_eq K1_len (by kernel_rfl)
theorem l4_num : numB (leafS id9 3#32 K2) = 18757771660522844147024889560237470271809005705897073540813535832754130402148 := leaf_num 3#32 K2 3367299772410400323541289854578316077287268579246722 79979948362487476648246284576668030838192662465047185940863818887185847081279 18757771660522844147024889560237470271809005705897073540813535832754130402148 (by kernel_rfl) lk2_eq K2_len (by kernel_rfl)
theorem r1_num : numB (nodeS id9 1#32 (leafS id9 2#32 K0) (leafS id9 3#32 K1)) = 34208767715361182585739320846125708471668989242906035844334902391253857106311 := node_num 1#32 _ _ 3367299772410400323541289854578316077287268579115907 3286757031305648817487373471089000148344800980706227639007472113496128276608 106024502437388962684701854921148278755204158072574375386759158145382570383665 34208767715361182585739320846125708471668989242906035844334902391253857106311 (by kernel_rfl) l2_num (leafS_len _ _ _) l3_num (leafS_len _ _ _) (by kernel_rfl)
theorem r2_num : numB (nodeS id9 1#32 (leafS id9 2#32 K0) (leafS id9 3#32 K2)) = 45658623661487563997525722623095184068674674416997704931799417828767207879830 := node_num 1#32 _ _ 3367299772410400323541289854578316077287268579115907 3286757031305648817487373471089000148344800980706227639007472113496128276608 18757771660522844147024889560237470271809005705897073540813535832754130402148 45658623661487563997525722623095184068674674416997704931799417828767207879830 (by kernel_rfl) l2_num (leafS_len _ _ _) l4_num (leafS_len _ _ _) (by kernel_rfl)
theorem r_ne : nodeS id9 1#32 (leafS id9 2#32 K0) (leafS id9 3#32 K2) ≠ nodeS id9 1#32 (leafS id9 2#32 K0) (leafS id9 3#32 K1) := by
 intro h
 have := congrArg numB h
 rw [r1_num, r2_num] at this
 exact absurd this (by decide)
def mA : List (BitVec 8) := [78#8, 161#8, 139#8, 52#8, 44#8, 235#8, 127#8, 45#8, 79#8, 189#8, 242#8, 82#8, 124#8, 203#8, 123#8, 105#8, 88#8, 25#8, 177#8, 92#8, 155#8, 37#8, 218#8, 144#8, 100#8, 196#8, 85#8, 101#8, 187#8, 125#8, 157#8, 179#8]
def mB : List (BitVec 8) := [164#8, 80#8, 64#8, 26#8, 14#8, 162#8, 3#8, 125#8, 250#8, 44#8, 222#8, 62#8, 250#8, 167#8, 78#8, 193#8, 225#8, 207#8, 163#8, 163#8, 66#8, 205#8, 242#8, 241#8, 47#8, 123#8, 224#8, 217#8, 36#8, 137#8, 162#8, 235#8]
noncomputable def mashB (x W : Nat) : Bool := Nat.beq (foldP (((3367299772410400323541289854578316077287268579115393 * 115792089237316195423570985008687907853269984665640564039457584007913129639936 + 0) * 256 + x) * 4722366482869645213696 + 2361183241434822607288) 1 firstN) W
theorem mash_num (x : BitVec 8) (W : Nat) (h : mashB x.toNat W = true) : numB (mashS id9 1#32 z32 [x]) = W := by
 have e9 : (256 : Nat) ^ 9 = 4722366482869645213696 := by decide
 have e32 : (256 : Nat) ^ 32 = 115792089237316195423570985008687907853269984665640564039457584007913129639936 := by decide
 have hf : numB (id9 ++ wordB 1#32 ++ be2 33153) = 3367299772410400323541289854578316077287268579115393 := by kernel_rfl
 have hz : numB z32 = 0 := by kernel_rfl
 have hzl : z32.length = 32 := rfl
 have hx : numB [x] = x.toNat := by simp [numB]
 have hx1 : [x].length = 1 := rfl
 rw [mashS, sumN_of _ 55 9 1 2361183241434822607288 (by simp only [List.length_append, hzl]; rfl) (by kernel_rfl) (by decide) (by kernel_rfl), numB_app, numB_app, hf, hz, hzl, hx, hx1, e32, e9, Nat.pow_one]
 rw [mashB] at h
 exact Nat.eq_of_beq_eq_true h
theorem mash_A : mashS id9 1#32 z32 [97#8] = mA := numB_inj _ _ (sumS_len _) (by
 rw [mash_num 97#8 35565825316314147342097521830790458367854421712729281689345132743637646286259 (by kernel_rfl)]
 kernel_rfl)
theorem mash_B : mashS id9 1#32 z32 [98#8] = mB := numB_inj _ _ (sumS_len _) (by
 rw [mash_num 98#8 74321097347103787011108295394057822896803120951081462080696267838158197596907 (by kernel_rfl)]
 kernel_rfl)
theorem dg_A : digitsS 3 mA = dgA := by kernel_rfl
theorem dg_B : digitsS 3 mB = dgB := by kernel_rfl
theorem dgS_A : dgS 3 ⟨id9, 1#32⟩ z32 [97#8] = dgA := by rw [dgS]; show digitsS 3 (mashS id9 1#32 z32 [97#8]) = dgA; rw [mash_A, dg_A]
theorem dgS_B : dgS 3 ⟨id9, 1#32⟩ z32 [98#8] = dgB := by rw [dgS]; show digitsS 3 (mashS id9 1#32 z32 [98#8]) = dgB; rw [mash_B, dg_B]
theorem claim_other : claimS ⟨id9, 1#32⟩ (signS 3#32 ⟨id9, 1#32⟩ seed1 z32 [98#8]) [97#8] = K2 := by
 have hT := sig_T 3#32 ⟨id9, 1#32⟩ seed1 z32 [98#8]
 have hC := sig_C 3#32 ⟨id9, 1#32⟩ seed1 z32 [98#8] rfl
 have h3 : (3#32).toNat = 3 := rfl
 have hp3 : pT 3 = 67 := rfl
 have hw3 : wT 3 = 4 := rfl
 have hm : (List.range 67).map (clE ⟨id9, 1#32⟩ (signS 3#32 ⟨id9, 1#32⟩ seed1 z32 [98#8]) [97#8]) = (List.range 67).map (clF id9 1#32 seed1 dgA dgB) := by
  apply List.map_congr_left
  intro i hi
  have hi := List.mem_range.1 hi
  have hch := sig_chunk 3#32 ⟨id9, 1#32⟩ seed1 z32 [98#8] rfl i (by rw [h3, hp3]; exact hi)
  rw [h3, dgS_B] at hch
  rw [clE, hT, hC, hch, h3, dgS_A, hw3]
  rfl
 rw [claimS, hT, h3, hp3, hm, K2]
structure AwS (s : SgV) : Prop where
 w : Whole s
 t : s.t = 3758096385#32
 o : s.o = 3#32
 id : s.id = id9
 sd : s.seed = seed1
theorem aw_nodes {s : SgV} (h : AwS s) : s.ns.getD 2 [] = leafS id9 2#32 K0 ∧ s.ns.getD 1 [] = nodeS id9 1#32 (leafS id9 2#32 K0) (leafS id9 3#32 K1) := by
 have hH2 : hH s.t = 2 := by rw [h.t]; rfl
 have e := h.w.ns
 rw [hH2, h.o, h.id, h.sd] at e
 have h2 := nodes_leaf 3#32 id9 seed1 2 2 (by decide) (by decide)
 have h3 := nodes_leaf 3#32 id9 seed1 2 3 (by decide) (by decide)
 have h1 := nodes_node 3#32 id9 seed1 2 1 (by decide) (by decide)
 rw [e]
 have k0 : lfS 3#32 id9 seed1 2 2 = leafS id9 2#32 K0 := rfl
 have k1 : lfS 3#32 id9 seed1 2 3 = leafS id9 3#32 K1 := rfl
 rw [k0] at h2
 rw [k1] at h3
 rw [show 2 * 1 = 2 from rfl, h2, show 2 + 1 = 3 from rfl, h3] at h1
 exact ⟨h2, h1⟩
theorem climb1 (id d x : List (BitVec 8)) : climbS id 1#32 d [x] = nodeS id 1#32 x d := by
 show stepC id ((1#32 + 1#32 <<< 1) >>> 0) d x = _
 rw [stepC, if_pos (by decide)]
 rfl
theorem aw_other {s : SgV} (h : AwS s) : verE (pubSg s) [97#8] (sigF s 1#32 z32 [98#8]) = 5 := by
 have hH2 : hH s.t = 2 := by rw [h.t]; rfl
 have hh : hT s.t.toNat = 1 := by rw [h.t]; rfl
 have hq : (1#32).toNat < hH s.t := by rw [hH2]; decide
 obtain ⟨n2, n1⟩ := aw_nodes h
 have hr := rt_any h.w h.w rfl rfl rfl hq z32 [98#8] [97#8] rfl
 have hpath : pathG s (1#32).toNat = [leafS id9 2#32 K0] := by
  have hn := h.w.pn hq
  rw [hh] at hn
  rw [pathG, hn]
  show [pathAt s 1 0] = _
  rw [pathAt, h.w.lv, hH2, ← n2]
  rfl
 rw [h.o, h.id, h.sd, claim_other, hh, hpath] at hr
 rw [climb1, show 1#32 + 1#32 <<< 1 = 3#32 from by decide] at hr
 rw [verE, hr.1, hr.2, pub_read h.w, n1]
 simp only [if_true]
 rw [if_neg r_ne]
end Job
end Go.Am
namespace Go.Am
set_option linter.unusedSimpArgs false
set_option linter.unusedVariables false
attribute [local congr] bnd_congr kCond_congr kGd_congr kPick_congr kCall_congr kIdx_congr kSlice_congr kLoop_congr cond_congr' aBin_congr aBounds_congr aApp_congr aCopy_congr kFn_congr
namespace Job
open Go.Am.F
set_option maxRecDepth 10000
noncomputable def fAwakeL : Fn
 | [], [] => some (.raw (.bool true), [])
 | _, _ => none
theorem kAwakeL (rows : Rows) (k : D → Rows → Prop) : kCall fAwakeL rows k [] = k (.raw (.bool true)) rows := by
 refine (kCall_val rfl (r := (.raw (.bool true), [])) rfl).trans ?_
 simp [shift, shiftRows]
theorem sd1_eq : (bs z32).set 0 (.raw (u8 1#8)) = bs seed1 := rfl
theorem id9_len : id9.length = 16 := rfl
theorem sd1_len : seed1.length = 32 := rfl
theorem id9_eq : (List.replicate 16 (D.raw (u8 0#8))).set 0 (.raw (u8 9#8)) = bs id9 := rfl
theorem Sgn.els {rows : Rows} {L : At4} {s : Sg} (h : Sgn rows L s) {q : Nat} {l : List D} (hq : live rows q = some ⟨L8, l⟩) : Else rows L s q :=
 ⟨(ne_sh h.a hq (by decide)).symm, (ne_sh h.n hq (by decide)).symm, (ne_sh h.m hq (by decide)).symm, (ne_sh h.t hq (by decide)).symm, own_neA h.l hq (by decide)⟩
theorem new_whole {R : Rows} {L : At4} {t o : BitVec 32} {id seed : List (BitVec 8)} (h : Sgn R L (sgNew t o id seed (nodesL o id seed (hH t)))) (ht : okH t.toNat = true) (h10 : hT t.toNat ≤ 10) (ho : okT o.toNat = true) (hid : id.length = 16) (hsd : seed.length = 32) : Whole ((sgNew t o id seed (nodesL o id seed (hH t))).v L) :=
 ⟨ht, h10, ho, hid, hsd, rfl, Sg.ld_noref h⟩
theorem next_whole {R' : Rows} {L : At4} {s : Sg} {d : D} {c m : List (BitVec 8)} (h : Whole (s.v L)) (h' : Sgn R' (L.next d) (s.next c m)) : Whole ((s.next c m).v (L.next d)) :=
 ⟨h.t, h.t10, h.o, h.id, h.sd, h.ns, Sg.ld_noref h'⟩
set_option maxHeartbeats 400000 in
theorem awakel_ok (C CT : Ctx) (hC : CtxOK C P) (hN : LmC CT) (hSg : LmS CT) (n1 : C.fn 24 = none) (r1 : C.fnr 24 = some (afun CT 4 r_lms_New a_lms_New)) (n2 : C.fn 29 = none) (r2 : C.fnr 29 = some (afun CT 3 r_lms_Signer_Sign a_lms_Signer_Sign))
  (h1 : C.fn 30 = some fLeft) (h2 : C.fn 17 = some fPublicK) (h3 : C.fn 19 = some fVerify) : Meets C.glob P 9 (Fn.run fAwakeL) := by
 refine fn_meets (m_law06_awake C hC) fun ds rows r h => ?_
 unfold fAwakeL at h
 split at h
 ·cases h
  refine ⟨rfl, afun_mk rfl ?_⟩
  unfold a_law06_awake r_law06_awake
  simp only [z32_eq]
  simp only [↓amD, amU, simprocAttr, zipEnv, n1, r1, id9_eq, sd1_eq]
  have e1 : okH (3758096385#32).toNat = true := by decide
  have e2 : hT (3758096385#32).toNat ≤ 10 := by decide
  have e3 : okT (3#32).toNat = true := by decide
  refine newL_run CT hN (t := 3758096385#32) (o := 3#32) (id := id9) (seed := seed1) e1 e2 e3 id9_len sd1_len ?_
  intro R1 L hS hK hr hn hm ht hd
  have hw0 := new_whole hS e1 e2 e3 id9_len sd1_len
  have hs0 : AwS ((sgNew 3758096385#32 3#32 id9 seed1 (nodesL 3#32 id9 seed1 (hH 3758096385#32))).v L) := ⟨hw0, rfl, rfl, rfl, rfl⟩
  have hx0 : (sgNew 3758096385#32 3#32 id9 seed1 (nodesL 3#32 id9 seed1 (hH 3758096385#32))).nx = 0#32 := rfl
  have hl0 : (sgNew 3758096385#32 3#32 id9 seed1 (nodesL 3#32 id9 seed1 (hH 3758096385#32))).last = [] := rfl
  generalize sgNew 3758096385#32 3#32 id9 seed1 (nodesL 3#32 id9 seed1 (hH 3758096385#32)) = S0 at *
  clear hK hr hn hm ht
  have hH2 : hH S0.t = 2 := by have := hs0.t; rw [show S0.t = 3758096385#32 from this]; rfl
  have hlv0 : lvN (S0.v L) = 2 := hw0.lv.trans hH2
  have hso : okT S0.o.toNat = true := hw0.o
  have kL := fun k' => kLeftV R1 k' _ _ hS.rd hw0.ok
  have hle : ((lvN (S0.v L) : Int) - ((S0.v L).nx.toNat : Int)) = 2 := by
   rw [hlv0, show (S0.v L).nx = 0#32 from hx0]; rfl
  rw [hle] at kL
  simp only [↓amD, amU, simprocAttr, zipEnv, amR, h1, kL, n2, r2, z32_eq]
  refine sign_run CT hSg (L := L) (s := S0) (d := .sl L8 R1.length [] 0 1 true) (c := z32) (m := [97#8]) (hS.push _) hw0.ok hso rfl (.inr ⟨R1.length, true, rfl, by rw [lv_app0]; rfl⟩) (by decide) (by rw [hlv0, hx0]; decide) (by rw [hl0]; decide) ?_
  intro R2 d2 q2 hS2 hq2 hb2 hf2 hdl2 hln2
  have hw1 := next_whole hw0 hS2
  have hs1 : AwS ((S0.next z32 [97#8]).v (L.next d2)) := ⟨hw1, hs0.t, hs0.o, hs0.id, hs0.sd⟩
  have hx1 : (S0.next z32 [97#8]).nx = 1#32 := by show S0.nx + 1#32 = _; rw [hx0]; rfl
  have hl1 : (S0.next z32 [97#8]).last.length = 1 := by show (S0.last ++ [_]).length = 1; rw [hl0]; rfl
  have hlv1 : lvN ((S0.next z32 [97#8]).v (L.next d2)) = 2 := hw1.lv.trans hH2
  have hso1 : okT (S0.next z32 [97#8]).o.toNat = true := hw0.o
  have hsg1 : sigF (S0.v L) S0.nx z32 [97#8] = sigF ((S0.next z32 [97#8]).v (L.next d2)) 0#32 z32 [97#8] := by rw [hx0]; rfl
  have hL1 : 44 + 32 * pT S0.o.toNat + 32 * pathN (S0.v L) S0.nx.toNat = 2220 := by
   rw [hw0.pn (by rw [show hH (S0.v L).t = hH S0.t from rfl, hH2, hx0]; decide), show S0.o = 3#32 from hs0.o, hs0.t]
   rfl
  rw [hL1]
  simp only [↓amD, amU, simprocAttr, zipEnv, amR, n2, r2]
  refine sign_run CT hSg (L := L.next d2) (s := S0.next z32 [97#8]) (d := .sl L8 R2.length [] 0 1 true) (c := z32) (m := [98#8]) (hS2.push _) hw1.ok hso1 rfl (.inr ⟨R2.length, true, rfl, by rw [lv_app0]; rfl⟩) (by decide) (by rw [hlv1, hx1]; decide) (by rw [hl1]; decide) ?_
  intro R3 d3 q3 hS3 hq3 hb3 hf3 hdl3 hln3
  have hw2 := next_whole hw1 hS3
  have hL2 : 44 + 32 * pT (S0.next z32 [97#8]).o.toNat + 32 * pathN ((S0.next z32 [97#8]).v (L.next d2)) (S0.next z32 [97#8]).nx.toNat = 2220 := by
   rw [hw1.pn (by rw [show hH ((S0.next z32 [97#8]).v (L.next d2)).t = hH S0.t from rfl, hH2, hx1]; decide), show (S0.next z32 [97#8]).o = 3#32 from hs0.o, hs1.t]
   rfl
  rw [hL2]
  have hq23 := hf3 _ _ (live_push hq2) (Sgn.els (hS2.push _) (live_push hq2))
  have hs2 : AwS (((S0.next z32 [97#8]).next z32 [98#8]).v ((L.next d2).next d3)) := ⟨hw2, hs0.t, hs0.o, hs0.id, hs0.sd⟩
  have hx2 : ((S0.next z32 [97#8]).next z32 [98#8]).nx = 2#32 := by show S0.nx + 1#32 + 1#32 = _; rw [hx0]; rfl
  have hlv2 : lvN (((S0.next z32 [97#8]).next z32 [98#8]).v ((L.next d2).next d3)) = 2 := hw2.lv.trans hH2
  have hsg1 : sigF (S0.v L) S0.nx z32 [97#8] = sigF (((S0.next z32 [97#8]).next z32 [98#8]).v ((L.next d2).next d3)) 0#32 z32 [97#8] := by rw [hx0]; rfl
  have hsg2 : sigF ((S0.next z32 [97#8]).v (L.next d2)) (S0.next z32 [97#8]).nx z32 [98#8] = sigF (((S0.next z32 [97#8]).next z32 [98#8]).v ((L.next d2).next d3)) 1#32 z32 [98#8] := by rw [hx1]; rfl
  have hlen : ∀ q : BitVec 32, q.toNat < 2 → ∀ m, (sigF (((S0.next z32 [97#8]).next z32 [98#8]).v ((L.next d2).next d3)) q z32 m).length = 2220 := fun q hq m => by
   rw [sigF_len hw2.ok (by rw [hlv2]; exact hq) z32 m rfl, hw2.pn (by rw [show hH (((S0.next z32 [97#8]).next z32 [98#8]).v ((L.next d2).next d3)).t = hH S0.t from rfl, hH2]; exact hq), hs2.o, hs2.t]
   rfl
  rw [hsg1] at hq23
  rw [hsg2] at hq3
  clear hsg1 hsg2 hL1 hL2 hq2
  have hLr : ((L.next d2).next d3).r = L.r := rfl
  generalize (S0.next z32 [97#8]).next z32 [98#8] = S2 at *
  generalize (L.next d2).next d3 = L2 at *
  simp only [↓amD, amU, simprocAttr, zipEnv, amR, n2, r2]
  rw [← hLr]
  refine sign_none CT hSg (L := L2) (s := S2) (d := .sl L8 R3.length [] 0 1 true) (c := z32) (hS3.push _) hw2.ok rfl (by rw [hx2, hlv2]; rfl) ?_
  intro more
  have hS4 := (hS3.push [some ⟨L8, [.raw (u8 99#8)]⟩]).push more
  have q24 := live_app (live_app hq23 [some ⟨L8, [.raw (u8 99#8)]⟩]) more
  have q34 := live_app (live_app hq3 [some ⟨L8, [.raw (u8 99#8)]⟩]) more
  generalize (R3 ++ [some (⟨L8, [.raw (u8 99#8)]⟩ : Row)]) ++ more = R4 at *
  have kP0 := fun k' => kPublicV R4 k' _ _ hS4.rd hw2.ok
  have kP := fun L' k' => kPublicV (R4 ++ L') k' _ _ (hS4.push L').rd hw2.ok
  have hpl := pubSg_len hw2.ok
  have l2 := hlen 0#32 (by decide) [97#8]
  have l3 := hlen 1#32 (by decide) [98#8]
  have v1 : verE (pubSg (S2.v L2)) [97#8] (sigF (S2.v L2) 0#32 z32 [97#8]) = 0 := by
   rw [ver_own hw2 hw2 rfl rfl rfl (by rw [← hw2.lv, hlv2]; decide) z32 [97#8] rfl, if_pos rfl]
  have v2 : verE (pubSg (S2.v L2)) [98#8] (sigF (S2.v L2) 1#32 z32 [98#8]) = 0 := by
   rw [ver_own hw2 hw2 rfl rfl rfl (by rw [← hw2.lv, hlv2]; decide) z32 [98#8] rfl, if_pos rfl]
  have v3 := aw_other hs2
  generalize sigF (S2.v L2) 0#32 z32 [97#8] = A at *
  generalize sigF (S2.v L2) 1#32 z32 [98#8] = B at *
  generalize pubSg (S2.v L2) = PB at *
  simp only [↓amD, amU, simprocAttr, zipEnv, amR, h2, kP, kP0, h3]
  refine Eq.mpr (kVerify _ _ _ _ _ PB [97#8] A (BsIn.own (by rw [lv_app0]; rfl) _ hpl.symm) (BsIn.own (by rw [lv_appk]; rfl) _ rfl) (BsIn.own (live_app q24 _) _ l2.symm) (by omega) (by decide) (by omega)) ?_
  simp only [↓amD, amU, simprocAttr, zipEnv, amR, v1, h2, kP, h3]
  refine Eq.mpr (kVerify _ _ _ _ _ PB [98#8] B (BsIn.own (by rw [lv_appk]; rfl) _ hpl.symm) (BsIn.own (by rw [lv_appk]; rfl) _ rfl) (BsIn.own (live_app q34 _) _ l3.symm) (by omega) (by decide) (by omega)) ?_
  simp only [↓amD, amU, simprocAttr, zipEnv, amR, v2, h2, kP, h3]
  refine Eq.mpr (kVerify _ _ _ _ _ PB [97#8] B (BsIn.own (by rw [lv_appk]; rfl) _ hpl.symm) (BsIn.own (by rw [lv_appk]; rfl) _ rfl) (BsIn.own (live_app q34 _) _ l3.symm) (by omega) (by decide) (by omega)) ?_
  simp only [↓amD, amU, simprocAttr, zipEnv, amR, v3]
  exact .val _ rfl
 ·cases h
structure LW (C CL CT : Ctx) : Prop where
 new : LmC CT
 sgn : LmS CT
 ln : CL.fn 24 = none
 lr : CL.fnr 24 = some (afun CT 4 r_lms_New a_lms_New)
 n1 : C.fn 24 = none
 r1 : C.fnr 24 = some (afun CT 4 r_lms_New a_lms_New)
 n2 : C.fn 29 = none
 r2 : C.fnr 29 = some (afun CT 3 r_lms_Signer_Sign a_lms_Signer_Sign)
 n3 : C.fn 10 = none
 r3 : C.fnr 10 = some (afun CL 4 r_law06_lay a_law06_lay)
 awake : C.fn 9 = some fAwakeL
 cut : C.fn 12 = some fCut
 same : C.fn 16 = some fSame
 join : C.fn 13 = some fJoin
 table : C.fn 31 = some fTable
 alld : C.fn 32 = some fAllD
 rmash : C.fn 33 = some fRMash
 kno : C.fn 34 = some fKnows
 las : C.fn 35 = some fLast0
 sid : C.fn 36 = some fSigned
 lef : C.fn 30 = some fLeft
 frc : C.fn 11 = some fForce
 pub : C.fn 17 = some fPublicK
 pat : C.fn 25 = some fPath
 ver : C.fn 19 = some fVerify
 roo : C.fn 18 = some fRoot
 par : C.fn 14 = some fParts
 cla : C.fn 21 = some fClaim
 opub : C.fn 26 = some fPublic
 clm : C.fn 22 = some fClimb
 rha : C.fn 23 = some fRHash
 lea : C.fn 27 = some fLeaf
 nod : C.fn 28 = some fNode
end Job
end Go.Am
