import Derived.Test.YtmhagenbelpnfaaDoorRp17
namespace Go.Am
set_option linter.unusedSimpArgs false
set_option linter.unusedVariables false
attribute [local congr] bnd_congr kCond_congr kGd_congr kPick_congr kCall_congr kIdx_congr kSlice_congr kLoop_congr cond_congr' aBin_congr aBounds_congr aApp_congr aCopy_congr kFn_congr
namespace Job
open Go.Am.F
set_option maxRecDepth 10000
def fTable : Fn := fn1 rd32 (fun _ => true) fun t => (.tup [.raw (it (wT t.toNat : Int)), .raw (it (pT t.toNat : Int)), .raw (it (lT t.toNat : Int))], [])
theorem table_ok (C : Ctx) (hC : CtxOK C P) : Meets C.glob P 31 (Fn.run fTable) := by
 refine fn_meets (m_ref05_Table C hC) fun ds rows r h => ?_
 obtain ⟨d, t, rfl, rfl, hd, hp, rfl⟩ := fn1_some h
 cases rd32_some hd
 refine ⟨rfl, afun_mk rfl ?_⟩
 clear h hd
 unfold a_ref05_Table r_ref05_Table
 cases hk : okT t.toNat
 ·obtain ⟨hw, hp, hl⟩ := okT_not hk
  rw [hw, hp, hl]
  have n1 : (t = 1#32) = False := eq_false (fun e => by rw [e] at hk; cases hk)
  have n2 : (t = 2#32) = False := eq_false (fun e => by rw [e] at hk; cases hk)
  have n3 : (t = 3#32) = False := eq_false (fun e => by rw [e] at hk; cases hk)
  have n4 : (t = 4#32) = False := eq_false (fun e => by rw [e] at hk; cases hk)
  simp only [↓amD, amU, simprocAttr, zipEnv, n1, n2, n3, n4, decide_false]
  exact .val _ rfl
 ·rcases okT_cases hk with rfl | rfl | rfl | rfl
  ·simp only [↓amD, amU, simprocAttr, zipEnv]
   exact .val _ rfl
  ·simp only [↓amD, amU, simprocAttr, zipEnv]
   exact .val _ rfl
  ·simp only [↓amD, amU, simprocAttr, zipEnv]
   exact .val _ rfl
  ·simp only [↓amD, amU, simprocAttr, zipEnv]
   exact .val _ rfl
theorem kTable (rows : Rows) (k : D → Rows → Prop) (t : BitVec 32) : kCall fTable rows k [.raw (u32 t)] = k (.tup [.raw (it (wT t.toNat : Int)), .raw (it (pT t.toNat : Int)), .raw (it (lT t.toNat : Int))]) rows := by
 refine (kCall_rd1 (RdIn.raw (rd32_eq t)) rfl rfl k).trans ?_
 simp [shift, shiftL, shiftRows, Sh.pure]
theorem shl_n (m b : Nat) (kd : IntKind) (hb : b ≤ 64) (hm : m * 2 ^ b < 9223372036854775808) (k : D → Prop) : aBin .shl (it (m : Int)) (.int kd (b : Int)) k = k (.raw (it ((m * 2 ^ b : Nat) : Int))) := by
 have e : IntKind.i64.wrap ((m : Int) * 2 ^ (min (b : Int).toNat IntKind.i64.bits)) = ((m * 2 ^ b : Nat) : Int) := by
  have : min (b : Int).toNat IntKind.i64.bits = b := by show min (b : Int).toNat 64 = b; omega
  rw [this, show ((2 : Int) ^ b) = ((2 ^ b : Nat) : Int) by simp, ← Int.natCast_mul]
  exact wz_id (by omega)
 simp only [aBin, it]
 rw [e]
 simp
def w4 (w : Nat) : Bool := decide (w = 1) || decide (w = 2) || decide (w = 4) || decide (w = 8)
theorem w4_eq {w : Nat} : w4 w = true ↔ w = 1 ∨ w = 2 ∨ w = 4 ∨ w = 8 := by simp [w4]; omega
noncomputable def fEnd : Fn := fn1 (rdOf parD) (fun x => w4 x.w) fun x => (.raw (it ((2 ^ x.w - 1 : Nat) : Int)), [])
theorem end_ok (C : Ctx) (hC : CtxOK C P) : Meets C.glob P 52 (Fn.run fEnd) := by
 refine fn_meets (m_ots_Param_end C hC) fun ds rows r h => ?_
 obtain ⟨d, x, rfl, rfl, hd, hp, rfl⟩ := fn1_some h
 cases rdOf_some hd
 have hp := w4_eq.1 hp
 refine ⟨rfl, afun_mk rfl ?_⟩
 clear h hd
 unfold a_ots_Param_end r_ots_Param_end
 obtain ⟨w, p, l⟩ := x
 have hf : ∀ x, (parD x).fits SPar = true := fun x => rfl
 have hg0 : ∀ w p l, (parD ⟨w, p, l⟩).get [0] = some (.raw (it (w : Int))) := fun w p l => rfl
 have s1 : ∀ k, aBin .shl (it 1) (it 1) k = k (.raw (it 2)) := fun k => shl_n 1 1 .i64 (by decide) (by decide) k
 have s2 : ∀ k, aBin .shl (it 1) (it 2) k = k (.raw (it 4)) := fun k => shl_n 1 2 .i64 (by decide) (by decide) k
 have s4 : ∀ k, aBin .shl (it 1) (it 4) k = k (.raw (it 16)) := fun k => shl_n 1 4 .i64 (by decide) (by decide) k
 have s8 : ∀ k, aBin .shl (it 1) (it 8) k = k (.raw (it 256)) := fun k => shl_n 1 8 .i64 (by decide) (by decide) k
 rcases hp with rfl | rfl | rfl | rfl
 ·simp only [↓amD, amU, simprocAttr, zipEnv, amR, hf, hg0, s1]
  exact .val _ rfl
 ·simp only [↓amD, amU, simprocAttr, zipEnv, amR, hf, hg0, s2]
  exact .val _ rfl
 ·simp only [↓amD, amU, simprocAttr, zipEnv, amR, hf, hg0, s4]
  exact .val _ rfl
 ·simp only [↓amD, amU, simprocAttr, zipEnv, amR, hf, hg0, s8]
  exact .val _ rfl
theorem kEnd (rows : Rows) (k : D → Rows → Prop) (x : Par) (h : w4 x.w = true) : kCall fEnd rows k [parD x] = k (.raw (it ((2 ^ x.w - 1 : Nat) : Int))) rows := by
 refine (kCall_rd1 (rdIn_par x) h rfl k).trans ?_
 simp [shift, shiftRows]
def coefN (p : List (BitVec 8)) (i w : Nat) : Nat := ((p.getD (i / (8 / w)) 0#8 >>> (8 - w * (i % (8 / w)) - w)) &&& BitVec.ofNat 8 (2 ^ w - 1)).toNat
def coefZ (p : List (BitVec 8)) (i w : Int) : Int := if (w = 1 ∨ w = 2 ∨ w = 4 ∨ w = 8) ∧ 0 ≤ i ∧ i < (p.length * (8 / w.toNat) : Nat) then (coefN p i.toNat w.toNat : Int) else 0
def fCoef : Fn := fn3 rdBs rdI rdI (fun p _ _ => decide (p.length ≤ 1099511627776)) fun p i w => (.raw (it (coefZ p i w)), [])
theorem coef_ok (C : Ctx) (hC : CtxOK C P) : Meets C.glob P 61 (Fn.run fCoef) := by
 refine fn_meets (m_ots_Coef C hC) fun ds rows r h => ?_
 obtain ⟨d, d1, d2, p, i, w, rfl, rfl, g0, g1, g2, hp, rfl⟩ := fn3_some h
 have gb := rdBs_some g0
 cases rdI_some g1
 cases rdI_some g2
 simp only [decide_eq_true_eq] at hp
 refine ⟨rfl, afun_mk rfl ?_⟩
 clear h g0 g1 g2
 have hsl := gb.slen
 unfold a_ots_Coef r_ots_Coef
 have hfit : d.fits .ref = true := by rcases gb with ⟨rfl, _⟩ | ⟨e, rfl⟩ <;> rfl
 by_cases c4 : w = 4
 ·subst c4
  by_cases h0 : i < 0
  ·have h0' : (i < 0) = True := eq_true h0
   have hz : coefZ p i 4 = 0 := by rw [coefZ, if_neg (fun h => by omega)]
   rw [hz]
   simp only [↓amD, amU, simprocAttr, zipEnv, hsl, h0', decide_true]
   exact .val _ rfl
  have h0' : (i < 0) = False := eq_false h0
  obtain ⟨i, rfl⟩ := Int.eq_ofNat_of_zero_le (Int.not_lt.1 h0)
  have h84 : wz (Int.tdiv 8 4) = 2 := by decide
  have hm : wz ((p.length : Int) * 2) = ((p.length * 2 : Nat) : Int) := by rw [wz_id (by omega)]; omega
  by_cases hc : i < p.length * 2
  ·have hc' : (((p.length * 2 : Nat) : Int) ≤ (i : Int)) = False := eq_false (by omega)
   have hz : coefZ p (i : Int) 4 = (coefN p i 4 : Int) := by
    rw [coefZ, if_pos ⟨by decide, by omega, by show (i : Int) < ((p.length * 2 : Nat) : Int); omega⟩]
    rfl
   have hr : i % 2 < 2 := Nat.mod_lt _ (by decide)
   have q1 : wz ((i : Int).tdiv 2) = ((i / 2 : Nat) : Int) := by rw [Int.tdiv_eq_ediv_of_nonneg (by omega), wz_id (by omega)]; omega
   have q2 : (i : Int).tmod 2 = ((i % 2 : Nat) : Int) := by rw [Int.tmod_eq_emod_of_nonneg (by omega)]; omega
   have q3 : wz (4 * ((i % 2 : Nat) : Int)) = ((4 * (i % 2) : Nat) : Int) := by rw [wz_id (by omega)]; omega
   have q4 : wz (8 - ((4 * (i % 2) : Nat) : Int)) = ((8 - 4 * (i % 2) : Nat) : Int) := by rw [wz_id (by omega)]; omega
   have q5 : wz (((8 - 4 * (i % 2) : Nat) : Int) - 4) = ((8 - 4 * (i % 2) - 4 : Nat) : Int) := by rw [wz_id (by omega)]; omega
   have b0 : ∀ n : Nat, ((0 : Int) ≤ (n : Int)) = True := fun n => eq_true (by omega)
   have ki := fun k => kIdx_bs (k := k) (rows := ([] : Rows)) (n := ((i / 2 : Nat) : Int)) gb (by have : i / 2 < p.length := Nat.div_lt_of_lt_mul (by rw [Nat.mul_comm]; exact hc); omega)
   rw [hz]
   simp only [↓amD, amU, simprocAttr, zipEnv, hsl, h0', h84, hm, hc', q1, q2, q3, q4, q5, b0, ki, decide_false, Int.toNat_natCast]
   exact .val _ rfl
  ·have hc' : (((p.length * 2 : Nat) : Int) ≤ (i : Int)) = True := eq_true (by omega)
   have hz : coefZ p (i : Int) 4 = 0 := by
    rw [coefZ, if_neg (fun h => by have h2 : (i : Int) < ((p.length * 2 : Nat) : Int) := h.2.2; omega)]
   rw [hz]
   simp only [↓amD, amU, simprocAttr, zipEnv, hsl, h0', h84, hm, hc', decide_true, decide_false]
   exact .val _ rfl
 have n4 : (w = 4) = False := eq_false c4
 by_cases c1 : w = 1
 ·subst c1
  by_cases h0 : i < 0
  ·have h0' : (i < 0) = True := eq_true h0
   have hz : coefZ p i 1 = 0 := by rw [coefZ, if_neg (fun h => by omega)]
   rw [hz]
   simp only [↓amD, amU, simprocAttr, zipEnv, hsl, h0', decide_true]
   exact .val _ rfl
  have h0' : (i < 0) = False := eq_false h0
  obtain ⟨i, rfl⟩ := Int.eq_ofNat_of_zero_le (Int.not_lt.1 h0)
  have h81 : wz (Int.tdiv 8 1) = 8 := by decide
  have hm : wz ((p.length : Int) * 8) = ((p.length * 8 : Nat) : Int) := by rw [wz_id (by omega)]; omega
  by_cases hc : i < p.length * 8
  ·have hc' : (((p.length * 8 : Nat) : Int) ≤ (i : Int)) = False := eq_false (by omega)
   have hz : coefZ p (i : Int) 1 = (coefN p i 1 : Int) := by
    rw [coefZ, if_pos ⟨by decide, by omega, by show (i : Int) < ((p.length * 8 : Nat) : Int); omega⟩]
    rfl
   have hr : i % 8 < 8 := Nat.mod_lt _ (by decide)
   have q1 : wz ((i : Int).tdiv 8) = ((i / 8 : Nat) : Int) := by rw [Int.tdiv_eq_ediv_of_nonneg (by omega), wz_id (by omega)]; omega
   have q2 : (i : Int).tmod 8 = ((i % 8 : Nat) : Int) := by rw [Int.tmod_eq_emod_of_nonneg (by omega)]; omega
   have q3 : wz (1 * ((i % 8 : Nat) : Int)) = ((1 * (i % 8) : Nat) : Int) := by rw [wz_id (by omega)]; omega
   have q4 : wz (8 - ((1 * (i % 8) : Nat) : Int)) = ((8 - 1 * (i % 8) : Nat) : Int) := by rw [wz_id (by omega)]; omega
   have q5 : wz (((8 - 1 * (i % 8) : Nat) : Int) - 1) = ((8 - 1 * (i % 8) - 1 : Nat) : Int) := by rw [wz_id (by omega)]; omega
   have b0 : ∀ n : Nat, ((0 : Int) ≤ (n : Int)) = True := fun n => eq_true (by omega)
   have ki := fun k => kIdx_bs (k := k) (rows := ([] : Rows)) (n := ((i / 8 : Nat) : Int)) gb (by have : i / 8 < p.length := Nat.div_lt_of_lt_mul (by rw [Nat.mul_comm]; exact hc); omega)
   rw [hz]
   simp only [↓amD, amU, simprocAttr, zipEnv, hsl, h0', h81, hm, hc', q1, q2, q3, q4, q5, b0, ki, decide_false, Int.toNat_natCast]
   exact .val _ rfl
  ·have hc' : (((p.length * 8 : Nat) : Int) ≤ (i : Int)) = True := eq_true (by omega)
   have hz : coefZ p (i : Int) 1 = 0 := by
    rw [coefZ, if_neg (fun h => by have h2 : (i : Int) < ((p.length * 8 : Nat) : Int) := h.2.2; omega)]
   rw [hz]
   simp only [↓amD, amU, simprocAttr, zipEnv, hsl, h0', h81, hm, hc', decide_true, decide_false]
   exact .val _ rfl
 have n1 : (w = 1) = False := eq_false c1
 by_cases c2 : w = 2
 ·subst c2
  by_cases h0 : i < 0
  ·have h0' : (i < 0) = True := eq_true h0
   have hz : coefZ p i 2 = 0 := by rw [coefZ, if_neg (fun h => by omega)]
   rw [hz]
   simp only [↓amD, amU, simprocAttr, zipEnv, hsl, h0', decide_true]
   exact .val _ rfl
  have h0' : (i < 0) = False := eq_false h0
  obtain ⟨i, rfl⟩ := Int.eq_ofNat_of_zero_le (Int.not_lt.1 h0)
  have h82 : wz (Int.tdiv 8 2) = 4 := by decide
  have hm : wz ((p.length : Int) * 4) = ((p.length * 4 : Nat) : Int) := by rw [wz_id (by omega)]; omega
  by_cases hc : i < p.length * 4
  ·have hc' : (((p.length * 4 : Nat) : Int) ≤ (i : Int)) = False := eq_false (by omega)
   have hz : coefZ p (i : Int) 2 = (coefN p i 2 : Int) := by
    rw [coefZ, if_pos ⟨by decide, by omega, by show (i : Int) < ((p.length * 4 : Nat) : Int); omega⟩]
    rfl
   have hr : i % 4 < 4 := Nat.mod_lt _ (by decide)
   have q1 : wz ((i : Int).tdiv 4) = ((i / 4 : Nat) : Int) := by rw [Int.tdiv_eq_ediv_of_nonneg (by omega), wz_id (by omega)]; omega
   have q2 : (i : Int).tmod 4 = ((i % 4 : Nat) : Int) := by rw [Int.tmod_eq_emod_of_nonneg (by omega)]; omega
   have q3 : wz (2 * ((i % 4 : Nat) : Int)) = ((2 * (i % 4) : Nat) : Int) := by rw [wz_id (by omega)]; omega
   have q4 : wz (8 - ((2 * (i % 4) : Nat) : Int)) = ((8 - 2 * (i % 4) : Nat) : Int) := by rw [wz_id (by omega)]; omega
   have q5 : wz (((8 - 2 * (i % 4) : Nat) : Int) - 2) = ((8 - 2 * (i % 4) - 2 : Nat) : Int) := by rw [wz_id (by omega)]; omega
   have b0 : ∀ n : Nat, ((0 : Int) ≤ (n : Int)) = True := fun n => eq_true (by omega)
   have ki := fun k => kIdx_bs (k := k) (rows := ([] : Rows)) (n := ((i / 4 : Nat) : Int)) gb (by have : i / 4 < p.length := Nat.div_lt_of_lt_mul (by rw [Nat.mul_comm]; exact hc); omega)
   rw [hz]
   simp only [↓amD, amU, simprocAttr, zipEnv, hsl, h0', h82, hm, hc', q1, q2, q3, q4, q5, b0, ki, decide_false, Int.toNat_natCast]
   exact .val _ rfl
  ·have hc' : (((p.length * 4 : Nat) : Int) ≤ (i : Int)) = True := eq_true (by omega)
   have hz : coefZ p (i : Int) 2 = 0 := by
    rw [coefZ, if_neg (fun h => by have h2 : (i : Int) < ((p.length * 4 : Nat) : Int) := h.2.2; omega)]
   rw [hz]
   simp only [↓amD, amU, simprocAttr, zipEnv, hsl, h0', h82, hm, hc', decide_true, decide_false]
   exact .val _ rfl
 have n2 : (w = 2) = False := eq_false c2
 by_cases c8 : w = 8
 ·subst c8
  by_cases h0 : i < 0
  ·have h0' : (i < 0) = True := eq_true h0
   have hz : coefZ p i 8 = 0 := by rw [coefZ, if_neg (fun h => by omega)]
   rw [hz]
   simp only [↓amD, amU, simprocAttr, zipEnv, hsl, h0', decide_true]
   exact .val _ rfl
  have h0' : (i < 0) = False := eq_false h0
  obtain ⟨i, rfl⟩ := Int.eq_ofNat_of_zero_le (Int.not_lt.1 h0)
  have h88 : wz (Int.tdiv 8 8) = 1 := by decide
  have hm : wz ((p.length : Int) * 1) = ((p.length * 1 : Nat) : Int) := by rw [wz_id (by omega)]; omega
  by_cases hc : i < p.length * 1
  ·have hc' : (((p.length * 1 : Nat) : Int) ≤ (i : Int)) = False := eq_false (by omega)
   have hz : coefZ p (i : Int) 8 = (coefN p i 8 : Int) := by
    rw [coefZ, if_pos ⟨by decide, by omega, by show (i : Int) < ((p.length * 1 : Nat) : Int); omega⟩]
    rfl
   have hr : i % 1 < 1 := Nat.mod_lt _ (by decide)
   have q1 : wz ((i : Int).tdiv 1) = ((i / 1 : Nat) : Int) := by rw [Int.tdiv_eq_ediv_of_nonneg (by omega), wz_id (by omega)]; omega
   have q2 : (i : Int).tmod 1 = ((i % 1 : Nat) : Int) := by rw [Int.tmod_eq_emod_of_nonneg (by omega)]; omega
   have q3 : wz (8 * ((i % 1 : Nat) : Int)) = ((8 * (i % 1) : Nat) : Int) := by rw [wz_id (by omega)]; omega
   have q4 : wz (8 - ((8 * (i % 1) : Nat) : Int)) = ((8 - 8 * (i % 1) : Nat) : Int) := by rw [wz_id (by omega)]; omega
   have q5 : wz (((8 - 8 * (i % 1) : Nat) : Int) - 8) = ((8 - 8 * (i % 1) - 8 : Nat) : Int) := by rw [wz_id (by omega)]; omega
   have b0 : ∀ n : Nat, ((0 : Int) ≤ (n : Int)) = True := fun n => eq_true (by omega)
   have ki := fun k => kIdx_bs (k := k) (rows := ([] : Rows)) (n := ((i / 1 : Nat) : Int)) gb (by have : i / 1 < p.length := Nat.div_lt_of_lt_mul (by rw [Nat.mul_comm]; exact hc); omega)
   rw [hz]
   simp only [↓amD, amU, simprocAttr, zipEnv, hsl, h0', h88, hm, hc', q1, q2, q3, q4, q5, b0, ki, decide_false, Int.toNat_natCast]
   exact .val _ rfl
  ·have hc' : (((p.length * 1 : Nat) : Int) ≤ (i : Int)) = True := eq_true (by omega)
   have hz : coefZ p (i : Int) 8 = 0 := by
    rw [coefZ, if_neg (fun h => by have h2 : (i : Int) < ((p.length * 1 : Nat) : Int) := h.2.2; omega)]
   rw [hz]
   simp only [↓amD, amU, simprocAttr, zipEnv, hsl, h0', h88, hm, hc', decide_true, decide_false]
   exact .val _ rfl
 have n8 : (w = 8) = False := eq_false c8
 have hz : coefZ p i w = 0 := by rw [coefZ, if_neg (fun h => by omega)]
 rw [hz]
 simp only [↓amD, amU, simprocAttr, zipEnv, n1, n2, n4, n8, decide_false, Bool.not_false]
 exact .val _ rfl
theorem coefZ_nat {p : List (BitVec 8)} {i w : Nat} (hw : w4 w = true) (hi : i < p.length * (8 / w)) : coefZ p (i : Int) (w : Int) = (coefN p i w : Int) := by
 have h := w4_eq.1 hw
 rw [coefZ, if_pos ⟨by omega, by omega, by rw [Int.toNat_natCast]; omega⟩]
 simp
theorem kCoef (rows : Rows) (k : D → Rows → Prop) (d : D) (p : List (BitVec 8)) (i w : Int) (hd : BsIn rows d p) (hp : p.length ≤ 1099511627776) : kCall fCoef rows k [d, .raw (it i), .raw (it w)] = k (.raw (it (coefZ p i w))) rows := by
 refine (kCall_rd3 (.bs hd) (RdIn.int i) (RdIn.int w) (by simp [hp]) rfl k).trans ?_
 simp [shift, shiftRows]
theorem kCoefN (rows : Rows) (k : D → Rows → Prop) (d : D) (p : List (BitVec 8)) (i w : Nat) (hd : BsIn rows d p) (hp : p.length ≤ 1099511627776) (hw : w4 w = true) (hi : i < p.length * (8 / w)) : kCall fCoef rows k [d, .raw (it (i : Int)), .raw (it (w : Int))] = k (.raw (it (coefN p i w : Int))) rows := by
 rw [kCoef rows k d p i w hd hp, coefZ_nat hw hi]
theorem coefN_le (p : List (BitVec 8)) (i w : Nat) (hw : w4 w = true) : coefN p i w ≤ 2 ^ w - 1 := by
 have h : ∀ x : BitVec 8, (x &&& BitVec.ofNat 8 (2 ^ w - 1)).toNat ≤ 2 ^ w - 1 := fun x => by
  rw [BitVec.toNat_and, BitVec.toNat_ofNat]
  refine Nat.le_trans Nat.and_le_right ?_
  exact Nat.mod_le _ _
 exact h _
def sumD (d : List (BitVec 8)) (w : Nat) : Nat → Nat
 | 0 => 0
 | n + 1 => sumD d w n + (2 ^ w - 1 - coefN d n w)
theorem sumD_le (d : List (BitVec 8)) (w n : Nat) : sumD d w n ≤ n * (2 ^ w - 1) := by
 induction n with
 | zero => simp [sumD]
 | succ n ih => rw [sumD, Nat.add_mul]; omega
def fullD (x : Par) (d : List (BitVec 8)) : List (BitVec 8) := d ++ be2 (sumD d x.w (256 / x.w) * 2 ^ x.l)
def digsP (x : Par) (d : List (BitVec 8)) (n : Nat) : List Nat := (List.range n).map fun i => coefN (fullD x d) i x.w
def digitsS (t : Nat) (d : List (BitVec 8)) : List Nat := digsP (parT t) d (pT t)
def natD (n : Nat) : D := .raw (it (n : Int))
def outI (l : List Nat) : D × Rows := (.sl LI 0 [] 0 l.length false, [some ⟨LI, l.map natD⟩])
def parOK (x : Par) : Prop := w4 x.w = true ∧ x.p ≤ 34 * (8 / x.w) ∧ x.p ≤ 265 ∧ 256 / x.w * (2 ^ x.w - 1) * 2 ^ x.l < 65536 ∧ x.l ≤ 7 ∧ 256 / x.w ≤ 32 * (8 / x.w)
theorem parT_ok {t : Nat} (h : okT t = true) : parOK (parT t) := by
 simp only [okT, Bool.and_eq_true, decide_eq_true_eq] at h
 have : t = 1 ∨ t = 2 ∨ t = 3 ∨ t = 4 := by omega
 rcases this with rfl | rfl | rfl | rfl <;> exact ⟨by decide, by decide, by decide, by decide, by decide, by decide⟩
theorem tdivN (a b : Nat) (ha : a < 9223372036854775808) : wz ((a : Int).tdiv (b : Int)) = ((a / b : Nat) : Int) := by
 have h : a / b ≤ a := Nat.div_le_self _ _
 rw [Int.tdiv_eq_ediv_of_nonneg (by omega), ← Int.natCast_ediv]
 generalize a / b = c at *
 exact wz_id (by omega)
theorem Own.expoL {s : Sh} {d : D} {rows : Rows} {els : List D} (h : Own s d rows els) (hs : s.pure = true) : Expo rows d (.sl s 0 [] 0 els.length false) [some ⟨s, els⟩] := by
 rcases h with ⟨rfl, rfl⟩ | ⟨r, ex, rfl, h⟩
 ·exact .nil0 s
 ·exact .own s r 0 _ ex false _ h hs (fun h => by cases h)
theorem app_arr {rows : Rows} {r i len : Nat} {q : List Nat} {old news : List D} {k : D → Rows → Prop} (he : elems rows (.sl L8 r (i :: q) 0 len true) = some old) (hn : old.length = len) (hne : news.length ≠ 0) (hb : len + news.length ≤ most)
  (hk : k (.sl L8 rows.length [] 0 (len + news.length) false) (rows ++ [some ⟨L8, old ++ news⟩])) : aApp rows L8 1 (.sl L8 r (i :: q) 0 len true) news k := by
 unfold aApp
 rw [he]
 refine ⟨rfl, hn, by rw [Nat.mul_one]; exact hb, hb, ?_⟩
 exact ⟨rfl, fun h => absurd h hne, fun _ => hk⟩
noncomputable def fDigits : Fn := fn2 rd32 (rdOf d32D) (fun _ d => decide (d.length = 32)) fun t d => outI (bif okT t.toNat then digitsS t.toNat d else [])
theorem digits_ok (C : Ctx) (hC : CtxOK C P) (h1 : C.fn 43 = some fParams) (h2 : C.fn 52 = some fEnd) (h3 : C.fn 61 = some fCoef) (h4 : C.fn 62 = some fTwo) : Meets C.glob P 49 (Fn.run fDigits) := by
 refine fn_meets (m_ots_Digits C hC) fun ds rows r h => ?_
 obtain ⟨d0, d1, t, d, rfl, rfl, g0, g1, hp, rfl⟩ := fn2_some h
 cases rd32_some g0
 cases rdOf_some g1
 simp only [decide_eq_true_eq] at hp
 refine ⟨rfl, afun_mk rfl ?_⟩
 clear h g0 g1
 unfold a_ots_Digits r_ots_Digits
 have hz : D.agg SPar [.raw (it 0), .raw (it 0), .raw (it 0)] = parD ⟨0, 0, 0⟩ := rfl
 simp only [hz]
 cases hk : okT t.toNat
 ·have kP := fun rows k => kParams rows k t
  rw [hk] at kP
  simp only [↓amD, amU, simprocAttr, zipEnv, amR, d32D, h1, kP, par_fits, Bool.not_false, cond_false]
  exact .nil0 _
 ·have kP := fun rows k => kParams rows k t
  have hx := parT_ok hk
  have hpt : pT t.toNat = (parT t.toNat).p := rfl
  rw [digitsS, hpt]
  rw [hk] at kP
  generalize parT t.toNat = x at *
  obtain ⟨hw, hp1, hp2, hs, hl, h32⟩ := hx
  have kE := fun rows k => kEnd rows k x hw
  have g0 : (parD x).get [0] = some (.raw (it (x.w : Int))) := rfl
  have g1 : (parD x).get [1] = some (.raw (it (x.p : Int))) := rfl
  have g2 : (parD x).get [2] = some (.raw (it (x.l : Int))) := rfl
  have q1 : wz (Int.tdiv 256 (x.w : Int)) = ((256 / x.w : Nat) : Int) := tdivN 256 x.w (by decide)
  have hw0 : ((x.w : Int) = 0) = False := eq_false (by have := w4_eq.1 hw; omega)
  have hw0' : ((x.w : Int) ≠ 0) = True := eq_true (by have := w4_eq.1 hw; omega)
  simp only [↓amD, amU, simprocAttr, zipEnv, amR, d32D, h1, kP, par_fits, g0, q1, hw0, hw0', Bool.not_true, cond_true]
  have hpw : 2 ^ x.w ≤ 256 := by rcases w4_eq.1 hw with h | h | h | h <;> rw [h] <;> decide
  have h256 : 256 / x.w ≤ 256 := Nat.div_le_self _ _
  have b0 : ∀ n : Nat, ((0 : Int) ≤ (n : Int)) = True := fun n => eq_true (by omega)
  refine kLoop_up (256 / x.w) (fun i env rows => has env [(22, .raw (it (i : Int))), (21, .raw (it ((256 / x.w : Nat) : Int))), (7, .raw (it (sumD d x.w i : Int))), (5, .ptr SPar 1 [0]), (3, .ptr (.ar 32 L8) 0 [0])] ∧
   rows = [some ⟨.ar 32 L8, [.agg (.ar 32 L8) (bs d)]⟩, some ⟨SPar, [parD x]⟩]) ?_ ?_ ⟨?_, rfl⟩
  ·rintro i hi env rows ⟨hh, rfl⟩ R hR
   simp only [has] at hh
   have e0 : ((i : Int) < ((256 / x.w : Nat) : Int)) = True := eq_true (by omega)
   have e1 := wz_succ i (by omega)
   have hc := coefN_le d i x.w hw
   have hsl := sumD_le d x.w i
   have hsl2 : i * (2 ^ x.w - 1) ≤ 256 * 255 := Nat.mul_le_mul (by omega) (by omega)
   have kc := fun k => kCoefN [some ⟨.ar 32 L8, [.agg (.ar 32 L8) (bs d)]⟩, some ⟨SPar, [parD x]⟩] k (.sl L8 0 [0] 0 32 true) d i x.w (BsIn.atAll (n := 32) rfl rfl hp) (by omega) hw (by rw [hp]; omega)
   have q2 : wz (((2 ^ x.w - 1 : Nat) : Int) - (coefN d i x.w : Int)) = ((2 ^ x.w - 1 - coefN d i x.w : Nat) : Int) := by rw [wz_id (by omega)]; omega
   have q3 : wz ((sumD d x.w i : Int) + ((2 ^ x.w - 1 - coefN d i x.w : Nat) : Int)) = (sumD d x.w (i + 1) : Int) := by rw [wz_id (by omega), sumD]; omega
   simp only [↓amD, amU, simprocAttr, zipEnv, amR, hh, e0, e1, par_fits, h2, kE, g0, h3, kc, q2, q3]
   exact hR _ _ ⟨by simp only [has, ↓amD, amU, simprocAttr, zipEnv, hh], rfl⟩
  ·rintro env rows ⟨hh, rfl⟩ R
   simp only [has] at hh
   have e0 : (((256 / x.w : Nat) : Int) < ((256 / x.w : Nat) : Int)) = False := eq_false (by omega)
   have hsl := sumD_le d x.w (256 / x.w)
   have hbd : sumD d x.w (256 / x.w) * 2 ^ x.l < 65536 := Nat.lt_of_le_of_lt (Nat.mul_le_mul_right _ hsl) hs
   have kS := fun k => shl_n (sumD d x.w (256 / x.w)) x.l .i64 (by omega) (by omega) k
   have kS' : ∀ k, aBin .shl (it (sumD d x.w (256 / x.w) : Int)) (it (x.l : Int)) k = k (.raw (it ((sumD d x.w (256 / x.w) * 2 ^ x.l : Nat) : Int))) := kS
   have kT := fun rows k => kTwo rows k _ hbd
   have hfl : (fullD x d).length = 34 := by rw [fullD, List.length_append, hp]; rfl
   have hfd : bs d ++ bs (be2 (sumD d x.w (256 / x.w) * 2 ^ x.l)) = bs (fullD x d) := bs_app _ _
   have ea : ∀ L ex, elems ([some ⟨.ar 32 L8, [.agg (.ar 32 L8) (bs d)]⟩, some ⟨SPar, [parD x]⟩] ++ L) (.sl L8 0 [0] 0 32 ex) = some (bs d) := fun L ex => elems_arr (n := 32) rfl rfl hp
   simp only [↓amD, amU, simprocAttr, zipEnv, amR, hh, e0, par_fits, g2, kS', h4, kT]
   have tk : ∀ m, List.take 2 (bs (be2 m)) = bs (be2 m) := fun m => rfl
   have bl : ∀ m, (bs (be2 m)).length = 2 := fun m => rfl
   rw [tk]
   refine ⟨rfl, app_arr (elems_arr (n := 32) rfl rfl hp) (by rw [bs_len]; exact hp) (by rw [bl]; decide) (by rw [bl]; decide) ?_⟩
   rw [hfd, bl]
   simp only [↓amD, amU, simprocAttr, zipEnv, amR, hh, par_fits, g1]
   refine ⟨by omega, by omega, by omega, ?_⟩
   have hdl : ∀ i, (digsP x d i).length = i := fun i => by simp [digsP]
   have hds : ∀ i, (digsP x d i).map natD ++ [.raw (it (coefN (fullD x d) i x.w : Int))] = (digsP x d (i + 1)).map natD := fun i => by simp [digsP, List.range_succ, natD]
   refine kLoop_up x.p (fun i env rows => has env [(48, .raw (it (i : Int))), (47, .raw (it (x.p : Int))), (9, .sl L8 3 [] 0 34 false), (5, .ptr SPar 1 [0])] ∧
    live rows 3 = some ⟨L8, bs (fullD x d)⟩ ∧ live rows 1 = some ⟨SPar, [parD x]⟩ ∧ ∃ d', look env 10 = some d' ∧ Own LI d' rows ((digsP x d i).map natD)) ?_ ?_ ⟨?_, rfl, rfl, .sl LI 4 [] 0 0 (decide (0 = (x.p : Int))), ?_, .inr ⟨4, _, rfl, rfl⟩⟩
   ·clear hh
    rintro i hi env rows ⟨hh, r3, r1, d', h10, hO⟩ R hR
    simp only [has] at hh
    have e0 : ((i : Int) < (x.p : Int)) = True := eq_true (by omega)
    have e1 := wz_succ i (by omega)
    have kc := fun k => kCoefN rows k (.sl L8 3 [] 0 34 false) (fullD x d) i x.w (BsIn.own r3 _ hfl.symm) (by omega) hw (by rw [hfl]; omega)
    have eb : ∀ v ex, elems (rows ++ [some ⟨LI, [.raw (it v)]⟩]) (.sl LI rows.length [] 0 1 ex) = some [.raw (it v)] := fun v ex => by
     have : live (rows ++ [some ⟨LI, [.raw (it v)]⟩]) rows.length = some ⟨LI, [.raw (it v)]⟩ := by rw [lv_app0]; rfl
     simp only [elems, this]; rfl
    simp only [↓amD, amU, simprocAttr, zipEnv, amR, hh, e0, e1, h10, par_fits, r1, g0, h3, kc, eb]
    refine app_own hO.push (by rw [List.length_map, hdl]; simp [most]; omega) (by rw [List.length_map, hdl]; simp [most]; omega) fun d2 rows' hO' hfr hlen' _ => ?_
    rw [hds] at hO'
    have r3' := hfr 3 _ (live_app r3 _) (fun ex => own_neA hO r3 (by decide) ex _)
    have r1' := hfr 1 _ (live_app r1 _) (fun ex => own_neA hO r1 (by decide) ex _)
    simp only [↓amD, amU, simprocAttr, zipEnv, amR, hh, e1]
    exact hR _ _ ⟨by simp only [has, ↓amD, amU, simprocAttr, zipEnv, hh], r3', r1', d2, by simp only [↓amD, amU, simprocAttr, zipEnv], hO'⟩
   ·clear hh
    rintro env rows ⟨hh, r3, r1, d', h10, hO⟩ R
    simp only [has] at hh
    have e0 : ((x.p : Int) < (x.p : Int)) = False := eq_false (by omega)
    simp only [↓amD, amU, simprocAttr, zipEnv, amR, hh, e0, h10, hO.nTup]
    have := Own.expoL hO rfl
    rw [List.length_map] at this
    exact this
   ·simp only [has, ↓amD, amU, simprocAttr, zipEnv, hh]
   ·simp only [↓amD, amU, simprocAttr, zipEnv]
  ·simp only [has, ↓amD, amU, simprocAttr, zipEnv]
   rfl
theorem kDigits (rows : Rows) (k : D → Rows → Prop) (t : BitVec 32) (d : List (BitVec 8)) (hd : d.length = 32) (ht : okT t.toNat = true) :
  kCall fDigits rows k [.raw (u32 t), .agg (.ar 32 L8) (bs d)] = k (.sl LI (0 + rows.length) [] 0 (pT t.toNat) false) (rows ++ [some ⟨LI, (digitsS t.toNat d).map natD⟩]) := by
 refine (kCall_rd2 (RdIn.raw (rd32_eq t)) (rdIn_d32 d) (by simp [hd]) rfl k).trans ?_
 have hl : (digitsS t.toNat d).length = pT t.toNat := by simp [digitsS, digsP]
 simp [ht, outI, shift, shiftRows, Sh.pure, hl]
def pubS (t : Nat) (s : Site) (seed : List (BitVec 8)) : List (BitVec 8) := foldS s.id s.q (endsS s.id s.q seed (2 ^ wT t - 1) (pT t))
theorem RdIn.dlOwn {rows : Rows} {d : D} {l : List (List (BitVec 8))} (h : Own (.ar 32 L8) d rows (l.map d32D)) : RdIn rows (rdLst (.ar 32 L8) d32D) d l := by
 rcases h with ⟨h, rfl⟩ | ⟨r, ex, rfl, h⟩
 ·have : l = [] := by cases l with | nil => rfl | cons x l => cases h
  subst this
  exact RdIn.raw (by rfl)
 ·exact RdIn.dl h (by rw [List.length_map])
theorem pow_le {w : Nat} (h : w4 w = true) : 2 ^ w ≤ 256 := by rcases w4_eq.1 h with h | h | h | h <;> rw [h] <;> decide
theorem elems_one {s : Sh} {rows : Rows} {d : D} (ex : Bool) : elems (rows ++ [some ⟨s, [d]⟩]) (.sl s rows.length [] 0 1 ex) = some [d] := by
 have : live (rows ++ [some ⟨s, [d]⟩]) rows.length = some ⟨s, [d]⟩ := by rw [lv_app0]; rfl
 simp only [elems, this]; rfl
noncomputable def fPublic : Fn := fn3 rd32 (rdOf siteD) (rdOf d32D) (fun _ s x => decide (s.id.length = 16) && decide (x.length = 32)) fun t s x => bif okT t.toNat then (.tup [d32D (pubS t.toNat s x), .raw (it 0)], []) else (.tup [d32D z32, .raw (it 6)], [])
theorem public_ok (C : Ctx) (hC : CtxOK C P) (h1 : C.fn 43 = some fParams) (h2 : C.fn 52 = some fEnd) (h3 : C.fn 56 = some fSecret) (h4 : C.fn 51 = some fChain) (h5 : C.fn 53 = some fFold) : Meets C.glob P 26 (Fn.run fPublic) := by
 refine fn_meets (m_ots_Public C hC) fun ds rows r h => ?_
 obtain ⟨d0, d1, d2, t, s, seed, rfl, rfl, g0, g1, g2, hp, rfl⟩ := fn3_some h
 cases rd32_some g0
 cases rdOf_some g1
 cases rdOf_some g2
 simp only [Bool.and_eq_true, decide_eq_true_eq] at hp
 obtain ⟨hid, hsd⟩ := hp
 clear h g0 g1 g2
 have hz : D.agg SPar [.raw (it 0), .raw (it 0), .raw (it 0)] = parD ⟨0, 0, 0⟩ := rfl
 have kP := fun rows k => kParams rows k t
 cases hk : okT t.toNat
 ·rw [hk] at kP
  refine ⟨rfl, afun_mk rfl ?_⟩
  unfold a_ots_Public r_ots_Public
  simp only [hz, z32_eq]
  simp only [↓amD, amU, simprocAttr, zipEnv, amR, d32D, h1, kP, par_fits, site_fits, Bool.not_false, cond_false]
  exact .val _ rfl
 ·have hx := parT_ok hk
  have ew : wT t.toNat = (parT t.toNat).w := rfl
  have ep : pT t.toNat = (parT t.toNat).p := rfl
  have hps : pubS t.toNat s seed = foldS s.id s.q (endsS s.id s.q seed (2 ^ (parT t.toNat).w - 1) (parT t.toNat).p) := rfl
  rw [hps]
  rw [hk] at kP
  refine ⟨rfl, afun_mk rfl ?_⟩
  unfold a_ots_Public r_ots_Public
  simp only [hz, z32_eq]
  generalize parT t.toNat = x at *
  obtain ⟨hw, hp1, hp2, hs, hl, h32⟩ := hx
  have hpw := pow_le hw
  have kE := fun rows k => kEnd rows k x hw
  have g1 : (parD x).get [1] = some (.raw (it (x.p : Int))) := rfl
  simp only [↓amD, amU, simprocAttr, zipEnv, amR, d32D, h1, kP, par_fits, site_fits, g1, Bool.not_true, cond_true]
  refine ⟨by omega, by omega, by omega, ?_⟩
  have hds : ∀ i, (endsS s.id s.q seed (2 ^ x.w - 1) i).map d32D ++ [.agg (.ar 32 L8) (bs (chS s.id s.q i (2 ^ x.w - 1 - 0) 0 (secS s.id s.q i seed)))] = (endsS s.id s.q seed (2 ^ x.w - 1) (i + 1)).map d32D := fun i => by simp [endsS, List.range_succ, d32D]
  have hdl : ∀ i, (endsS s.id s.q seed (2 ^ x.w - 1) i).length = i := fun i => by simp [endsS]
  refine kLoop_up x.p (fun i env rows => has env [(25, .raw (it (i : Int))), (24, .raw (it (x.p : Int))), (8, .ptr SPar 3 [0]), (6, .ptr (.ar 32 L8) 2 [0]), (5, .ptr (.ar 32 L8) 1 [0]), (4, .ptr SSite 0 [0])] ∧
   live rows 0 = some ⟨SSite, [siteD s]⟩ ∧ live rows 1 = some ⟨.ar 32 L8, [.agg (.ar 32 L8) (bs seed)]⟩ ∧ live rows 2 = some ⟨.ar 32 L8, [.agg (.ar 32 L8) (bs z32)]⟩ ∧ live rows 3 = some ⟨SPar, [parD x]⟩ ∧
   ∃ d', look env 10 = some d' ∧ Own (.ar 32 L8) d' rows ((endsS s.id s.q seed (2 ^ x.w - 1) i).map d32D) ∧ (∀ r ex n, d' = .sl (.ar 32 L8) r [] 0 n ex → 4 ≤ r)) ?_ ?_ ⟨?_, rfl, rfl, rfl, rfl, .sl (.ar 32 L8) 4 [] 0 0 (decide (0 = (x.p : Int))), ?_, .inr ⟨4, _, rfl, rfl⟩, fun r ex n h => ?_⟩
  ·rintro i hi env rows ⟨hh, r0, r1, r2, r3, d', h10, hO, hne⟩ R hR
   simp only [has] at hh
   have e0 : ((i : Int) < (x.p : Int)) = True := eq_true (by omega)
   have e1 := wz_succ i (by omega)
   have kS := fun rows k => kSecret rows k s i seed hid (by omega) hsd
   have kC := fun rows k => kChain rows k s i 0 (2 ^ x.w - 1) (secS s.id s.q i seed) hid (by omega) (by decide) (by omega) (stepS_len _ _ _ _ _)
   rw [show ((0 : Nat) : Int) = 0 from rfl] at kC
   have lt3 := live_lt r3
   simp only [↓amD, amU, simprocAttr, zipEnv, amR, hh, e0, e1, h10, par_fits, site_fits, r0, r1, r3, h2, kE, h3, kS, h4, kC, elems_one]
   refine app_ownA hO.push (by rw [List.length_map, hdl]; simp [most]; omega) (by rw [List.length_map, hdl]; simp [most]; omega) fun rows' hl' hfr hlen' => ?_
   rw [hds, List.length_append] at hl'
   have hl' : live rows' (rows.length + 1) = _ := hl'
   have hfr' : ∀ r row, r < 4 → live rows r = some row → live rows' r = some row := fun r row hr hl => hfr r row (live_app hl _) (fun ex n e => by have := hne _ _ _ e; omega)
   simp only [↓amD, amU, simprocAttr, zipEnv, amR, hh, e1]
   exact hR _ _ ⟨by simp only [has, ↓amD, amU, simprocAttr, zipEnv, hh], hfr' 0 _ (by omega) r0, hfr' 1 _ (by omega) r1, hfr' 2 _ (by omega) r2, hfr' 3 _ (by omega) r3, .sl (.ar 32 L8) (rows.length + 1) [] 0 ((endsS s.id s.q seed (2 ^ x.w - 1) i).length + 1) false, by simp only [↓amD, amU, simprocAttr, zipEnv], .inr ⟨_, false, by rw [List.length_map, hdl, hdl], hl'⟩, fun r ex n e => by injection e with _ e; omega⟩
  ·rintro env rows ⟨hh, r0, r1, r2, r3, d', h10, hO, hne⟩ R
   simp only [has] at hh
   have e0 : ((x.p : Int) < (x.p : Int)) = False := eq_false (by omega)
   have w2 := fun y => live_set_eq (y := y) r2
   simp only [↓amD, amU, simprocAttr, zipEnv, amR, hh, e0, h10, r0, site_fits, h5]
   refine Eq.mpr (kFold _ _ s _ _ (RdIn.dlOwn hO) hid (ends_len _ _ _ _ _) (by rw [hdl]; omega)) ?_
   simp only [↓amD, amU, simprocAttr, zipEnv, amR, hh, r2, w2]
   exact .val _ rfl
  ·simp only [has, ↓amD, amU, simprocAttr, zipEnv]
  ·simp only [↓amD, amU, simprocAttr, zipEnv]
  ·injection h with _ h; omega
theorem kPublic (rows : Rows) (k : D → Rows → Prop) (t : BitVec 32) (s : Site) (x : List (BitVec 8)) (hid : s.id.length = 16) (hx : x.length = 32) (ht : okT t.toNat = true) :
  kCall fPublic rows k [.raw (u32 t), siteD s, .agg (.ar 32 L8) (bs x)] = k (.tup [.agg (.ar 32 L8) (bs (pubS t.toNat s x)), .raw (it 0)]) rows := by
 refine (kCall_rd3 (RdIn.raw (rd32_eq t)) (site_pure s rows) (rdIn_d32 x) (by simp [hid, hx]) (by simp [ht, noLst, noLstL, d32D, Sh.pure, noLstRows]) k).trans ?_
 simp [ht, d32D, shift, shiftL, shiftRows, Sh.pure]
end Job
end Go.Am
namespace Go.Am
set_option linter.unusedSimpArgs false
set_option linter.unusedVariables false
attribute [local congr] bnd_congr kCond_congr kGd_congr kPick_congr kCall_congr kIdx_congr kSlice_congr kLoop_congr cond_congr' aBin_congr aBounds_congr aApp_congr aCopy_congr kFn_congr
namespace Job
open Go.Am.F
set_option maxRecDepth 10000
end Job
end Go.Am
namespace Go.Am
set_option linter.unusedVariables false
set_option linter.unusedSimpArgs false
namespace Job
def triData {H : Type} (zs : List (Int × Int × Int)) : DataW H := .agg (zs.map fun z => .agg [.lit (.int .i64 z.1), .lit (.int .i64 z.2.1), .lit (.int .i64 z.2.2)])
def triCells (zs : List (Int × Int × Int)) : List Value := zs.flatMap fun z => [.int .i64 z.1, .int .i64 z.2.1, .int .i64 z.2.2]
theorem tri_len (zs : List (Int × Int × Int)) : (triCells zs).length = zs.length * 3 := by
 induction zs with
 | nil => rfl
 | cons z zs ih => simp only [triCells, List.flatMap_cons, List.length_append, List.length_cons, List.length_nil] at ih ⊢; omega
theorem tri_get : ∀ (zs : List (Int × Int × Int)) (i r : Nat), r < 3 → (triCells zs)[i * 3 + r]? = (zs[i]?).bind fun z => [Value.int .i64 z.1, .int .i64 z.2.1, .int .i64 z.2.2][r]?
 | [], i, r, _ => by simp [triCells]
 | z :: zs, 0, r, h => by
  simp only [triCells, List.flatMap_cons, Nat.zero_mul, Nat.zero_add]
  rw [List.getElem?_append_left (by simpa using h)]; rfl
 | z :: zs, i + 1, r, h => by
  have ih := tri_get zs i r h
  simp only [triCells, List.flatMap_cons] at ih ⊢
  rw [List.getElem?_append_right (by simp; omega)]
  simp only [List.length_cons, List.length_nil]
  rw [show (i + 1) * 3 + r - (0 + 1 + 1 + 1) = i * 3 + r by omega, ih]; rfl
theorem cells_tri {H : Type} {enc : TypeId × Value → H} {P : Program} {w : World} {base : Nat} {sp : Nat → Bool} {held : Bool} {fuel : Nat} {t e : TypeId} {n : Nat} {fs : Array Field} {f0 f1 f2 : Field} {cs : List Value} {zs : List (Int × Int × Int)} {p : List MemPlace}
  (ht : P.underlying t = some (.array n e)) (he : P.underlying e = some (.struct fs)) (hfs : fs.toList = [f0, f1, f2]) (o0 : f0.offset = 0) (o1 : f1.offset = 1) (o2 : f2.offset = 2)
  (u0 : P.underlying f0.type = some (.int .i64)) (u1 : P.underlying f1.type = some (.int .i64)) (u2 : P.underlying f2.type = some (.int .i64)) (c0 : P.cellsOf f0.type = 1) (c1 : P.cellsOf f1.type = 1) (c2 : P.cellsOf f2.type = 1)
  (hce : P.cellsOf e = 3) (hct : P.cellsOf t = n * 3) (h : DataW.trod enc P w base sp held fuel t cs = some (triData zs, p)) : cs = triCells zs := by
 cases fuel with
 | zero => simp [DataW.trod] at h
 | succ fuel =>
  simp only [DataW.trod, ht, hce, hct] at h
  split at h
  ·rename_i hl
   obtain ⟨xs, hm, hx⟩ := Option.map_eq_some_iff.1 h
   have hxs : xs.map (·.1) = zs.map fun z => (DataW.agg [.lit (.int .i64 z.1), .lit (.int .i64 z.2.1), .lit (.int .i64 z.2.2)] : DataW H) := by
    have := congrArg Prod.fst hx
    simpa [triData] using this
   have hxl : xs.length = n := by simpa using Lib.mapM_length hm
   have hzl : zs.length = n := by
    have := congrArg List.length hxs
    simp at this
    omega
   apply List.ext_getElem?
   intro j
   by_cases hj : j < n * 3
   ·have hi : j / 3 < n := by omega
    have hr : j % 3 < 3 := by omega
    have hjj : j = j / 3 * 3 + j % 3 := by omega
    generalize j / 3 = i at *
    generalize j % 3 = r at *
    subst hjj
    obtain ⟨b, hb, hf⟩ := Lib.mapM_at hm i i (by simp [hi])
    have hz := congrArg (·[i]?) hxs
    simp only [List.getElem?_map, hb, Option.map_some] at hz
    obtain ⟨z, hzi⟩ : ∃ z, zs[i]? = some z := ⟨zs[i]'(by omega), List.getElem?_eq_getElem (by omega)⟩
    rw [hzi, Option.map_some, Option.some.injEq] at hz
    rw [tri_get zs i r hr, hzi]
    have hsub : cs[i * 3 + r]? = ((cs.drop (i * 3)).take 3)[r]? := by
     rw [List.getElem?_take_of_lt hr, List.getElem?_drop]
    rw [hsub]
    generalize (cs.drop (i * 3)).take 3 = c at *
    cases fuel with
    | zero => simp [DataW.trod] at hf
    | succ fuel =>
     simp only [DataW.trod, he, hce, hfs] at hf
     split at hf
     ·rename_i hcl
      obtain ⟨ys, hmy, hy⟩ := Option.map_eq_some_iff.1 hf
      simp only [List.mapM_cons, List.mapM_nil, Option.bind_eq_bind, Option.bind_eq_some_iff, Option.pure_def, Option.some.injEq, o0, o1, o2, c0, c1, c2] at hmy
      obtain ⟨y0, h0, l0, ⟨y1, h1, l1, ⟨y2, h2, l2, rfl, rfl⟩, rfl⟩, rfl⟩ := hmy
      obtain ⟨z0, g0, rfl, _⟩ := DataW.trod_int u0 h0
      obtain ⟨z1, g1, rfl, _⟩ := DataW.trod_int u1 h1
      obtain ⟨z2, g2, rfl, _⟩ := DataW.trod_int u2 h2
      rw [← hy] at hz
      simp only [List.map_cons, List.map_nil, DataW.agg.injEq, List.cons.injEq, DataW.lit.injEq, Lit.int.injEq, true_and, and_true] at hz
      obtain ⟨e0, e1, e2⟩ := hz
      have a0 : c[0]? = some (.int .i64 z0) := by have := congrArg (·[0]?) g0; simpa [List.getElem?_take] using this
      have a1 : c[1]? = some (.int .i64 z1) := by have := congrArg (·[0]?) g1; simpa [List.getElem?_take, List.getElem?_drop] using this
      have a2 : c[2]? = some (.int .i64 z2) := by have := congrArg (·[0]?) g2; simpa [List.getElem?_take, List.getElem?_drop] using this
      match r, hr with
      | 0, _ => rw [a0, e0]; rfl
      | 1, _ => rw [a1, e1]; rfl
      | 2, _ => rw [a2, e2]; rfl
     ·cases hf
   ·rw [List.getElem?_eq_none (by omega), List.getElem?_eq_none (by rw [tri_len]; omega)]
  ·cases h
theorem laid_tri {P : Program} {W : World} {name : String} {g : Nat} {t e : TypeId} {n : Nat} {fs : Array Field} {f0 f1 f2 : Field} {zs : List (Int × Int × Int)}
  (hg : P.globalNamed name = some g) (hty : (P.globals[g]?).map (·.type) = some t) (ht : P.underlying t = some (.array n e)) (he : P.underlying e = some (.struct fs)) (hfs : fs.toList = [f0, f1, f2]) (o0 : f0.offset = 0) (o1 : f1.offset = 1) (o2 : f2.offset = 2)
  (u0 : P.underlying f0.type = some (.int .i64)) (u1 : P.underlying f1.type = some (.int .i64)) (u2 : P.underlying f2.type = some (.int .i64)) (c0 : P.cellsOf f0.type = 1) (c1 : P.cellsOf f1.type = 1) (c2 : P.cellsOf f2.type = 1)
  (hce : P.cellsOf e = 3) (hct : P.cellsOf t = n * 3) :
  ∀ {l : List (String × DataW Unit)} {ps : List MemPlace}, DataW.LaidVars P W l ps → (name, triData zs) ∈ l → W.var? P name = some (triCells zs).toArray
 | [], ps, _, hm => by cases hm
 | (n', d') :: r, ps, h, hm => by
  obtain ⟨g', t', cs, fuel, p, q, hg', ht', hvar, hd, hr, _⟩ := h
  rcases List.mem_cons.1 hm with hm | hm
  ·cases hm
   obtain rfl := Option.some.inj (hg.symm.trans hg')
   obtain rfl := Option.some.inj (hty.symm.trans ht')
   have := cells_tri ht he hfs o0 o1 o2 u0 u1 u2 c0 c1 c2 hce hct hd
   rw [hvar, ← this]
  ·exact laid_tri hg hty ht he hfs o0 o1 o2 u0 u1 u2 c0 c1 c2 hce hct hr hm
def triD (z : Int × Int × Int) : D := .agg SPar [.raw (it z.1), .raw (it z.2.1), .raw (it z.2.2)]
theorem tri_flat {W : World} {T : Nat → Prop} : ∀ zs : List (Int × Int × Int), All2 (LR noPl W T) (flatL (zs.map triD)) (triCells zs)
 | [] => .nil
 | z :: zs => by
  have ih := tri_flat (W := W) (T := T) zs
  exact .cons (.raw _ rfl) (.cons (.raw _ rfl) (.cons (.raw _ rfl) ih))
theorem laid_triG {P : Program} {W : World} {name : String} {g : Nat} {t e : TypeId} {n : Nat} {fs : Array Field} {f0 f1 f2 : Field} {zs : List (Int × Int × Int)} {l : List (String × DataW Unit)} (h : laidMet P l W) (hm : (name, triData zs) ∈ l)
  (hg : P.globalNamed name = some g) (hty : (P.globals[g]?).map (·.type) = some t) (ht : P.underlying t = some (.array n e)) (he : P.underlying e = some (.struct fs)) (hfs : fs.toList = [f0, f1, f2]) (o0 : f0.offset = 0) (o1 : f1.offset = 1) (o2 : f2.offset = 2)
  (u0 : P.underlying f0.type = some (.int .i64)) (u1 : P.underlying f1.type = some (.int .i64)) (u2 : P.underlying f2.type = some (.int .i64)) (c0 : P.cellsOf f0.type = 1) (c1 : P.cellsOf f1.type = 1) (c2 : P.cellsOf f2.type = 1)
  (hce : P.cellsOf e = 3) (hct : P.cellsOf t = n * 3) (hz : zs ≠ []) :
  LR noPl W (old W) (.cptr (.agg (.ar zs.length SPar) (zs.map triD))) (.pointer (some ⟨g, 0, none⟩)) := by
 obtain ⟨ps, hv, _⟩ := h
 have hT := laid_tri hg hty ht he hfs o0 o1 o2 u0 u1 u2 c0 c1 c2 hce hct hv hm
 have hcell := fun j => World.var?_cell hg hT j
 refine LR.mkCptr (cs := triCells zs) (s := .ar zs.length SPar) ?_ ?_ ?_ ?_
 ·refine .agg _ _ rfl (by simp [Sh.count]) fun i e d h1 h2 => ?_
  simp only [Sh.sub] at h1
  split at h1
  ·cases h1
   obtain ⟨z, _, rfl⟩ := List.mem_map.1 (mem_of_get h2)
   refine .agg _ _ rfl rfl fun i e d h1 h2 => ?_
   match i with
   | 0 => cases h1; cases h2; exact .leaf _ _ rfl
   | 1 => cases h1; cases h2; exact .leaf _ _ rfl
   | 2 => cases h1; cases h2; exact .leaf _ _ rfl
   | i + 3 => cases h2
  ·cases h1
 ·have h0 := hcell 0
  show g < W.heap.size
  rw [World.cell?] at h0
  split at h0
  ·rename_i h1; exact (Array.getElem?_eq_some_iff.1 h1).1
  ·cases zs with
   | nil => exact absurd rfl hz
   | cons z zs => simp [triCells] at h0
 ·rw [D.flat]
  exact tri_flat zs
 ·intro j x hx
  rw [Nat.zero_add, hcell j]
  simpa using hx
end Job
end Go.Am
