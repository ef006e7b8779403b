/- the flash: the example; which pages are blank -/
import Derived.Test.YtgfhkmpmdfdemaaFl5
namespace Go.Am
set_option linter.unusedSimpArgs false
set_option linter.unusedVariables false
attribute [local congr] bnd_congr kCond_congr kGd_congr kPick_congr kCall_congr kIdx_congr kSlice_congr kLoop_congr cond_congr' aBin_congr aBounds_congr aApp_congr aCopy_congr kFn_congr
namespace Job
open Go.Am.F
set_option maxRecDepth 10000
/-- the flash's functions, to be called or run -/
structure FlC (C : Ctx) : Prop where
  n9 : C.fn 9 = none
  n10 : C.fn 10 = none
  n12 : C.fn 12 = none
  n13 : C.fn 13 = none
  n14 : C.fn 14 = none
  n20 : C.fn 20 = none
  r9 : C.fnr 9 = some (afun CF 1 r_flash_New a_flash_New)
  r10 : C.fnr 10 = some (afun CF 3 r_flash_Flash_Turn a_flash_Flash_Turn)
  r12 : C.fnr 12 = some (afun CF 1 r_flash_Flash_Copy a_flash_Flash_Copy)
  r13 : C.fnr 13 = some (afun CF 2 r_flash_Flash_Erase a_flash_Flash_Erase)
  r14 : C.fnr 14 = some (afun CF 3 r_flash_Flash_Write a_flash_Flash_Write)
  r20 : C.fnr 20 = some (afun CF 4 r_flash_Flash_Tear a_flash_Flash_Tear)
  rd : C.fn 15 = some fRead
  bl : C.fn 11 = some fBlank
  sz : C.fn 16 = some fSize
  same : C.fn 18 = some fSame
  cut : C.fn 17 = some fCut
theorem wr_ok {x p : List (BitVec 8)} {a : Nat} (h : a + p.length ≤ x.length) (hc : clears (x.drop a) p) : wrE x (a : Int) p = 0 ∧ wrX x (a : Int) p = splice x a p := by
  have h0 : errW (some (x, false)) (a : Int) p.length = 0 := by
    simp only [errW]; rw [if_neg (by omega)]
  have hE : wrE x (a : Int) p = 0 := by rw [wrE, if_neg (by rw [h0]; simp), Int.toNat_natCast, if_pos hc]
  exact ⟨hE, by rw [wrX, if_pos hE]; rfl⟩
theorem wr_no {x p : List (BitVec 8)} {a : Nat} (h : a + p.length ≤ x.length) (hc : ¬ clears (x.drop a) p) : wrE x (a : Int) p = 14 ∧ wrX x (a : Int) p = x := by
  have h0 : errW (some (x, false)) (a : Int) p.length = 0 := by
    simp only [errW]; rw [if_neg (by omega)]
  have hE : wrE x (a : Int) p = 14 := by rw [wrE, if_neg (by rw [h0]; simp), Int.toNat_natCast, if_neg hc]
  exact ⟨hE, by rw [wrX, if_neg (by rw [hE]; decide)]⟩
def clearsB (a b : List (BitVec 8)) : Bool := (List.range b.length).all fun i => decide (b.getD i 0#8 &&& ~~~ a.getD i 0#8 = 0#8)
theorem clears_iff (a b : List (BitVec 8)) : clears a b ↔ clearsB a b = true := by
  simp only [clears, clr1, clearsB, List.all_eq_true, List.mem_range, decide_eq_true_eq]
def e512 : List (BitVec 8) := List.replicate 512 255#8
theorem aw1 : wrE e512 0 [240#8] = 0 ∧ wrX e512 0 [240#8] = splice e512 0 [240#8] := wr_ok (a := 0) (by decide +kernel) ((clears_iff _ _).2 (by decide +kernel))
theorem aw2 : wrE (splice e512 0 [240#8]) 0 [48#8] = 0 ∧ wrX (splice e512 0 [240#8]) 0 [48#8] = splice (splice e512 0 [240#8]) 0 [48#8] := wr_ok (a := 0) (by decide +kernel) ((clears_iff _ _).2 (by decide +kernel))
theorem aw3 : wrE (splice (splice e512 0 [240#8]) 0 [48#8]) 0 [255#8] = 14 ∧ wrX (splice (splice e512 0 [240#8]) 0 [48#8]) 0 [255#8] = splice (splice e512 0 [240#8]) 0 [48#8] := wr_no (a := 0) (by decide +kernel) (fun h => absurd ((clears_iff _ _).1 h) (by decide +kernel))
def awX : List (BitVec 8) := splice (splice e512 0 [240#8]) 0 [48#8]
theorem awX_len : awX.length = 512 := by decide +kernel
theorem aw4 : sub awX 0 2 = [48#8, 255#8] := by decide +kernel
theorem all255_iff (l : List (BitVec 8)) : all255 l ↔ (List.range l.length).all (fun i => decide (l.getD i 0#8 = 255#8)) = true := by
  simp only [all255, List.all_eq_true, List.mem_range, decide_eq_true_eq]
theorem blank_in {x : List (BitVec 8)} {e : Bool} {f p : Nat} (hf : f ≤ 1024) (hp : p ≤ 1024) (h : 256 * f + 256 * p ≤ x.length) : blankB (some (x, e)) f p = (open Classical in decide (all255 (sub x (256 * f) (256 * p)))) := by
  have h0 : errW (some (x, e)) (256 * (f : Int)) (256 * (p : Int)) = 0 := by
    simp only [errW]; rw [if_neg (by omega)]
  rw [blankB, if_neg (by rw [h0]; omega)]
  rfl
theorem aw5 (e : Bool) : blankB (some (awX, e)) 1 1 = true := by
  have := blank_in (x := awX) (e := e) (f := 1) (p := 1) (by omega) (by omega) (by rw [awX_len]; omega)
  rw [show ((1 : Nat) : Int) = 1 from rfl] at this
  rw [this]
  classical
  exact decide_eq_true ((all255_iff _).2 (by decide +kernel))
theorem aw6 (e : Bool) : blankB (some (awX, e)) 0 2 = false := by
  have := blank_in (x := awX) (e := e) (f := 0) (p := 2) (by omega) (by omega) (by rw [awX_len]; omega)
  rw [show ((0 : Nat) : Int) = 0 from rfl, show ((2 : Nat) : Int) = 2 from rfl] at this
  rw [this]
  classical
  exact decide_eq_false fun h => absurd ((all255_iff _).1 h) (by decide +kernel)
theorem FlAt.new {rows : Rows} {n : Nat} {z : List (BitVec 8)} (hz : z = List.replicate (256 * n) 255#8) : FlAt (rows ++ [some ⟨L8, [.raw (u8 255#8)]⟩, some ⟨L8, bs z⟩, some ⟨SF, [.agg SF [.sl L8 (rows.length + 1) [] 0 (256 * n) false]]⟩]) (rows.length + 2) (rows.length + 1) z := by
  refine ⟨⟨false, ?_⟩, ?_⟩
  · rw [lv_appk, hz, List.length_replicate]; rfl
  · rw [lv_appk]; rfl
/-- a flash's bytes are other ones, and nothing else is -/
structure Upd (rows rows' : Rows) (r m : Nat) (x : List (BitVec 8)) : Prop where
  fl : FlAt rows' r m x
  frame : ∀ q row, live rows q = some row → q ≠ m → live rows' q = some row
/-- a new one -/
structure Made (rows rows' : Rows) (r m : Nat) (x : List (BitVec 8)) : Prop where
  fl : FlAt rows' r m x
  frame : ∀ q row, live rows q = some row → live rows' q = some row
  hr : rows.length ≤ r
  hm : rows.length ≤ m
theorem FlAt.lt {rows : Rows} {r m : Nat} {x : List (BitVec 8)} (h : FlAt rows r m x) : r < rows.length ∧ m < rows.length := by
  obtain ⟨⟨ex, h1⟩, h2⟩ := h
  exact ⟨live_lt h1, live_lt h2⟩
theorem FlAt.keep {rows rows' : Rows} {r m r2 m2 : Nat} {x y : List (BitVec 8)} (h : FlAt rows r m x) (U : Upd rows rows' r2 m2 y) (h1 : r ≠ m2) (h2 : m ≠ m2) : FlAt rows' r m x := by
  obtain ⟨⟨ex, g1⟩, g2⟩ := h
  exact ⟨⟨ex, U.frame _ _ g1 h1⟩, U.frame _ _ g2 h2⟩
theorem FlAt.made {rows rows' : Rows} {r m r2 m2 : Nat} {x y : List (BitVec 8)} (h : FlAt rows r m x) (U : Made rows rows' r2 m2 y) : FlAt rows' r m x := by
  obtain ⟨⟨ex, g1⟩, g2⟩ := h
  exact ⟨⟨ex, U.frame _ _ g1⟩, U.frame _ _ g2⟩
theorem upd_set {rows more : Rows} {r m : Nat} {x y : List (BitVec 8)} (h : FlAt rows r m x) (hy : y.length = x.length) : Upd rows ((rows ++ more).set m (some ⟨L8, bs y⟩)) r m y :=
  ⟨(h.push more).upd hy, fun q row hq hn => live_set_o (live_push hq) hn.symm⟩
theorem upd_set0 {rows : Rows} {r m : Nat} {x y : List (BitVec 8)} (h : FlAt rows r m x) (hy : y.length = x.length) : Upd rows (rows.set m (some ⟨L8, bs y⟩)) r m y :=
  ⟨h.upd hy, fun q row hq hn => live_set_o hq hn.symm⟩
theorem writeA {rows : Rows} {r m q : Nat} {x p : List (BitVec 8)} {ex : Bool} (h : FlAt rows r m x) (hq : live rows q = some ⟨L8, bs p⟩) (hx : x.length ≤ 1048576) (hp : p.length ≤ 1048576) (a : Int) {K : D → Rows → Prop}
    (hk : ∀ rows', Upd rows rows' r m (wrX x a p) → K (.raw (it (wrE x a p))) rows') : afun CF 3 r_flash_Flash_Write a_flash_Flash_Write [.ptr SF r [0], .raw (it a), .sl L8 q [] 0 p.length ex] rows K :=
  write_run h hq hx hp a (hk _ (upd_set0 h (wrX_len x a p)))
theorem turnA {rows : Rows} {r m : Nat} {x : List (BitVec 8)} (h : FlAt rows r m x) (hx : x.length ≤ 1048576) (a : Int) (b : BitVec 8) {K : D → Rows → Prop}
    (hk : ∀ rows', Upd rows rows' r m (tuX x a b) → K (.raw (it (tuE x a))) rows') : afun CF 3 r_flash_Flash_Turn a_flash_Flash_Turn [.ptr SF r [0], .raw (it a), .raw (u8 b)] rows K :=
  turn_run h hx a b (hk _ (upd_set0 h (tuX_len x a b)))
theorem eraseA {rows : Rows} {r m : Nat} {x : List (BitVec 8)} (h : FlAt rows r m x) (hx : x.length ≤ 1048576) (i : Int) {K : D → Rows → Prop}
    (hk : ∀ rows', Upd rows rows' r m (erX x i) → K (.raw (it (erE x i))) rows') : afun CF 2 r_flash_Flash_Erase a_flash_Flash_Erase [.ptr SF r [0], .raw (it i)] rows K :=
  erase_run h hx i fun more => hk _ (upd_set h (erX_len x i))
theorem tearA {rows : Rows} {r m q1 q2 : Nat} {x w k : List (BitVec 8)} {ex1 ex2 : Bool} (h : FlAt rows r m x) (hx : x.length ≤ 1048576) (hq1 : live rows q1 = some ⟨L8, bs w⟩) (hq2 : live rows q2 = some ⟨L8, bs k⟩) (n1 : m ≠ q1) (n2 : m ≠ q2) (hw : w.length ≤ 1048576) (hkl : k.length ≤ 1048576) (i : Int) {K : D → Rows → Prop}
    (hk : ∀ rows', Upd rows rows' r m (teX x i w k) → K (.raw (it (erE x i))) rows') : afun CF 4 r_flash_Flash_Tear a_flash_Flash_Tear [.ptr SF r [0], .raw (it i), .sl L8 q1 [] 0 w.length ex1, .sl L8 q2 [] 0 k.length ex2] rows K :=
  tear_run h hx hq1 hq2 n1 n2 hw hkl i (hk _ (upd_set0 h (teX_len x i w k)))
theorem copyA {rows : Rows} {r m : Nat} {x : List (BitVec 8)} (h : FlAt rows r m x) (hx : x.length ≤ 1048576) {K : D → Rows → Prop}
    (hk : ∀ rows' r' m', Made rows rows' r' m' x → K (.ptr SF r' [0]) rows') : afun CF 1 r_flash_Flash_Copy a_flash_Flash_Copy [.ptr SF r [0]] rows K := by
  refine copy_run h hx (hk _ (rows.length + 1) rows.length ⟨⟨⟨false, ?_⟩, ?_⟩, fun q row hq => live_push hq, by omega, by omega⟩)
  · rw [lv_appk]; rfl
  · rw [lv_app0]; rfl
theorem newA {rows : Rows} (n : Nat) (hn : n ≤ 1024) {K : D → Rows → Prop}
    (hk : ∀ rows' r' m', Made rows rows' r' m' (List.replicate (256 * n) 255#8) → K (.tup [.ptr SF r' [0], .raw (it 0)]) rows') : afun CF 1 r_flash_New a_flash_New [.raw (it (n : Int))] rows K :=
  fnew_run n hn (hk _ (rows.length + 2) (rows.length + 1) ⟨FlAt.new rfl, fun q row hq => live_push hq, by omega, by omega⟩)
theorem kAwake (rows : Rows) (k : D → Rows → Prop) {F : Fn} (h : F [] [] = some (.raw (.bool true), [])) : kCall F rows k [] = k (.raw (.bool true)) rows := by
  refine (kCall_val rfl h).trans ?_
  simp [shift, shiftRows]
def fAwake : Fn
  | [], [] => some (.raw (.bool true), [])
  | _, _ => none
theorem bs1 (x : BitVec 8) : [D.raw (u8 x)] = bs [x] := rfl
theorem awake_ok (C : Ctx) (hC : CtxOK C P) (h : FlC C) : Meets C.glob P 8 (Fn.run fAwake) := by
  refine fn_meets (m_law12_awake C hC) fun ds rows r hh => ?_
  unfold fAwake at hh
  split at hh
  · cases hh
    refine ⟨rfl, afun_mk rfl ?_⟩
    unfold a_law12_awake r_law12_awake
    simp only [↓amD, amU, Nat.reduceBEq, Nat.reduceAdd, Nat.reduceSub, Nat.reduceMul, Nat.reduceMod, Nat.reducePow, Nat.reduceLT, Nat.reduceDiv, Int.reduceToNat, BitVec.reduceToNat, zipEnv, Int.reduceLE, Int.reduceLT, Int.reduceNeg, BitVec.reduceEq, Int.reduceAdd, Int.reduceSub, Int.reduceMul, Nat.reduceLeDiff, Int.reduceEq, h.n9, h.r9]
    refine newA (rows := []) 2 (by omega) fun R0 r m hM => ?_
    have hF : FlAt R0 r m e512 := hM.fl
    simp only [↓amD, amU, Nat.reduceBEq, Nat.reduceAdd, Nat.reduceSub, Nat.reduceMul, Nat.reduceMod, Nat.reducePow, Nat.reduceLT, Nat.reduceDiv, Int.reduceToNat, BitVec.reduceToNat, zipEnv, Int.reduceLE, Int.reduceLT, Int.reduceNeg, BitVec.reduceEq, Int.reduceAdd, Int.reduceSub, Int.reduceMul, Nat.reduceLeDiff, Int.reduceEq, h.n14, h.r14]
    refine writeA (p := [240#8]) (hF.push _) (by rw [lv_app0]; rfl) (by decide +kernel) (by decide) 0 fun R1 U1 => ?_
    have hF1 := U1.fl
    rw [aw1.1]
    rw [aw1.2] at hF1
    simp only [↓amD, amU, Nat.reduceBEq, Nat.reduceAdd, Nat.reduceSub, Nat.reduceMul, Nat.reduceMod, Nat.reducePow, Nat.reduceLT, Nat.reduceDiv, Int.reduceToNat, BitVec.reduceToNat, zipEnv, Int.reduceLE, Int.reduceLT, Int.reduceNeg, BitVec.reduceEq, Int.reduceAdd, Int.reduceSub, Int.reduceMul, Nat.reduceLeDiff, Int.reduceEq, h.n14, h.r14]
    refine writeA (p := [48#8]) (hF1.push _) (by rw [lv_app0]; rfl) (by decide +kernel) (by decide) 0 fun R2 U2 => ?_
    have hF2 := U2.fl
    rw [aw2.1]
    rw [aw2.2] at hF2
    simp only [↓amD, amU, Nat.reduceBEq, Nat.reduceAdd, Nat.reduceSub, Nat.reduceMul, Nat.reduceMod, Nat.reducePow, Nat.reduceLT, Nat.reduceDiv, Int.reduceToNat, BitVec.reduceToNat, zipEnv, Int.reduceLE, Int.reduceLT, Int.reduceNeg, BitVec.reduceEq, Int.reduceAdd, Int.reduceSub, Int.reduceMul, Nat.reduceLeDiff, Int.reduceEq, h.n14, h.r14]
    refine writeA (p := [255#8]) (hF2.push _) (by rw [lv_app0]; rfl) (by decide +kernel) (by decide) 0 fun R3 U3 => ?_
    have hF3 := U3.fl
    rw [aw3.1]
    rw [aw3.2] at hF3
    change FlAt R3 r m awX at hF3
    have k1 := fun k => kRead_ok hF3 (by decide +kernel) 0 2 (by decide +kernel) k
    rw [show ((0 : Nat) : Int) = 0 from rfl, show ((2 : Nat) : Int) = 2 from rfl, aw4] at k1
    have k2 : ∀ k, kCall fSame (R3 ++ [some ⟨L8, bs [48#8, 255#8]⟩, some ⟨L8, bs [48#8, 255#8]⟩]) k [.sl L8 R3.length [] 0 2 false, .sl L8 (R3.length + 1) [] 0 2 true] = k (.raw (.bool true)) (R3 ++ [some ⟨L8, bs [48#8, 255#8]⟩, some ⟨L8, bs [48#8, 255#8]⟩]) := fun k => by
      have := kSame (R3 ++ [some ⟨L8, bs [48#8, 255#8]⟩, some ⟨L8, bs [48#8, 255#8]⟩]) k (.sl L8 R3.length [] 0 2 false) (.sl L8 (R3.length + 1) [] 0 2 true) [48#8, 255#8] [48#8, 255#8] (BsIn.own (by rw [lv_app0]; rfl) _ rfl) (BsIn.own (by rw [lv_appk]; rfl) _ rfl) (by decide) (by decide)
      simpa using this
    obtain ⟨e, hin⟩ := (hF3.push [some ⟨L8, bs [48#8, 255#8]⟩, some ⟨L8, bs [48#8, 255#8]⟩]).to
    have k3 := fun k => kBlank hin (show awX.length ≤ 1048576 by rw [awX_len]; omega) 1 1 k
    have k4 := fun k => kBlank hin (show awX.length ≤ 1048576 by rw [awX_len]; omega) 0 2 k
    rw [aw5] at k3
    rw [aw6] at k4
    have hb2 : bs [48#8, 255#8] = [.raw (u8 48#8), .raw (u8 255#8)] := rfl
    simp only [hb2] at k1 k2 k3 k4
    simp only [↓amD, amU, Nat.reduceBEq, Nat.reduceAdd, Nat.reduceSub, Nat.reduceMul, Nat.reduceMod, Nat.reducePow, Nat.reduceLT, Nat.reduceDiv, Int.reduceToNat, BitVec.reduceToNat, zipEnv, Int.reduceLE, Int.reduceLT, Int.reduceNeg, BitVec.reduceEq, Int.reduceAdd, Int.reduceSub, Int.reduceMul, Nat.reduceLeDiff, Int.reduceEq, lv_app0, lv_appk, set_app0, set_appk, List.append_assoc, List.append_nil, Nat.add_assoc, h.rd, h.same, h.bl, k1, k2, k3, k4]
    exact .val _ rfl
  · cases hh
end Job
end Go.Am
