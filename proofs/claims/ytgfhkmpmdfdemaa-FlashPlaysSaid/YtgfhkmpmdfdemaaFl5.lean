/- the flash: what is done to it -/
import Derived.Test.YtgfhkmpmdfdemaaFl4
namespace Go.Am
set_option linter.unusedSimpArgs false
set_option linter.unusedVariables false
attribute [local congr] bnd_congr kCond_congr kGd_congr kPick_congr kCall_congr kIdx_congr kSlice_congr kLoop_congr cond_congr' aBin_congr aBounds_congr aApp_congr aCopy_congr kFn_congr
namespace Job
open Go.Am.F
set_option maxRecDepth 10000
def G0 : Nat → Option D := fun _ => none
noncomputable def CF : Ctx := ⟨G0, fnTab [(28, fPageE), (26, fWithin), (29, fClears), (27, fClone), (25, fRepeat), (31, fMul64), (37, fMul64)], fun _ => none⟩
theorem ctxF : CtxOK CF P :=
  have c0 := ctx_nil (G := G0) (P := P)
  have c1 := ctx_cons (mul64_ok _ c0) c0
  have c2 := ctx_cons (bmul_ok _ c1 rfl) c1
  have c3 := ctx_cons (repeat_ok _ c2 rfl) c2
  have c4 := ctx_cons (clone_ok _ c3) c3
  have c5 := ctx_cons (clears_ok _ c4) c4
  have c6 := ctx_cons (within_ok _ c5) c5
  ctx_cons (page_ok _ c6) c6
theorem f_page : CF.fn 28 = some fPageE := rfl
theorem f_within : CF.fn 26 = some fWithin := rfl
theorem f_clears : CF.fn 29 = some fClears := rfl
theorem f_clone : CF.fn 27 = some fClone := rfl
theorem f_repeat : CF.fn 25 = some fRepeat := rfl
theorem set_self {rows : Rows} {m : Nat} {row : Row} (h : live rows m = some row) : rows.set m (some row) = rows := by
  refine List.ext_getElem? fun i => ?_
  rw [List.getElem?_set]
  split
  · rename_i e
    subst e
    have hl := live_lt h
    unfold live at h
    rw [if_pos hl]
    split at h
    · rename_i r hr
      cases h
      exact hr.symm
    · cases h
  · rfl
theorem FlAt.ne {rows : Rows} {r m : Nat} {x : List (BitVec 8)} (h : FlAt rows r m x) : r ≠ m := by
  obtain ⟨⟨ex, h1⟩, h2⟩ := h
  intro e
  subst e
  rw [h1] at h2
  injection h2 with h2
  injection h2 with h2 _
  cases h2
theorem FlAt.upd {rows : Rows} {r m : Nat} {x y : List (BitVec 8)} (h : FlAt rows r m x) (hy : y.length = x.length) : FlAt (rows.set m (some ⟨L8, bs y⟩)) r m y := by
  have hne := h.ne
  obtain ⟨⟨ex, h1⟩, h2⟩ := h
  exact ⟨⟨ex, by rw [hy]; exact live_set_o h1 hne.symm⟩, live_set_eq h2⟩
theorem FlAt.flIn {rows : Rows} {r m : Nat} {x : List (BitVec 8)} (h : FlAt rows r m x) (e2 : Bool) : ∃ e, FlIn rows (.ptr SF r [0]) (some (x, e)) := h.to
/-- writing: the error, the bytes then -/
noncomputable def wrE (x : List (BitVec 8)) (a : Int) (p : List (BitVec 8)) : Int := open Classical in
  if errW (some (x, false)) a p.length ≠ 0 then errW (some (x, false)) a p.length else if clears (x.drop a.toNat) p then 0 else 14
noncomputable def wrX (x : List (BitVec 8)) (a : Int) (p : List (BitVec 8)) : List (BitVec 8) := open Classical in if wrE x a p = 0 then splice x a.toNat p else x
theorem wrE_ok {x : List (BitVec 8)} {a : Int} {p : List (BitVec 8)} (h : wrE x a p = 0) : 0 ≤ a ∧ a.toNat + p.length ≤ x.length ∧ clears (x.drop a.toNat) p := by
  unfold wrE at h
  split at h
  · rename_i h2; exact absurd h h2
  · rename_i h2
    have h3 := errW_0 (Decidable.of_not_not h2)
    split at h
    · rename_i h4
      exact ⟨h3.1, by omega, h4⟩
    · cases h
theorem wrX_len (x : List (BitVec 8)) (a : Int) (p : List (BitVec 8)) : (wrX x a p).length = x.length := by
  unfold wrX
  split
  · rename_i h
    have := wrE_ok h
    exact splice_len _ _ _ this.2.1
  · rfl
theorem write_run {rows : Rows} {r m q : Nat} {x p : List (BitVec 8)} {ex : Bool} (h : FlAt rows r m x) (hq : live rows q = some ⟨L8, bs p⟩) (hx : x.length ≤ 1048576) (hp : p.length ≤ 1048576) (a : Int) {K : D → Rows → Prop}
    (hk : K (.raw (it (wrE x a p))) (rows.set m (some ⟨L8, bs (wrX x a p)⟩))) : afun CF 3 r_flash_Flash_Write a_flash_Flash_Write [.ptr SF r [0], .raw (it a), .sl L8 q [] 0 p.length ex] rows K := by
  obtain ⟨e, hin⟩ := h.to
  have kw := fun k => kWithin hin hx a p.length k
  have hee : errW (some (x, e)) a p.length = errW (some (x, false)) a p.length := rfl
  obtain ⟨⟨e2, h1⟩, h2⟩ := h
  simp only [q_afun]
  unfold a_flash_Flash_Write r_flash_Flash_Write
  rw [hee] at kw
  by_cases h0 : errW (some (x, false)) a p.length = 0
  · obtain ⟨b1, b2, b3, b4⟩ := errW_0 h0
    obtain ⟨a, rfl⟩ := Int.eq_ofNat_of_zero_le b1
    rw [h0] at kw
    have f1 : ((0 : Int) ≤ (a : Int)) = True := eq_true (by omega)
    have f2 : ((a : Int) ≤ (x.length : Int)) = True := eq_true (by omega)
    have hdl : ((x.drop a).take (x.length - a)) = x.drop a := List.take_of_length_le (by rw [List.length_drop]; omega)
    have kc : ∀ e3 k, kCall fClears rows k [.sl L8 m [] a (x.length - a) e3, .sl L8 q [] 0 p.length ex] = k (.raw (.bool (open Classical in decide (clears (x.drop a) p)))) rows := fun e3 k => by
      have hbi := BsIn.sub (rows := rows) (r := m) (off := a) (len := x.length - a) (ex := e3) h2 (by omega : a + (x.length - a) ≤ x.length)
      rw [hdl] at hbi
      exact kClears hbi (BsIn.own hq _ rfl) (by rw [List.length_drop]; omega) (by rw [List.length_drop]; omega) k
    by_cases c : clears (x.drop a) p
    · have hE : wrE x (a : Int) p = 0 := by rw [wrE, if_neg (by rw [h0]; simp), Int.toNat_natCast, if_pos c]
      have hX : wrX x (a : Int) p = splice x a p := by rw [wrX, if_pos hE]; rfl
      rw [hE, hX] at hk
      have hdc : (open Classical in decide (clears (x.drop a) p)) = true := by classical exact decide_eq_true c
      rw [hdc] at kc
      simp only [↓amD, amU, Nat.reduceBEq, Nat.reduceAdd, Nat.reduceSub, Nat.reduceMul, Nat.reduceMod, Nat.reducePow, Nat.reduceLT, Nat.reduceDiv, Int.reduceToNat, BitVec.reduceToNat, zipEnv, Int.reduceLE, Int.reduceLT, Int.reduceNeg, BitVec.reduceEq, Int.reduceAdd, Int.reduceSub, Int.reduceMul, Nat.reduceLeDiff, Int.reduceEq, f_within, f_clears, kw, kc, h1, hq, bs_len, bs_take_len, f1, f2]
      refine Eq.mpr (copy_own (l := x) h2 (by omega)) ?_
      rw [show min p.length (x.length - a) = p.length by omega, List.take_length]
      simp only [↓amD, amU, Nat.reduceBEq, Nat.reduceAdd, Nat.reduceSub, Nat.reduceMul, Nat.reduceMod, Nat.reducePow, Nat.reduceLT, Nat.reduceDiv, Int.reduceToNat, BitVec.reduceToNat, zipEnv, Int.reduceLE, Int.reduceLT, Int.reduceNeg, BitVec.reduceEq, Int.reduceAdd, Int.reduceSub, Int.reduceMul, Nat.reduceLeDiff, Int.reduceEq]
      exact hk
    · have hE : wrE x (a : Int) p = 14 := by rw [wrE, if_neg (by rw [h0]; simp), Int.toNat_natCast, if_neg c]
      have hX : wrX x (a : Int) p = x := by rw [wrX, if_neg (by rw [hE]; decide)]
      rw [hE, hX, set_self h2] at hk
      have hdc : (open Classical in decide (clears (x.drop a) p)) = false := by classical exact decide_eq_false c
      rw [hdc] at kc
      simp only [↓amD, amU, Nat.reduceBEq, Nat.reduceAdd, Nat.reduceSub, Nat.reduceMul, Nat.reduceMod, Nat.reducePow, Nat.reduceLT, Nat.reduceDiv, Int.reduceToNat, BitVec.reduceToNat, zipEnv, Int.reduceLE, Int.reduceLT, Int.reduceNeg, BitVec.reduceEq, Int.reduceAdd, Int.reduceSub, Int.reduceMul, Nat.reduceLeDiff, Int.reduceEq, f_within, f_clears, kw, kc, h1, hq, bs_len, bs_take_len, f1, f2]
      exact hk
  · have hE : wrE x a p = errW (some (x, false)) a p.length := by rw [wrE, if_pos h0]
    have hX : wrX x a p = x := by rw [wrX, if_neg (by rw [hE]; exact h0)]
    rw [hE, hX, set_self h2] at hk
    have h0' : (errW (some (x, false)) a p.length = 0) = False := eq_false h0
    simp only [↓amD, amU, Nat.reduceBEq, Nat.reduceAdd, Nat.reduceSub, Nat.reduceMul, Nat.reduceMod, Nat.reducePow, Nat.reduceLT, Nat.reduceDiv, Int.reduceToNat, BitVec.reduceToNat, zipEnv, Int.reduceLE, Int.reduceLT, Int.reduceNeg, BitVec.reduceEq, Int.reduceAdd, Int.reduceSub, Int.reduceMul, Nat.reduceLeDiff, Int.reduceEq, f_within, kw, h0', decide_false]
    exact hk
/-- a byte is turned -/
def tuE (x : List (BitVec 8)) (a : Int) : Int := errW (some (x, false)) a 1
def tuX (x : List (BitVec 8)) (a : Int) (b : BitVec 8) : List (BitVec 8) := if tuE x a = 0 then x.set a.toNat (x.getD a.toNat 0#8 ^^^ b) else x
theorem tuX_len (x : List (BitVec 8)) (a : Int) (b : BitVec 8) : (tuX x a b).length = x.length := by
  unfold tuX; split <;> simp
theorem turn_run {rows : Rows} {r m : Nat} {x : List (BitVec 8)} (h : FlAt rows r m x) (hx : x.length ≤ 1048576) (a : Int) (b : BitVec 8) {K : D → Rows → Prop}
    (hk : K (.raw (it (tuE x a))) (rows.set m (some ⟨L8, bs (tuX x a b)⟩))) : afun CF 3 r_flash_Flash_Turn a_flash_Flash_Turn [.ptr SF r [0], .raw (it a), .raw (u8 b)] rows K := by
  obtain ⟨e, hin⟩ := h.to
  have kw := fun k => kWithin hin hx a 1 k
  have hee : errW (some (x, e)) a 1 = tuE x a := rfl
  obtain ⟨⟨e2, h1⟩, h2⟩ := h
  simp only [q_afun]
  unfold a_flash_Flash_Turn r_flash_Flash_Turn
  rw [hee] at kw
  by_cases h0 : tuE x a = 0
  · obtain ⟨b1, b2, b3, b4⟩ := errW_0 (e := false) h0
    obtain ⟨a, rfl⟩ := Int.eq_ofNat_of_zero_le b1
    have hX : tuX x (a : Int) b = x.set a (x.getD a 0#8 ^^^ b) := by rw [tuX, if_pos h0]; rfl
    rw [hX, h0] at hk
    rw [h0] at kw
    have f1 : ((0 : Int) ≤ (a : Int)) = True := eq_true (by omega)
    have f2 : ((a : Int) < (x.length : Int)) = True := eq_true (by omega)
    have g : (bs x)[a]? = some (.raw (u8 (x.getD a 0#8))) := bs_get (by omega)
    simp only [↓amD, amU, Nat.reduceBEq, Nat.reduceAdd, Nat.reduceSub, Nat.reduceMul, Nat.reduceMod, Nat.reducePow, Nat.reduceLT, Nat.reduceDiv, Int.reduceToNat, BitVec.reduceToNat, zipEnv, Int.reduceLE, Int.reduceLT, Int.reduceNeg, BitVec.reduceEq, Int.reduceAdd, Int.reduceSub, Int.reduceMul, Nat.reduceLeDiff, Int.reduceEq, f_within, kw, h1, h2, f1, f2, g, bs_set]
    exact hk
  · have hX : tuX x a b = x := by rw [tuX, if_neg h0]
    rw [hX, set_self h2] at hk
    have h0' : (tuE x a = 0) = False := eq_false h0
    simp only [↓amD, amU, Nat.reduceBEq, Nat.reduceAdd, Nat.reduceSub, Nat.reduceMul, Nat.reduceMod, Nat.reducePow, Nat.reduceLT, Nat.reduceDiv, Int.reduceToNat, BitVec.reduceToNat, zipEnv, Int.reduceLE, Int.reduceLT, Int.reduceNeg, BitVec.reduceEq, Int.reduceAdd, Int.reduceSub, Int.reduceMul, Nat.reduceLeDiff, Int.reduceEq, f_within, kw, h0', decide_false]
    exact hk
/-- a page is erased -/
def erE (x : List (BitVec 8)) (i : Int) : Int := errP (some (x, false)) i
def erX (x : List (BitVec 8)) (i : Int) : List (BitVec 8) := if erE x i = 0 then splice x (256 * i.toNat) (List.replicate 256 255#8) else x
theorem erX_len (x : List (BitVec 8)) (i : Int) : (erX x i).length = x.length := by
  unfold erX
  split
  · rename_i h
    have := errP_0 (e := false) h
    rw [splice_len _ _ _ (by simp; omega)]
  · rfl
theorem erase_run {rows : Rows} {r m : Nat} {x : List (BitVec 8)} (h : FlAt rows r m x) (hx : x.length ≤ 1048576) (i : Int) {K : D → Rows → Prop}
    (hk : ∀ more, K (.raw (it (erE x i))) ((rows ++ more).set m (some ⟨L8, bs (erX x i)⟩))) : afun CF 2 r_flash_Flash_Erase a_flash_Flash_Erase [.ptr SF r [0], .raw (it i)] rows K := by
  obtain ⟨e, hin⟩ := h.to
  have kw := fun k => kPageE hin hx i k
  have hee : errP (some (x, e)) i = erE x i := rfl
  obtain ⟨⟨e2, h1⟩, h2⟩ := h
  simp only [q_afun]
  unfold a_flash_Flash_Erase r_flash_Flash_Erase
  rw [hee] at kw
  by_cases h0 : erE x i = 0
  · obtain ⟨b1, b2⟩ := errP_0 (e := false) h0
    obtain ⟨i, rfl⟩ := Int.eq_ofNat_of_zero_le b1
    have hX : erX x (i : Int) = splice x (256 * i) (List.replicate 256 255#8) := by rw [erX, if_pos h0]; rfl
    rw [hX, h0] at hk
    rw [h0] at kw
    have w1 : wz (256 * (i : Int)) = ((256 * i : Nat) : Int) := by rw [wz_id (by omega)]; omega
    have f1 : ((0 : Int) ≤ ((256 * i : Nat) : Int)) = True := eq_true (by omega)
    have f2 : (((256 * i : Nat) : Int) ≤ (x.length : Int)) = True := eq_true (by omega)
    obtain ⟨z, hz⟩ : ∃ z, z = List.replicate 256 255#8 := ⟨_, rfl⟩
    have hzl : z.length = 256 := by rw [hz, List.length_replicate]
    have kr : ∀ k, kCall fRepeat (rows ++ [some ⟨L8, [.raw (u8 255#8)]⟩]) k [.sl L8 rows.length [] 0 1 true, .raw (it 256)] = k (.sl L8 (rows.length + 1) [] 0 256 false) (rows ++ [some ⟨L8, [.raw (u8 255#8)]⟩, some ⟨L8, bs z⟩]) := fun k => by
      rw [hz]
      have := kRepeat (rows := rows ++ [some ⟨L8, [.raw (u8 255#8)]⟩]) (d := .sl L8 rows.length [] 0 1 true) (b := 255#8) (BsIn.own (l := [255#8]) (by rw [lv_app0]; rfl) _ rfl) 256 (by omega) k
      simp only [List.length_append, List.length_cons, List.length_nil, Nat.zero_add, List.append_assoc, List.cons_append, List.nil_append] at this
      exact this
    rw [← hz] at hk
    have ht : (bs z).take 256 = bs z := by rw [← hzl, bs_take_len]
    simp only [↓amD, amU, Nat.reduceBEq, Nat.reduceAdd, Nat.reduceSub, Nat.reduceMul, Nat.reduceMod, Nat.reducePow, Nat.reduceLT, Nat.reduceDiv, Int.reduceToNat, BitVec.reduceToNat, zipEnv, Int.reduceLE, Int.reduceLT, Int.reduceNeg, BitVec.reduceEq, Int.reduceAdd, Int.reduceSub, Int.reduceMul, Nat.reduceLeDiff, Int.reduceEq, lv_app0, lv_appk, set_app0, set_appk, List.append_assoc, List.append_nil, Nat.add_assoc, f_page, f_repeat, kw, kr, h1, w1, f1, f2, bs_len, ht, hzl]
    refine Eq.mpr (copy_own (l := x) (live_push h2) (by omega)) ?_
    rw [show min z.length (x.length - 256 * i) = z.length by omega, List.take_length]
    simp only [↓amD, amU, Nat.reduceBEq, Nat.reduceAdd, Nat.reduceSub, Nat.reduceMul, Nat.reduceMod, Nat.reducePow, Nat.reduceLT, Nat.reduceDiv, Int.reduceToNat, BitVec.reduceToNat, zipEnv, Int.reduceLE, Int.reduceLT, Int.reduceNeg, BitVec.reduceEq, Int.reduceAdd, Int.reduceSub, Int.reduceMul, Nat.reduceLeDiff, Int.reduceEq]
    exact hk _
  · have hX : erX x i = x := by rw [erX, if_neg h0]
    have hk := hk []
    rw [List.append_nil, hX, set_self h2] at hk
    have h0' : (erE x i = 0) = False := eq_false h0
    simp only [↓amD, amU, Nat.reduceBEq, Nat.reduceAdd, Nat.reduceSub, Nat.reduceMul, Nat.reduceMod, Nat.reducePow, Nat.reduceLT, Nat.reduceDiv, Int.reduceToNat, BitVec.reduceToNat, zipEnv, Int.reduceLE, Int.reduceLT, Int.reduceNeg, BitVec.reduceEq, Int.reduceAdd, Int.reduceSub, Int.reduceMul, Nat.reduceLeDiff, Int.reduceEq, f_page, kw, h0', decide_false]
    exact hk
/-- a page is torn -/
def teV (b w k : BitVec 8) : BitVec 8 := b &&& ~~~ k ||| w &&& k
def teN (x : List (BitVec 8)) (i : Nat) (w k : List (BitVec 8)) : Nat → List (BitVec 8)
  | 0 => x
  | j + 1 => (teN x i w k j).set (256 * i + j) (teV ((teN x i w k j).getD (256 * i + j) 0#8) (w.getD j 0#8) (k.getD j 0#8))
theorem teN_len (x : List (BitVec 8)) (i : Nat) (w k : List (BitVec 8)) : ∀ j, (teN x i w k j).length = x.length
  | 0 => rfl
  | j + 1 => by rw [teN, List.length_set]; exact teN_len x i w k j
def teM (w k : List (BitVec 8)) : Nat := min (min w.length k.length) 256
def teX (x : List (BitVec 8)) (i : Int) (w k : List (BitVec 8)) : List (BitVec 8) := if erE x i = 0 then teN x i.toNat w k (teM w k) else x
theorem teX_len (x : List (BitVec 8)) (i : Int) (w k : List (BitVec 8)) : (teX x i w k).length = x.length := by
  unfold teX; split
  · exact teN_len _ _ _ _ _
  · rfl
theorem tear_run {rows : Rows} {r m q1 q2 : Nat} {x w k : List (BitVec 8)} {ex1 ex2 : Bool} (h : FlAt rows r m x) (hx : x.length ≤ 1048576) (hq1 : live rows q1 = some ⟨L8, bs w⟩) (hq2 : live rows q2 = some ⟨L8, bs k⟩) (n1 : m ≠ q1) (n2 : m ≠ q2) (hw : w.length ≤ 1048576) (hkl : k.length ≤ 1048576) (i : Int) {K : D → Rows → Prop}
    (hk : K (.raw (it (erE x i))) (rows.set m (some ⟨L8, bs (teX x i w k)⟩))) : afun CF 4 r_flash_Flash_Tear a_flash_Flash_Tear [.ptr SF r [0], .raw (it i), .sl L8 q1 [] 0 w.length ex1, .sl L8 q2 [] 0 k.length ex2] rows K := by
  obtain ⟨e, hin⟩ := h.to
  have kw := fun k => kPageE hin hx i k
  have hee : errP (some (x, e)) i = erE x i := rfl
  have hrm := h.ne
  obtain ⟨⟨e2, h1⟩, h2⟩ := h
  simp only [q_afun]
  unfold a_flash_Flash_Tear r_flash_Flash_Tear
  rw [hee] at kw
  by_cases h0 : erE x i = 0
  · obtain ⟨b1, b2⟩ := errP_0 (e := false) h0
    obtain ⟨i, rfl⟩ := Int.eq_ofNat_of_zero_le b1
    have hX : teX x (i : Int) w k = teN x i w k (teM w k) := by rw [teX, if_pos h0]; rfl
    rw [hX, h0] at hk
    rw [h0] at kw
    have w1 : wz (256 * (i : Int)) = ((256 * i : Nat) : Int) := by rw [wz_id (by omega)]; omega
    have f0 : min (min (w.length : Int) (k.length : Int)) 256 = ((teM w k : Nat) : Int) := by unfold teM; omega
    have hM : teM w k ≤ w.length ∧ teM w k ≤ k.length ∧ teM w k ≤ 256 := by unfold teM; omega
    simp only [↓amD, amU, Nat.reduceBEq, Nat.reduceAdd, Nat.reduceSub, Nat.reduceMul, Nat.reduceMod, Nat.reducePow, Nat.reduceLT, Nat.reduceDiv, Int.reduceToNat, BitVec.reduceToNat, zipEnv, Int.reduceLE, Int.reduceLT, Int.reduceNeg, BitVec.reduceEq, Int.reduceAdd, Int.reduceSub, Int.reduceMul, Nat.reduceLeDiff, Int.reduceEq, f_page, kw, f0]
    refine kLoop_up (teM w k) (fun j env rs => has env [(23, .raw (it (j : Int))), (22, .raw (it ((teM w k : Nat) : Int))), (0, .ptr SF r [0]), (1, .raw (it (i : Int))), (2, .sl L8 q1 [] 0 w.length ex1), (3, .sl L8 q2 [] 0 k.length ex2)] ∧ rs = rows.set m (some ⟨L8, bs (teN x i w k j)⟩)) ?_ ?_ ⟨?_, (set_self h2).symm⟩
    · rintro j hj env rs ⟨hh, rfl⟩ R hR
      simp only [has] at hh
      obtain ⟨h23, h22, g0, g1, g2, g3, -⟩ := hh
      have e0 : ((j : Int) < ((teM w k : Nat) : Int)) = True := eq_true (by omega)
      have e1 := wz_succ j (by omega)
      have b0 : ∀ n : Nat, ((0 : Int) ≤ (n : Int)) = True := fun n => eq_true (by omega)
      have w2 : wz (((256 * i : Nat) : Int) + (j : Int)) = ((256 * i + j : Nat) : Int) := by rw [wz_id (by omega)]; omega
      have l1 := live_set_o (y := ⟨L8, bs (teN x i w k j)⟩) h1 hrm.symm
      have l2 := live_set_eq (y := ⟨L8, bs (teN x i w k j)⟩) h2
      have l3 := live_set_o (y := ⟨L8, bs (teN x i w k j)⟩) hq1 n1
      have l4 := live_set_o (y := ⟨L8, bs (teN x i w k j)⟩) hq2 n2
      have hl := teN_len x i w k j
      have c1 : (((256 * i + j : Nat) : Int) < (x.length : Int)) = True := eq_true (by omega)
      have c2 : ((j : Int) < (w.length : Int)) = True := eq_true (by omega)
      have c3 : ((j : Int) < (k.length : Int)) = True := eq_true (by omega)
      have t1 : (bs (teN x i w k j))[256 * i + j]? = some (.raw (u8 ((teN x i w k j).getD (256 * i + j) 0#8))) := bs_get (by omega)
      have t2 : (bs w)[j]? = some (.raw (u8 (w.getD j 0#8))) := bs_get (by omega)
      have t3 : (bs k)[j]? = some (.raw (u8 (k.getD j 0#8))) := bs_get (by omega)
      have hv : (teN x i w k j).set (256 * i + j) ((teN x i w k j).getD (256 * i + j) 0#8 &&& ~~~ k.getD j 0#8 ||| w.getD j 0#8 &&& k.getD j 0#8) = teN x i w k (j + 1) := rfl
      have hss : ∀ a b : Option Row, (rows.set m a).set m b = rows.set m b := fun a b => List.set_set ..
      simp only [↓amD, amU, Nat.reduceBEq, Nat.reduceAdd, Nat.reduceSub, Nat.reduceMul, Nat.reduceMod, Nat.reducePow, Nat.reduceLT, Nat.reduceDiv, Int.reduceToNat, BitVec.reduceToNat, zipEnv, Int.reduceLE, Int.reduceLT, Int.reduceNeg, BitVec.reduceEq, Int.reduceAdd, Int.reduceSub, Int.reduceMul, Nat.reduceLeDiff, Int.reduceEq, h23, h22, g0, g1, g2, g3, e0, e1, b0, w1, w2, l1, l2, l3, l4, c1, c2, c3, t1, t2, t3, bs_set, hv, hss, decide_true]
      exact hR _ _ ⟨by simp only [has, ↓amD, amU, Nat.reduceBEq, Nat.reduceAdd, Nat.reduceSub, Nat.reduceMul, Nat.reduceMod, Nat.reducePow, Nat.reduceLT, Nat.reduceDiv, Int.reduceToNat, BitVec.reduceToNat, zipEnv, Int.reduceLE, Int.reduceLT, Int.reduceNeg, BitVec.reduceEq, Int.reduceAdd, Int.reduceSub, Int.reduceMul, Nat.reduceLeDiff, Int.reduceEq, h22, g0, g1, g2, g3], rfl⟩
    · rintro env rs ⟨hh, rfl⟩ R
      simp only [has] at hh
      obtain ⟨h23, h22, g0, g1, g2, g3, -⟩ := hh
      have e0 : (((teM w k : Nat) : Int) < ((teM w k : Nat) : Int)) = False := eq_false (by omega)
      simp only [↓amD, amU, Nat.reduceBEq, Nat.reduceAdd, Nat.reduceSub, Nat.reduceMul, Nat.reduceMod, Nat.reducePow, Nat.reduceLT, Nat.reduceDiv, Int.reduceToNat, BitVec.reduceToNat, zipEnv, Int.reduceLE, Int.reduceLT, Int.reduceNeg, BitVec.reduceEq, Int.reduceAdd, Int.reduceSub, Int.reduceMul, Nat.reduceLeDiff, Int.reduceEq, h23, h22, g0, g1, g2, g3, e0, decide_false]
      exact hk
    · simp only [has, ↓amD, amU, Nat.reduceBEq, Nat.reduceAdd, Nat.reduceSub, Nat.reduceMul, Nat.reduceMod, Nat.reducePow, Nat.reduceLT, Nat.reduceDiv, Int.reduceToNat, BitVec.reduceToNat, zipEnv, Int.reduceLE, Int.reduceLT, Int.reduceNeg, BitVec.reduceEq, Int.reduceAdd, Int.reduceSub, Int.reduceMul, Nat.reduceLeDiff, Int.reduceEq]
  · have hX : teX x i w k = x := by rw [teX, if_neg h0]
    rw [hX, set_self h2] at hk
    have h0' : (erE x i = 0) = False := eq_false h0
    simp only [↓amD, amU, Nat.reduceBEq, Nat.reduceAdd, Nat.reduceSub, Nat.reduceMul, Nat.reduceMod, Nat.reducePow, Nat.reduceLT, Nat.reduceDiv, Int.reduceToNat, BitVec.reduceToNat, zipEnv, Int.reduceLE, Int.reduceLT, Int.reduceNeg, BitVec.reduceEq, Int.reduceAdd, Int.reduceSub, Int.reduceMul, Nat.reduceLeDiff, Int.reduceEq, f_page, kw, h0', decide_false]
    exact hk
/-- another one -/
theorem copy_run {rows : Rows} {r m : Nat} {x : List (BitVec 8)} (h : FlAt rows r m x) (hx : x.length ≤ 1048576) {K : D → Rows → Prop}
    (hk : K (.ptr SF (rows.length + 1) [0]) (rows ++ [some ⟨L8, bs x⟩, some ⟨SF, [.agg SF [.sl L8 rows.length [] 0 x.length false]]⟩])) : afun CF 1 r_flash_Flash_Copy a_flash_Flash_Copy [.ptr SF r [0]] rows K := by
  obtain ⟨⟨e2, h1⟩, h2⟩ := h
  have kc := fun k e => kClone rows k (.sl L8 m [] 0 x.length e) x (BsIn.own h2 _ rfl) (by omega)
  simp only [q_afun]
  unfold a_flash_Flash_Copy r_flash_Flash_Copy
  simp only [↓amD, amU, Nat.reduceBEq, Nat.reduceAdd, Nat.reduceSub, Nat.reduceMul, Nat.reduceMod, Nat.reducePow, Nat.reduceLT, Nat.reduceDiv, Int.reduceToNat, BitVec.reduceToNat, zipEnv, Int.reduceLE, Int.reduceLT, Int.reduceNeg, BitVec.reduceEq, Int.reduceAdd, Int.reduceSub, Int.reduceMul, Nat.reduceLeDiff, Int.reduceEq, lv_app0, lv_appk, set_app0, set_appk, List.append_assoc, List.append_nil, Nat.add_assoc, f_clone, h1, kc]
  exact hk
/-- a new one -/
theorem fnew_run {rows : Rows} (n : Nat) (hn : n ≤ 1024) {K : D → Rows → Prop}
    (hk : K (.tup [.ptr SF (rows.length + 2) [0], .raw (it 0)]) (rows ++ [some ⟨L8, [.raw (u8 255#8)]⟩, some ⟨L8, bs (List.replicate (256 * n) 255#8)⟩, some ⟨SF, [.agg SF [.sl L8 (rows.length + 1) [] 0 (256 * n) false]]⟩])) : afun CF 1 r_flash_New a_flash_New [.raw (it (n : Int))] rows K := by
  have e1 : ((n : Int) < 0) = False := eq_false (by omega)
  have e2 : ((1024 : Int) < (n : Int)) = False := eq_false (by omega)
  have w1 : wz (256 * (n : Int)) = ((256 * n : Nat) : Int) := by rw [wz_id (by omega)]; omega
  obtain ⟨z, hz⟩ : ∃ z, z = List.replicate (256 * n) 255#8 := ⟨_, rfl⟩
  have kr : ∀ k, kCall fRepeat (rows ++ [some ⟨L8, [.raw (u8 255#8)]⟩]) k [.sl L8 rows.length [] 0 1 true, .raw (it ((256 * n : Nat) : Int))] = k (.sl L8 (rows.length + 1) [] 0 (256 * n) false) (rows ++ [some ⟨L8, [.raw (u8 255#8)]⟩, some ⟨L8, bs z⟩]) := fun k => by
    rw [hz]
    have := kRepeat (rows := rows ++ [some ⟨L8, [.raw (u8 255#8)]⟩]) (d := .sl L8 rows.length [] 0 1 true) (b := 255#8) (BsIn.own (l := [255#8]) (by rw [lv_app0]; rfl) _ rfl) (256 * n) (by omega) k
    simp only [List.length_append, List.length_cons, List.length_nil, Nat.zero_add, List.append_assoc, List.cons_append, List.nil_append] at this
    exact this
  rw [← hz] at hk
  simp only [q_afun]
  unfold a_flash_New r_flash_New
  simp only [↓amD, amU, Nat.reduceBEq, Nat.reduceAdd, Nat.reduceSub, Nat.reduceMul, Nat.reduceMod, Nat.reducePow, Nat.reduceLT, Nat.reduceDiv, Int.reduceToNat, BitVec.reduceToNat, zipEnv, Int.reduceLE, Int.reduceLT, Int.reduceNeg, BitVec.reduceEq, Int.reduceAdd, Int.reduceSub, Int.reduceMul, Nat.reduceLeDiff, Int.reduceEq, lv_app0, lv_appk, set_app0, set_appk, List.append_assoc, List.append_nil, Nat.add_assoc, f_repeat, e1, e2, w1, kr, decide_false]
  exact hk
theorem fnew_bad {rows : Rows} (n : Int) (hn : n < 0 ∨ 1024 < n) {K : D → Rows → Prop} (hk : K (.tup [.raw (.pointer none), .raw (it 1)]) rows) : afun CF 1 r_flash_New a_flash_New [.raw (it n)] rows K := by
  simp only [q_afun]
  unfold a_flash_New r_flash_New
  by_cases h : n < 0
  · simp only [↓amD, amU, Nat.reduceBEq, Nat.reduceAdd, Nat.reduceSub, Nat.reduceMul, Nat.reduceMod, Nat.reducePow, Nat.reduceLT, Nat.reduceDiv, Int.reduceToNat, BitVec.reduceToNat, zipEnv, Int.reduceLE, Int.reduceLT, Int.reduceNeg, BitVec.reduceEq, Int.reduceAdd, Int.reduceSub, Int.reduceMul, Nat.reduceLeDiff, Int.reduceEq, h, decide_true]
    exact hk
  · have h2 : 1024 < n := by omega
    simp only [↓amD, amU, Nat.reduceBEq, Nat.reduceAdd, Nat.reduceSub, Nat.reduceMul, Nat.reduceMod, Nat.reducePow, Nat.reduceLT, Nat.reduceDiv, Int.reduceToNat, BitVec.reduceToNat, zipEnv, Int.reduceLE, Int.reduceLT, Int.reduceNeg, BitVec.reduceEq, Int.reduceAdd, Int.reduceSub, Int.reduceMul, Nat.reduceLeDiff, Int.reduceEq, h, h2, decide_true, decide_false]
    exact hk
end Job
end Go.Am
