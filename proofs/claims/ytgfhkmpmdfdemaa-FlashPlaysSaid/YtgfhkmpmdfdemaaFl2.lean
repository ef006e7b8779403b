/- the flash: what is asked -/
import Derived.Test.YtgfhkmpmdfdemaaFl1
namespace Go.Am
set_option linter.unusedSimpArgs false
set_option linter.unusedVariables false
attribute [local congr] bnd_congr kCond_congr kGd_congr kPick_congr kCall_congr kIdx_congr kSlice_congr kLoop_congr cond_congr' aBin_congr aBounds_congr aApp_congr aCopy_congr kFn_congr
namespace Job
open Go.Am.F
set_option maxRecDepth 10000
abbrev SF : Sh := S2
abbrev FV := Option (List (BitVec 8) × Bool)
def flD : FV → D
  | none => .raw (.pointer none)
  | some (x, e) => .cptr (.agg SF [.lst L8 (bs x) e])
theorem bs_inj {a b : List (BitVec 8)} (h : bs a = bs b) : a = b := (List.map_inj_right fun x y hxy => by cases (D.raw.inj hxy : u8 x = u8 y) |> u8_inj.1; rfl).1 h
theorem flD_inj (x y : FV) (h : flD x = flD y) : x = y := by
  rcases x with _ | ⟨x, e⟩ <;> rcases y with _ | ⟨y, f⟩
  · rfl
  · cases h
  · cases h
  · unfold flD at h
    injection h with h
    injection h with _ h
    injection h with h _
    injection h with _ h h2
    rw [bs_inj h, h2]
def flLen : FV → Nat
  | none => 0
  | some (x, _) => x.length
def errW : FV → Int → Int → Int
  | none, _, _ => 3
  | some (x, _), a, n => if a < 0 ∨ n < 0 ∨ (x.length : Int) < a ∨ (x.length : Int) - a < n then 9 else 0
def errP : FV → Int → Int
  | none, _ => 3
  | some (x, _), i => if i < 0 ∨ ((x.length / 256 : Nat) : Int) ≤ i then 9 else 0
noncomputable def fWithin : Fn := fn3 (rdOf flD) rdI rdI (fun K _ _ => decide (flLen K ≤ 1048576)) fun K a n => (.raw (it (errW K a n)), [])
theorem within_ok (C : Ctx) (hC : CtxOK C P) : Meets C.glob P 26 (Fn.run fWithin) := by
  refine fn_meets (m_flash_Flash_within C hC) fun ds rows r h => ?_
  obtain ⟨d, e, f, K, a, n, rfl, rfl, hd, he, hf, hp, rfl⟩ := fn3_some h
  cases rdOf_some hd
  cases rdI_some he
  cases rdI_some hf
  simp only [decide_eq_true_eq] at hp
  refine ⟨rfl, afun_mk rfl ?_⟩
  clear h hd he hf
  unfold a_flash_Flash_within r_flash_Flash_within
  rcases K with _ | ⟨x, e⟩
  · simp only [flD, ↓amD, amU, Nat.reduceBEq, Nat.reduceAdd, Nat.reduceSub, Nat.reduceMul, Nat.reduceMod, Nat.reducePow, Nat.reduceLT, Nat.reduceDiv, Int.reduceToNat, BitVec.reduceToNat, zipEnv, Int.reduceLE, Int.reduceLT, Int.reduceNeg, BitVec.reduceEq, Int.reduceAdd, Int.reduceSub, Int.reduceMul, Nat.reduceLeDiff, Int.reduceEq, errW]
    exact .val _ rfl
  · simp only [flLen] at hp
    simp only [flD, errW]
    by_cases c1 : a < 0
    · simp only [↓amD, amU, Nat.reduceBEq, Nat.reduceAdd, Nat.reduceSub, Nat.reduceMul, Nat.reduceMod, Nat.reducePow, Nat.reduceLT, Nat.reduceDiv, Int.reduceToNat, BitVec.reduceToNat, zipEnv, Int.reduceLE, Int.reduceLT, Int.reduceNeg, BitVec.reduceEq, Int.reduceAdd, Int.reduceSub, Int.reduceMul, Nat.reduceLeDiff, Int.reduceEq, c1, true_or, if_true]
      exact .val _ rfl
    by_cases c2 : n < 0
    · simp only [↓amD, amU, Nat.reduceBEq, Nat.reduceAdd, Nat.reduceSub, Nat.reduceMul, Nat.reduceMod, Nat.reducePow, Nat.reduceLT, Nat.reduceDiv, Int.reduceToNat, BitVec.reduceToNat, zipEnv, Int.reduceLE, Int.reduceLT, Int.reduceNeg, BitVec.reduceEq, Int.reduceAdd, Int.reduceSub, Int.reduceMul, Nat.reduceLeDiff, Int.reduceEq, c1, c2, true_or, or_true, if_true, decide_false, decide_true]
      exact .val _ rfl
    by_cases c3 : (x.length : Int) < a
    · simp only [↓amD, amU, Nat.reduceBEq, Nat.reduceAdd, Nat.reduceSub, Nat.reduceMul, Nat.reduceMod, Nat.reducePow, Nat.reduceLT, Nat.reduceDiv, Int.reduceToNat, BitVec.reduceToNat, zipEnv, Int.reduceLE, Int.reduceLT, Int.reduceNeg, BitVec.reduceEq, Int.reduceAdd, Int.reduceSub, Int.reduceMul, Nat.reduceLeDiff, Int.reduceEq, bs_len, c1, c2, c3, true_or, or_true, if_true, decide_false, decide_true]
      exact .val _ rfl
    have e1 : wz ((x.length : Int) - a) = (x.length : Int) - a := wz_id (by omega)
    by_cases c4 : (x.length : Int) - a < n
    · simp only [↓amD, amU, Nat.reduceBEq, Nat.reduceAdd, Nat.reduceSub, Nat.reduceMul, Nat.reduceMod, Nat.reducePow, Nat.reduceLT, Nat.reduceDiv, Int.reduceToNat, BitVec.reduceToNat, zipEnv, Int.reduceLE, Int.reduceLT, Int.reduceNeg, BitVec.reduceEq, Int.reduceAdd, Int.reduceSub, Int.reduceMul, Nat.reduceLeDiff, Int.reduceEq, bs_len, c1, c2, c3, c4, e1, true_or, or_true, if_true, decide_false, decide_true]
      exact .val _ rfl
    · simp only [↓amD, amU, Nat.reduceBEq, Nat.reduceAdd, Nat.reduceSub, Nat.reduceMul, Nat.reduceMod, Nat.reducePow, Nat.reduceLT, Nat.reduceDiv, Int.reduceToNat, BitVec.reduceToNat, zipEnv, Int.reduceLE, Int.reduceLT, Int.reduceNeg, BitVec.reduceEq, Int.reduceAdd, Int.reduceSub, Int.reduceMul, Nat.reduceLeDiff, Int.reduceEq, bs_len, c1, c2, c3, c4, e1, or_self, if_false, decide_false, decide_true]
      exact .val _ rfl
noncomputable def fPageE : Fn := fn2 (rdOf flD) rdI (fun K _ => decide (flLen K ≤ 1048576)) fun K i => (.raw (it (errP K i)), [])
theorem page_ok (C : Ctx) (hC : CtxOK C P) : Meets C.glob P 28 (Fn.run fPageE) := by
  refine fn_meets (m_flash_Flash_page C hC) fun ds rows r h => ?_
  obtain ⟨d, e, K, i, rfl, rfl, hd, he, hp, rfl⟩ := fn2_some h
  cases rdOf_some hd
  cases rdI_some he
  simp only [decide_eq_true_eq] at hp
  refine ⟨rfl, afun_mk rfl ?_⟩
  clear h hd he
  unfold a_flash_Flash_page r_flash_Flash_page
  rcases K with _ | ⟨x, e⟩
  · simp only [flD, ↓amD, amU, Nat.reduceBEq, Nat.reduceAdd, Nat.reduceSub, Nat.reduceMul, Nat.reduceMod, Nat.reducePow, Nat.reduceLT, Nat.reduceDiv, Int.reduceToNat, BitVec.reduceToNat, zipEnv, Int.reduceLE, Int.reduceLT, Int.reduceNeg, BitVec.reduceEq, Int.reduceAdd, Int.reduceSub, Int.reduceMul, Nat.reduceLeDiff, Int.reduceEq, errP]
    exact .val _ rfl
  · simp only [flLen] at hp
    simp only [flD, errP]
    have e1 : (x.length : Int).tdiv 256 = ((x.length / 256 : Nat) : Int) := rfl
    have e2 : wz ((x.length / 256 : Nat) : Int) = ((x.length / 256 : Nat) : Int) := wz_id (by omega)
    by_cases c1 : i < 0
    · simp only [↓amD, amU, Nat.reduceBEq, Nat.reduceAdd, Nat.reduceSub, Nat.reduceMul, Nat.reduceMod, Nat.reducePow, Nat.reduceLT, Nat.reduceDiv, Int.reduceToNat, BitVec.reduceToNat, zipEnv, Int.reduceLE, Int.reduceLT, Int.reduceNeg, BitVec.reduceEq, Int.reduceAdd, Int.reduceSub, Int.reduceMul, Nat.reduceLeDiff, Int.reduceEq, c1, true_or, if_true]
      exact .val _ rfl
    by_cases c2 : ((x.length / 256 : Nat) : Int) ≤ i
    · simp only [↓amD, amU, Nat.reduceBEq, Nat.reduceAdd, Nat.reduceSub, Nat.reduceMul, Nat.reduceMod, Nat.reducePow, Nat.reduceLT, Nat.reduceDiv, Int.reduceToNat, BitVec.reduceToNat, zipEnv, Int.reduceLE, Int.reduceLT, Int.reduceNeg, BitVec.reduceEq, Int.reduceAdd, Int.reduceSub, Int.reduceMul, Nat.reduceLeDiff, Int.reduceEq, bs_len, e1, e2, c1, c2, true_or, or_true, if_true, decide_false, decide_true]
      exact .val _ rfl
    · simp only [↓amD, amU, Nat.reduceBEq, Nat.reduceAdd, Nat.reduceSub, Nat.reduceMul, Nat.reduceMod, Nat.reducePow, Nat.reduceLT, Nat.reduceDiv, Int.reduceToNat, BitVec.reduceToNat, zipEnv, Int.reduceLE, Int.reduceLT, Int.reduceNeg, BitVec.reduceEq, Int.reduceAdd, Int.reduceSub, Int.reduceMul, Nat.reduceLeDiff, Int.reduceEq, bs_len, e1, e2, c1, c2, or_self, if_false, decide_false, decide_true]
      exact .val _ rfl
/-- does it clear bits alone? -/
def clr1 (a b : List (BitVec 8)) (i : Nat) : Prop := b.getD i 0#8 &&& ~~~ a.getD i 0#8 = 0#8
def clears (a b : List (BitVec 8)) : Prop := ∀ i, i < b.length → clr1 a b i
noncomputable def fClears : Fn := fn2 rdBs rdBs (fun a b => decide (b.length ≤ a.length) && decide (a.length ≤ 1048576)) fun a b => (.raw (.bool (open Classical in decide (clears a b))), [])
theorem clears_ok (C : Ctx) (hC : CtxOK C P) : Meets C.glob P 29 (Fn.run fClears) := by
  refine fn_meetsN (m_flash_clears C hC) fun ds rows r h => ?_
  obtain ⟨d, e, a, b, rfl, rfl, hd, he, hp, rfl⟩ := fn2_some h
  obtain ⟨x, hx⟩ := rdBs_nrm hd
  obtain ⟨y, hy⟩ := rdBs_nrm he
  simp only [Bool.and_eq_true, decide_eq_true_eq] at hp
  obtain ⟨hp, hp2⟩ := hp
  refine ⟨rfl, _, .cons hx (.cons hy .nil), afun_mk rfl ?_⟩
  clear h hd he hx hy
  unfold a_flash_clears r_flash_clears
  simp only [↓amD, amU, Nat.reduceBEq, Nat.reduceAdd, Nat.reduceSub, Nat.reduceMul, Nat.reduceMod, Nat.reducePow, Nat.reduceLT, Nat.reduceDiv, Int.reduceToNat, BitVec.reduceToNat, zipEnv, Int.reduceLE, Int.reduceLT, Int.reduceNeg, BitVec.reduceEq, Int.reduceAdd, Int.reduceSub, Int.reduceMul, Nat.reduceLeDiff, Int.reduceEq, bs_len]
  refine kLoop_up b.length (fun i env rows => has env [(9, .raw (it (i : Int))), (8, .raw (it (b.length : Int))), (7, .lst L8 (bs b) y), (0, .lst L8 (bs a) x)] ∧ rows = [] ∧ ∀ j, j < i → clr1 a b j) ?_ ?_ ⟨?_, rfl, fun j h => by omega⟩
  · rintro i hi env rows ⟨hh, rfl, hc⟩ R hR
    simp only [has] at hh
    obtain ⟨h9, h8, h7, h0, -⟩ := hh
    have e0 : ((i : Int) < (b.length : Int)) = True := eq_true (by omega)
    have e2 := wz_succ i (by omega)
    have g1 : ∀ rows k, kIdx L8 (i : Int) rows k (.lst L8 (bs b) y) = k (.cptr (.raw (u8 (b.getD i 0#8)))) rows := fun rows k => idx_bs b y i hi rows k
    have g2 : ∀ rows k, kIdx L8 (i : Int) rows k (.lst L8 (bs a) x) = k (.cptr (.raw (u8 (a.getD i 0#8)))) rows := fun rows k => idx_bs a x i (by omega) rows k
    by_cases hz : clr1 a b i
    · have hz' : b.getD i 0#8 &&& ~~~ a.getD i 0#8 = 0#8 := hz
      simp only [↓amD, amU, Nat.reduceBEq, Nat.reduceAdd, Nat.reduceSub, Nat.reduceMul, Nat.reduceMod, Nat.reducePow, Nat.reduceLT, Nat.reduceDiv, Int.reduceToNat, BitVec.reduceToNat, zipEnv, Int.reduceLE, Int.reduceLT, Int.reduceNeg, BitVec.reduceEq, Int.reduceAdd, Int.reduceSub, Int.reduceMul, Nat.reduceLeDiff, Int.reduceEq, h9, h8, h7, h0, e0, e2, g1, g2, hz', decide_true]
      exact hR _ _ ⟨by simp only [has, ↓amD, amU, Nat.reduceBEq, Nat.reduceAdd, Nat.reduceSub, Nat.reduceMul, Nat.reduceMod, Nat.reducePow, Nat.reduceLT, Nat.reduceDiv, Int.reduceToNat, BitVec.reduceToNat, zipEnv, Int.reduceLE, Int.reduceLT, Int.reduceNeg, BitVec.reduceEq, Int.reduceAdd, Int.reduceSub, Int.reduceMul, Nat.reduceLeDiff, Int.reduceEq, h8, h7, h0], rfl, fun j hj => by
        rcases Nat.lt_or_ge j i with h | h
        · exact hc j h
        · obtain rfl : j = i := by omega
          exact hz⟩
    · have hz' : (b.getD i 0#8 &&& ~~~ a.getD i 0#8 = 0#8) = False := eq_false hz
      have hno : (open Classical in decide (clears a b)) = false := by
        classical
        rw [decide_eq_false_iff_not]
        exact fun h => hz (h i hi)
      simp only [↓amD, amU, Nat.reduceBEq, Nat.reduceAdd, Nat.reduceSub, Nat.reduceMul, Nat.reduceMod, Nat.reducePow, Nat.reduceLT, Nat.reduceDiv, Int.reduceToNat, BitVec.reduceToNat, zipEnv, Int.reduceLE, Int.reduceLT, Int.reduceNeg, BitVec.reduceEq, Int.reduceAdd, Int.reduceSub, Int.reduceMul, Nat.reduceLeDiff, Int.reduceEq, h9, h8, h7, h0, e0, e2, g1, g2, hz', hno, decide_true, decide_false]
      exact .val _ rfl
  · rintro env rows ⟨hh, rfl, hc⟩ R
    simp only [has] at hh
    obtain ⟨h9, h8, h7, h0, -⟩ := hh
    have e0 : ((b.length : Int) < (b.length : Int)) = False := eq_false (by omega)
    have hy : (open Classical in decide (clears a b)) = true := by
      classical
      rw [decide_eq_true_iff]
      exact hc
    simp only [↓amD, amU, Nat.reduceBEq, Nat.reduceAdd, Nat.reduceSub, Nat.reduceMul, Nat.reduceMod, Nat.reducePow, Nat.reduceLT, Nat.reduceDiv, Int.reduceToNat, BitVec.reduceToNat, zipEnv, Int.reduceLE, Int.reduceLT, Int.reduceNeg, BitVec.reduceEq, Int.reduceAdd, Int.reduceSub, Int.reduceMul, Nat.reduceLeDiff, Int.reduceEq, h9, h8, h7, h0, e0, hy, decide_false]
    exact .val _ rfl
  · simp only [has, ↓amD, amU, Nat.reduceBEq, Nat.reduceAdd, Nat.reduceSub, Nat.reduceMul, Nat.reduceMod, Nat.reducePow, Nat.reduceLT, Nat.reduceDiv, Int.reduceToNat, BitVec.reduceToNat, zipEnv, Int.reduceLE, Int.reduceLT, Int.reduceNeg, BitVec.reduceEq, Int.reduceAdd, Int.reduceSub, Int.reduceMul, Nat.reduceLeDiff, Int.reduceEq]
noncomputable def fSize : Fn := fn1 (rdOf flD) (fun _ => true) fun K => (.raw (it (flLen K : Int)), [])
theorem size_ok (C : Ctx) (hC : CtxOK C P) : Meets C.glob P 16 (Fn.run fSize) := by
  refine fn_meets (m_flash_Flash_Size C hC) fun ds rows r h => ?_
  obtain ⟨d, K, rfl, rfl, hd, hp, rfl⟩ := fn1_some h
  cases rdOf_some hd
  refine ⟨rfl, afun_mk rfl ?_⟩
  clear h hd
  unfold a_flash_Flash_Size r_flash_Flash_Size
  rcases K with _ | ⟨x, e⟩
  · simp only [flD, ↓amD, amU, Nat.reduceBEq, Nat.reduceAdd, Nat.reduceSub, Nat.reduceMul, Nat.reduceMod, Nat.reducePow, Nat.reduceLT, Nat.reduceDiv, Int.reduceToNat, BitVec.reduceToNat, zipEnv, Int.reduceLE, Int.reduceLT, Int.reduceNeg, BitVec.reduceEq, Int.reduceAdd, Int.reduceSub, Int.reduceMul, Nat.reduceLeDiff, Int.reduceEq, flLen]
    exact .val _ rfl
  · simp only [flD, ↓amD, amU, Nat.reduceBEq, Nat.reduceAdd, Nat.reduceSub, Nat.reduceMul, Nat.reduceMod, Nat.reducePow, Nat.reduceLT, Nat.reduceDiv, Int.reduceToNat, BitVec.reduceToNat, zipEnv, Int.reduceLE, Int.reduceLT, Int.reduceNeg, BitVec.reduceEq, Int.reduceAdd, Int.reduceSub, Int.reduceMul, Nat.reduceLeDiff, Int.reduceEq, flLen, bs_len]
    exact .val _ rfl
/-- a flash, as it lies in the rows -/
structure FlAt (rows : Rows) (r m : Nat) (x : List (BitVec 8)) : Prop where
  ptr : ∃ ex, live rows r = some ⟨SF, [.agg SF [.sl L8 m [] 0 x.length ex]]⟩
  dat : live rows m = some ⟨L8, bs x⟩
theorem FlAt.view {rows : Rows} {r m : Nat} {x : List (BitVec 8)} (h : FlAt rows r m x) : ∃ e, view rows 9 (.ptr SF r [0]) = some (flD (some (x, e))) := by
  obtain ⟨⟨ex, h1⟩, h2⟩ := h
  refine ⟨ex, ?_⟩
  have he : elems rows (.sl L8 m [] 0 x.length ex) = some (bs x) := by
    simp only [elems, h2]; simp [bs_take_len]
  simp only [Am.view, h1, rowGet, List.getElem?_cons_zero, D.get, flD, Sh.pure, mapO]
  rw [he]
  simp [bs_len, mapO, he]
theorem FlAt.push {rows : Rows} {r m : Nat} {x : List (BitVec 8)} (h : FlAt rows r m x) (more : Rows) : FlAt (rows ++ more) r m x := by
  obtain ⟨⟨ex, h1⟩, h2⟩ := h
  exact ⟨⟨ex, live_push h1⟩, live_push h2⟩
theorem FlAt.set {rows : Rows} {r m : Nat} {x : List (BitVec 8)} (h : FlAt rows r m x) {q : Nat} {y : Row} (h1 : q ≠ r) (h2 : q ≠ m) : FlAt (rows.set q (some y)) r m x := by
  obtain ⟨⟨ex, g1⟩, g2⟩ := h
  exact ⟨⟨ex, live_set_o g1 h1⟩, live_set_o g2 h2⟩
/-- a flash, or none, as a callee sees it -/
def FlIn (rows : Rows) (d : D) (K : FV) : Prop := (hasRef d = true ∧ view rows 9 d = some (flD K)) ∨ (d = flD K ∧ hasRef d = false)
theorem FlAt.to {rows : Rows} {r m : Nat} {x : List (BitVec 8)} (h : FlAt rows r m x) : ∃ e, FlIn rows (.ptr SF r [0]) (some (x, e)) := by
  obtain ⟨e, h⟩ := h.view
  exact ⟨e, .inl ⟨by simp [hasRef], h⟩⟩
theorem flNil (rows : Rows) : FlIn rows (.raw (.pointer none)) none := .inr ⟨rfl, rfl⟩
theorem kCall_fl {F : Fn} {rows : Rows} {d : D} {K : FV} (h : FlIn rows d K) {vs : List D} (hv : mapO (view rows 9) vs = some vs) (hn : hasRefL vs = false) {r : D × Rows} (hF : F (flD K :: vs) [] = some r) (hr : (noLst r.1 && noLstRows r.2) = true) (k : D → Rows → Prop) :
    kCall F rows k (d :: vs) = k (shift rows.length r.1) (rows ++ shiftRows rows.length r.2) := by
  unfold kCall
  rcases h with ⟨h1, h2⟩ | ⟨rfl, h2⟩
  · simp [hasRefL, h1, mapO, h2, hv, bnd, hF, hr]
  · simp [hasRefL, h2, hn, bnd, hF]
theorem kWithin {rows : Rows} {d : D} {K : FV} (h : FlIn rows d K) (hl : flLen K ≤ 1048576) (a n : Int) (k : D → Rows → Prop) : kCall fWithin rows k [d, .raw (it a), .raw (it n)] = k (.raw (it (errW K a n))) rows := by
  refine (kCall_fl h rfl rfl (r := (.raw (it (errW K a n)), [])) ?_ rfl k).trans ?_
  · simp only [fWithin, fn3_ev, rdOf_eq flD_inj, rdI_eq, Option.bind_some, hl, decide_true, cond_true]
  · simp [shift, shiftRows]
theorem kPageE {rows : Rows} {d : D} {K : FV} (h : FlIn rows d K) (hl : flLen K ≤ 1048576) (i : Int) (k : D → Rows → Prop) : kCall fPageE rows k [d, .raw (it i)] = k (.raw (it (errP K i))) rows := by
  refine (kCall_fl h rfl rfl (r := (.raw (it (errP K i)), [])) ?_ rfl k).trans ?_
  · simp only [fPageE, fn2_ev, rdOf_eq flD_inj, rdI_eq, Option.bind_some, hl, decide_true, cond_true]
  · simp [shift, shiftRows]
theorem kSize {rows : Rows} {d : D} {K : FV} (h : FlIn rows d K) (k : D → Rows → Prop) : kCall fSize rows k [d] = k (.raw (it (flLen K : Int))) rows := by
  refine (kCall_fl h (vs := []) rfl rfl (r := (.raw (it (flLen K : Int)), [])) ?_ rfl k).trans ?_
  · simp only [fSize, fn1_ev, rdOf_eq flD_inj, Option.bind_some, cond_true]
  · simp [shift, shiftRows]
theorem kClears {rows : Rows} {d e : D} {a b : List (BitVec 8)} (h : BsIn rows d a) (h' : BsIn rows e b) (hb : b.length ≤ a.length) (ha : a.length ≤ 1048576) (k : D → Rows → Prop) : kCall fClears rows k [d, e] = k (.raw (.bool (open Classical in decide (clears a b)))) rows := by
  refine (kCall_bs2 h h' (by simp [hb, ha]) rfl).trans ?_
  simp [shift, shiftRows]
end Job
end Go.Am
