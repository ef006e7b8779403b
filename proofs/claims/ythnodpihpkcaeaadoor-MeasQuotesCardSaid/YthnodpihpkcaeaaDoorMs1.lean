/- measurements: the functions -/
import Derived.Test.YthnodpihpkcaeaaDoorMac2
import Derived.Test.YthnodpihpkcaeaaDoorRd5
import Derived.Test.YthnodpihpkcaeaaDoorArr
namespace Go.Am
set_option linter.unusedSimpArgs false
set_option linter.unusedVariables false
attribute [local congr] bnd_congr kCond_congr kGd_congr kPick_congr kCall_congr kIdx_congr kSlice_congr kLoop_congr cond_congr' aBin_congr aBounds_congr aApp_congr aCopy_congr kFn_congr
namespace Job
open Go.Am.F
set_option maxRecDepth 10000
abbrev SAll : Sh := .ar 4 (.ar 32 L8)
abbrev SMeas : Sh := .cons SAll .nil
def allD (r : List (List (BitVec 8))) : D := .agg SAll (r.map d32D)
theorem map_d32D_inj : ∀ {a b : List (List (BitVec 8))}, a.map d32D = b.map d32D → a = b
  | [], [], _ => rfl
  | [], _ :: _, h => by simp at h
  | _ :: _, [], h => by simp at h
  | x :: a, y :: b, h => by
    simp only [List.map_cons, List.cons.injEq] at h
    rw [d32D_inj _ _ h.1, map_d32D_inj h.2]
theorem allD_inj (x y : List (List (BitVec 8))) (h : allD x = allD y) : x = y := by
  injection h with _ h; exact map_d32D_inj h
def measD (r : List (List (BitVec 8))) : D := .agg SMeas [allD r]
theorem measD_inj (x y : List (List (BitVec 8))) (h : measD x = measD y) : x = y := by
  injection h with _ h
  injection h with h _
  exact allD_inj _ _ h
def okR (r : List (List (BitVec 8))) : Bool := decide (r.length = 4) && all32 r
theorem okR_eq {r : List (List (BitVec 8))} : okR r = true ↔ r.length = 4 ∧ ∀ x ∈ r, x.length = 32 := by simp [okR, all32_eq]
theorem all_pure (r : List (List (BitVec 8))) (rows : Rows) : RdIn rows (rdOf allD) (allD r) r := RdIn.agg rfl (rdOf_eq allD_inj r)
theorem meas_pure (r : List (List (BitVec 8))) (rows : Rows) : RdIn rows (rdOf measD) (measD r) r := RdIn.agg rfl (rdOf_eq measD_inj r)
theorem okR_flat {r : List (List (BitVec 8))} (h : okR r = true) : r.flatten.length = 128 := by
  obtain ⟨h4, h32⟩ := okR_eq.1 h
  rw [flat_len h32, h4]
theorem okR_get {r : List (List (BitVec 8))} (h : okR r = true) {i : Nat} (hi : i < 4) : (r.getD i []).length = 32 := by
  obtain ⟨h4, h32⟩ := okR_eq.1 h
  have hi' : i < r.length := by omega
  rw [List.getD_eq_getElem?_getD, List.getElem?_eq_getElem hi']
  exact h32 _ (List.getElem_mem hi')
def inR (i : Int) : Bool := decide (0 ≤ i) && decide (i < 4)
def fThere : Fn := fn1 rdI (fun _ => true) fun i => (.raw (.bool (inR i)), [])
theorem there_ok (C : Ctx) (hC : CtxOK C P) : Meets C.glob P 20 (Fn.run fThere) := by
  refine fn_meets (m_meas_there C hC) fun ds rows r h => ?_
  obtain ⟨d, i, rfl, rfl, hd, hp, rfl⟩ := fn1_some h
  cases rdI_some hd
  refine ⟨rfl, afun_mk rfl ?_⟩
  clear h hd
  unfold a_meas_there r_meas_there
  by_cases h0 : 0 ≤ i
  · have e0 : (0 ≤ i) = True := eq_true h0
    by_cases h1 : i < 4
    · have e1 : (i < 4) = True := eq_true h1
      have e : inR i = true := by simp [inR, h0, h1]
      simp only [↓amD, amU, Nat.reduceBEq, Nat.reduceAdd, Nat.reduceSub, Nat.reduceMul, Nat.reduceMod, Nat.reducePow, Nat.reduceLT, Nat.reduceDiv, Int.reduceToNat, BitVec.reduceToNat, zipEnv, Int.reduceLE, Int.reduceLT, Int.reduceNeg, BitVec.reduceEq, Int.reduceAdd, Int.reduceSub, Int.reduceMul, Nat.reduceLeDiff, Int.reduceEq, e0, e1, e, decide_true]
      exact .val _ rfl
    · have e1 : (i < 4) = False := eq_false h1
      have e : inR i = false := by simp [inR, h0, h1]
      simp only [↓amD, amU, Nat.reduceBEq, Nat.reduceAdd, Nat.reduceSub, Nat.reduceMul, Nat.reduceMod, Nat.reducePow, Nat.reduceLT, Nat.reduceDiv, Int.reduceToNat, BitVec.reduceToNat, zipEnv, Int.reduceLE, Int.reduceLT, Int.reduceNeg, BitVec.reduceEq, Int.reduceAdd, Int.reduceSub, Int.reduceMul, Nat.reduceLeDiff, Int.reduceEq, e0, e1, e, decide_true, decide_false]
      exact .val _ rfl
  · have e0 : (0 ≤ i) = False := eq_false h0
    have e : inR i = false := by simp [inR, h0]
    simp only [↓amD, amU, Nat.reduceBEq, Nat.reduceAdd, Nat.reduceSub, Nat.reduceMul, Nat.reduceMod, Nat.reducePow, Nat.reduceLT, Nat.reduceDiv, Int.reduceToNat, BitVec.reduceToNat, zipEnv, Int.reduceLE, Int.reduceLT, Int.reduceNeg, BitVec.reduceEq, Int.reduceAdd, Int.reduceSub, Int.reduceMul, Nat.reduceLeDiff, Int.reduceEq, e0, e, decide_false]
    exact .val _ rfl
theorem kThere (rows : Rows) (k : D → Rows → Prop) (i : Int) : kCall fThere rows k [.raw (it i)] = k (.raw (.bool (inR i))) rows := by
  refine (kCall_rd1 (RdIn.int _) rfl rfl k).trans ?_
  simp [shift, shiftRows]
def zR : List (List (BitVec 8)) := List.replicate 4 z32
theorem zR_eq : List.replicate 4 (D.agg (.ar 32 L8) (bs z32)) = zR.map d32D := rfl
def fMsNew : Fn
  | [], [] => some (measD zR, [])
  | _, _ => none
theorem msnew_ok (C : Ctx) (hC : CtxOK C P) : Meets C.glob P 5 (Fn.run fMsNew) := by
  refine fn_meets (m_meas_New C hC) fun ds rows r h => ?_
  unfold fMsNew at h
  split at h
  · cases h
    refine ⟨rfl, afun_mk rfl ?_⟩
    unfold a_meas_New r_meas_New
    simp only [z32_eq, zR_eq]
    simp only [↓amD, amU, Nat.reduceBEq, Nat.reduceAdd, Nat.reduceSub, Nat.reduceMul, Nat.reduceMod, Nat.reducePow, Nat.reduceLT, Nat.reduceDiv, Int.reduceToNat, BitVec.reduceToNat, zipEnv, Int.reduceLE, Int.reduceLT, Int.reduceNeg, BitVec.reduceEq, Int.reduceAdd, Int.reduceSub, Int.reduceMul, Nat.reduceLeDiff, Int.reduceEq, lv_app0, lv_appk, set_app0, set_appk, List.append_assoc, List.append_nil, Nat.add_assoc]
    exact .val _ rfl
  · cases h
theorem kMsNew (rows : Rows) (k : D → Rows → Prop) : kCall fMsNew rows k [] = k (measD zR) rows := by
  refine (kCall_val rfl (r := (measD zR, [])) rfl).trans ?_
  simp [shift, shiftRows, measD, allD, Sh.pure]
noncomputable def fMText : Fn := fn1 (rdOf allD) okR fun r => outBs r.flatten false
theorem mtext_ok (C : Ctx) (hC : CtxOK C P) : Meets C.glob P 34 (Fn.run fMText) := by
  refine fn_meets (m_meas_text C hC) fun ds rows r h => ?_
  obtain ⟨d, l, rfl, rfl, hd, hp, rfl⟩ := fn1_some h
  cases rdOf_some hd
  obtain ⟨h4, h32⟩ := okR_eq.1 hp
  refine ⟨rfl, afun_mk rfl ?_⟩
  clear h hd
  unfold a_meas_text r_meas_text
  simp only [z32_eq]
  simp only [allD, ↓amD, amU, Nat.reduceBEq, Nat.reduceAdd, Nat.reduceSub, Nat.reduceMul, Nat.reduceMod, Nat.reducePow, Nat.reduceLT, Nat.reduceDiv, Int.reduceToNat, BitVec.reduceToNat, zipEnv, Int.reduceLE, Int.reduceLT, Int.reduceNeg, BitVec.reduceEq, Int.reduceAdd, Int.reduceSub, Int.reduceMul, Nat.reduceLeDiff, Int.reduceEq, lv_app0, lv_appk, set_app0, set_appk, List.append_assoc, List.append_nil, Nat.add_assoc]
  have hlt : ∀ i, i ≤ 4 → ((l.take i).flatten).length = 32 * i := fun i hi => by
    rw [flat_len (fun x hx => h32 x (List.mem_of_mem_take hx)), List.length_take]
    omega
  refine kLoop_up 4 (fun i env rows => has env [(7, .raw (it (i : Int))), (6, .agg SAll (l.map d32D))] ∧ ∃ d, look env 3 = some d ∧ Own L8 d rows (bs (l.take i).flatten)) ?_ ?_ ⟨?_, _, by simp only [↓amD, amU, Nat.reduceBEq, Nat.reduceAdd, Nat.reduceSub, Nat.reduceMul, Nat.reduceMod, Nat.reducePow, Nat.reduceLT, Nat.reduceDiv, Int.reduceToNat, BitVec.reduceToNat, zipEnv, Int.reduceLE, Int.reduceLT, Int.reduceNeg, BitVec.reduceEq, Int.reduceAdd, Int.reduceSub, Int.reduceMul, Nat.reduceLeDiff, Int.reduceEq], .nil⟩
  · rintro i hi env rows ⟨hh, d, h3, hO⟩ R hR
    simp only [has] at hh
    have e0 : ((i : Int) < 4) = True := eq_true (by omega)
    have b0 : ∀ n : Nat, ((0 : Int) ≤ (n : Int)) = True := fun n => eq_true (by omega)
    have e1 := wz_succ i (by omega)
    have hi' : i < l.length := by omega
    have hx := h32 _ (List.getElem_mem hi')
    have g : (l.map d32D)[i]? = some (.agg (.ar 32 L8) (bs l[i])) := by simp [d32D, hi']
    have hs : (l.take i).flatten ++ l[i] = (l.take (i + 1)).flatten := by
      rw [List.take_succ_eq_append_getElem hi', List.flatten_append]; simp
    have hlen := hlt i (by omega)
    generalize l[i] = xi at *
    have ea : ∀ ex, elems (rows ++ [some ⟨.ar 32 L8, [.agg (.ar 32 L8) (bs xi)]⟩]) (.sl L8 rows.length [0] 0 32 ex) = some (bs xi) := fun ex => elems_arr (n := 32) (by rw [lv_app0]; rfl) rfl hx
    simp only [↓amD, amU, Nat.reduceBEq, Nat.reduceAdd, Nat.reduceSub, Nat.reduceMul, Nat.reduceMod, Nat.reducePow, Nat.reduceLT, Nat.reduceDiv, Int.reduceToNat, BitVec.reduceToNat, zipEnv, Int.reduceLE, Int.reduceLT, Int.reduceNeg, BitVec.reduceEq, Int.reduceAdd, Int.reduceSub, Int.reduceMul, Nat.reduceLeDiff, Int.reduceEq, lv_app0, lv_appk, set_app0, set_appk, List.append_assoc, List.append_nil, Nat.add_assoc, hh, e0, e1, b0, h3, g, ea, bs_len, hx]
    refine app_own (hO.push) (by rw [bs_len, bs_len, hx, hlen]; simp [most]; omega) (by rw [bs_len, bs_len, hx, hlen]; simp [most]; omega) fun d' rows' hO' hfr hlen' _ => ?_
    rw [bs_app, hs] at hO'
    simp only [↓amD, amU, Nat.reduceBEq, Nat.reduceAdd, Nat.reduceSub, Nat.reduceMul, Nat.reduceMod, Nat.reducePow, Nat.reduceLT, Nat.reduceDiv, Int.reduceToNat, BitVec.reduceToNat, zipEnv, Int.reduceLE, Int.reduceLT, Int.reduceNeg, BitVec.reduceEq, Int.reduceAdd, Int.reduceSub, Int.reduceMul, Nat.reduceLeDiff, Int.reduceEq, lv_app0, lv_appk, set_app0, set_appk, List.append_assoc, List.append_nil, Nat.add_assoc, hh, e1]
    exact hR _ _ ⟨by simp only [has, ↓amD, amU, Nat.reduceBEq, Nat.reduceAdd, Nat.reduceSub, Nat.reduceMul, Nat.reduceMod, Nat.reducePow, Nat.reduceLT, Nat.reduceDiv, Int.reduceToNat, BitVec.reduceToNat, zipEnv, Int.reduceLE, Int.reduceLT, Int.reduceNeg, BitVec.reduceEq, Int.reduceAdd, Int.reduceSub, Int.reduceMul, Nat.reduceLeDiff, Int.reduceEq, hh], d', by simp only [↓amD, amU, Nat.reduceBEq, Nat.reduceAdd, Nat.reduceSub, Nat.reduceMul, Nat.reduceMod, Nat.reducePow, Nat.reduceLT, Nat.reduceDiv, Int.reduceToNat, BitVec.reduceToNat, zipEnv, Int.reduceLE, Int.reduceLT, Int.reduceNeg, BitVec.reduceEq, Int.reduceAdd, Int.reduceSub, Int.reduceMul, Nat.reduceLeDiff, Int.reduceEq], hO'⟩
  · rintro env rows ⟨hh, d, h3, hO⟩ R
    simp only [has] at hh
    rw [List.take_of_length_le (by omega)] at hO
    simp only [↓amD, amU, Nat.reduceBEq, Nat.reduceAdd, Nat.reduceSub, Nat.reduceMul, Nat.reduceMod, Nat.reducePow, Nat.reduceLT, Nat.reduceDiv, Int.reduceToNat, BitVec.reduceToNat, zipEnv, Int.reduceLE, Int.reduceLT, Int.reduceNeg, BitVec.reduceEq, Int.reduceAdd, Int.reduceSub, Int.reduceMul, Nat.reduceLeDiff, Int.reduceEq, lv_app0, lv_appk, set_app0, set_appk, List.append_assoc, List.append_nil, Nat.add_assoc, hh, h3, hO.nTup]
    exact hO.expo
  · simp only [has, ↓amD, amU, Nat.reduceBEq, Nat.reduceAdd, Nat.reduceSub, Nat.reduceMul, Nat.reduceMod, Nat.reducePow, Nat.reduceLT, Nat.reduceDiv, Int.reduceToNat, BitVec.reduceToNat, zipEnv, Int.reduceLE, Int.reduceLT, Int.reduceNeg, BitVec.reduceEq, Int.reduceAdd, Int.reduceSub, Int.reduceMul, Nat.reduceLeDiff, Int.reduceEq]
theorem kMText (rows : Rows) (k : D → Rows → Prop) (r : List (List (BitVec 8))) (h : okR r = true) : kCall fMText rows k [allD r] = k (.sl L8 (0 + rows.length) [] 0 128 false) (rows ++ [some ⟨L8, bs r.flatten⟩]) := by
  refine (kCall_rd1 (all_pure r rows) h rfl k).trans ?_
  simp [outBs, shift, shiftRows, Sh.pure, okR_flat h]
/-- a register goes on -/
def extR (r : List (List (BitVec 8))) (i : Int) (p : List (BitVec 8)) : List (List (BitVec 8)) := bif inR i then r.set i.toNat (sumS (r.getD i.toNat [] ++ sumS p)) else r
theorem extR_ok {r : List (List (BitVec 8))} (h : okR r = true) (i : Int) (p : List (BitVec 8)) : okR (extR r i p) = true := by
  unfold extR
  cases inR i with
  | false => exact h
  | true =>
    obtain ⟨h4, h32⟩ := okR_eq.1 h
    refine okR_eq.2 ⟨by simp [h4], fun x hx => ?_⟩
    simp only [cond_true] at hx
    rcases List.mem_or_eq_of_mem_set hx with h1 | h1
    · exact h32 x h1
    · rw [h1]; exact sumS_len _
noncomputable def fExtend : Fn := fn3 (rdOf measD) rdI rdBss (fun r _ ls => okR r && (Nat.ble ls.length most && Nat.ble ls.flatten.length most)) fun r i ls => (.tup [measD (extR r i ls.flatten), .raw (it (bif inR i then 0 else 1))], [])
set_option maxHeartbeats 1000000 in
theorem extend_ok (C : Ctx) (hC : CtxOK C P) (h1 : C.fn 20 = some fThere) (h2 : C.fn 21 = some fSum) : Meets C.glob P 6 (Fn.run fExtend) := by
  refine fn_meets (m_meas_Meas_Extend C hC) fun ds rows r h => ?_
  obtain ⟨d0, d1, d2, r, i, ls, rfl, rfl, g0, g1, g2, hp, rfl⟩ := fn3_some h
  cases rdOf_some g0
  cases rdI_some g1
  obtain ⟨l, e, rfl, hl⟩ := rdBss_some g2
  simp only [Bool.and_eq_true, Nat.ble_eq] at hp
  obtain ⟨hr, hp1, hp2⟩ := hp
  unfold most at hp1 hp2
  obtain ⟨h4, h32⟩ := okR_eq.1 hr
  refine ⟨rfl, afun_mk rfl ?_⟩
  clear h g0 g1 g2
  unfold a_meas_Meas_Extend r_meas_Meas_Extend
  have zr : D.agg SMeas [.agg SAll (List.replicate 4 (.agg (.ar 32 L8) (bs z32)))] = measD zR := rfl
  have mf : ∀ r, D.fits (measD r) SMeas = true := fun _ => rfl
  simp only [z32_eq, zr]
  simp only [↓amD, amU, Nat.reduceBEq, Nat.reduceAdd, Nat.reduceSub, Nat.reduceMul, Nat.reduceMod, Nat.reducePow, Nat.reduceLT, Nat.reduceDiv, Int.reduceToNat, BitVec.reduceToNat, zipEnv, Int.reduceLE, Int.reduceLT, Int.reduceNeg, BitVec.reduceEq, Int.reduceAdd, Int.reduceSub, Int.reduceMul, Nat.reduceLeDiff, Int.reduceEq, lv_app0, lv_appk, set_app0, set_appk, List.append_assoc, List.append_nil, Nat.add_assoc, h1, kThere, mf]
  cases hi : inR i with
  | false =>
    have hx : extR r i ls.flatten = r := by simp [extR, hi]
    rw [hx]
    simp only [↓amD, amU, Nat.reduceBEq, Nat.reduceAdd, Nat.reduceSub, Nat.reduceMul, Nat.reduceMod, Nat.reducePow, Nat.reduceLT, Nat.reduceDiv, Int.reduceToNat, BitVec.reduceToNat, zipEnv, Int.reduceLE, Int.reduceLT, Int.reduceNeg, BitVec.reduceEq, Int.reduceAdd, Int.reduceSub, Int.reduceMul, Nat.reduceLeDiff, Int.reduceEq, lv_app0, lv_appk, set_app0, set_appk, List.append_assoc, List.append_nil, Nat.add_assoc, mf]
    exact .val _ rfl
  | true =>
    have hi2 : 0 ≤ i ∧ i < 4 := by simpa [inR] using hi
    obtain ⟨n, rfl⟩ := Int.eq_ofNat_of_zero_le hi2.1
    have hn : n < 4 := by omega
    have kS : ∀ (rows : Rows) k, kCall fSum rows k [.lst .ref l e] = k (.agg (.ar 32 L8) (bs (sumS ls.flatten))) rows := fun rows k => by
      have hv : RdIn rows rdBss (.lst .ref l e) ls := by
        have hl' := hl
        refine ⟨?_, fun _ => hl⟩
        obtain ⟨hlen, hget⟩ := mapO_get hl
        have hv : All2 (fun x y => BsIn rows x y) l ls := ⟨hlen.symm, fun i x y hx hy => (rdBs_some (hget i x y hx hy)).to⟩
        obtain ⟨l', q1, q2⟩ := view_parts hv
        exact ⟨.lst .ref l' e, by simp only [view, Sh.pure, cond_false, q1], by simpa [rdBss] using q2⟩
      refine (kCall_rd1 hv (by simp only [Bool.and_eq_true, Nat.ble_eq]; exact ⟨hp1, hp2⟩) (by simp [d32D, noLst, noLstRows, Sh.pure]) k).trans ?_
      simp [d32D, shift, shiftRows, Sh.pure]
    have e0 : ((n : Int) < 4) = True := eq_true (by omega)
    have b0 : ((0 : Int) ≤ (n : Int)) = True := eq_true (by omega)
    have g : ∀ x, (D.agg SAll (r.map d32D)).set [n] x = some (.agg SAll ((r.map d32D).set n x)) := fun x => by simp [D.set, h4, hn]
    simp only [↓amD, amU, Nat.reduceBEq, Nat.reduceAdd, Nat.reduceSub, Nat.reduceMul, Nat.reduceMod, Nat.reducePow, Nat.reduceLT, Nat.reduceDiv, Int.reduceToNat, BitVec.reduceToNat, zipEnv, Int.reduceLE, Int.reduceLT, Int.reduceNeg, BitVec.reduceEq, Int.reduceAdd, Int.reduceSub, Int.reduceMul, Nat.reduceLeDiff, Int.reduceEq, lv_app0, lv_appk, set_app0, set_appk, List.append_assoc, List.append_nil, Nat.add_assoc, h2, kS, e0, b0, measD, allD]
    have hn' : n < r.length := by omega
    have hx : (r.getD n []).length = 32 := okR_get hr hn
    have hg : rowGet [D.agg SMeas [D.agg SAll (r.map d32D)]] [0, 0, n] = some (.agg (.ar 32 L8) (bs (r.getD n []))) := by
      simp [rowGet, D.get, List.getD, hn', d32D]
    have hy := sumS_len ls.flatten
    refine Eq.mpr (kSum _ _ _ 2 _ _ [r.getD n [], sumS ls.flatten] rfl rfl (.cons (BsIn.atAll (n := 32) rfl hg hx) (.cons (BsIn.atAll (n := 32) rfl rfl hy) .nil)) (by simp) (by simp only [List.flatten_cons, List.flatten_nil, List.length_append, List.length_nil, hx, hy]; omega)) ?_
    have e : sumS [r.getD n [], sumS ls.flatten].flatten = sumS (r.getD n [] ++ sumS ls.flatten) := by simp
    have hm : (r.map d32D).set n (.agg (.ar 32 L8) (bs (sumS (r.getD n [] ++ sumS ls.flatten)))) = (r.set n (sumS (r.getD n [] ++ sumS ls.flatten))).map d32D := by
      rw [List.map_set]; rfl
    have hxx : extR r (n : Int) ls.flatten = r.set n (sumS (r.getD n [] ++ sumS ls.flatten)) := by simp [extR, hi]
    rw [e, hxx]
    simp only [↓amD, amU, Nat.reduceBEq, Nat.reduceAdd, Nat.reduceSub, Nat.reduceMul, Nat.reduceMod, Nat.reducePow, Nat.reduceLT, Nat.reduceDiv, Int.reduceToNat, BitVec.reduceToNat, zipEnv, Int.reduceLE, Int.reduceLT, Int.reduceNeg, BitVec.reduceEq, Int.reduceAdd, Int.reduceSub, Int.reduceMul, Nat.reduceLeDiff, Int.reduceEq, lv_app0, lv_appk, set_app0, set_appk, List.append_assoc, List.append_nil, Nat.add_assoc, e0, b0, g, hm]
    exact .val _ rfl
theorem kExtend (rows : Rows) (k : D → Rows → Prop) (r : List (List (BitVec 8))) (i : Int) (q n : Nat) (ex : Bool) (l : List D) (ls : List (List (BitVec 8))) (h : okR r = true) (hl : live rows q = some ⟨.ref, l⟩) (hn : l.length = n)
    (hv : All2 (fun x y => BsIn rows x y) l ls) (hp : ls.length ≤ 1099511627776) (hp2 : ls.flatten.length ≤ 1099511627776) :
    kCall fExtend rows k [measD r, .raw (it i), .sl .ref q [] 0 n ex] = k (.tup [measD (extR r i ls.flatten), .raw (it (bif inR i then 0 else 1))]) rows := by
  refine (kCall_rd3 (meas_pure r rows) (RdIn.int i) (RdIn.parts hl hn hv) (by simp only [Bool.and_eq_true, Nat.ble_eq]; exact ⟨h, hp, hp2⟩) (by simp [noLst, noLstL, noLstRows, measD, Sh.pure]) k).trans ?_
  simp [shift, shiftL, shiftRows, measD, Sh.pure]
/-- one, and all -/
noncomputable def fGetR : Fn := fn2 (rdOf measD) rdI (fun r _ => okR r) fun r i => (.tup [d32D (bif inR i then r.getD i.toNat [] else z32), .raw (.bool (inR i))], [])
theorem getr_ok (C : Ctx) (hC : CtxOK C P) (h1 : C.fn 20 = some fThere) : Meets C.glob P 18 (Fn.run fGetR) := by
  refine fn_meets (m_meas_Meas_Get C hC) fun ds rows r h => ?_
  obtain ⟨d0, d1, r, i, rfl, rfl, g0, g1, hr, rfl⟩ := fn2_some h
  cases rdOf_some g0
  cases rdI_some g1
  refine ⟨rfl, afun_mk rfl ?_⟩
  clear h g0 g1
  obtain ⟨h4, h32⟩ := okR_eq.1 hr
  unfold a_meas_Meas_Get r_meas_Meas_Get
  have mf : ∀ r, D.fits (measD r) SMeas = true := fun _ => rfl
  simp only [z32_eq]
  simp only [↓amD, amU, Nat.reduceBEq, Nat.reduceAdd, Nat.reduceSub, Nat.reduceMul, Nat.reduceMod, Nat.reducePow, Nat.reduceLT, Nat.reduceDiv, Int.reduceToNat, BitVec.reduceToNat, zipEnv, Int.reduceLE, Int.reduceLT, Int.reduceNeg, BitVec.reduceEq, Int.reduceAdd, Int.reduceSub, Int.reduceMul, Nat.reduceLeDiff, Int.reduceEq, lv_app0, lv_appk, set_app0, set_appk, List.append_assoc, List.append_nil, Nat.add_assoc, h1, kThere, mf]
  cases hi : inR i with
  | false =>
    simp only [↓amD, amU, Nat.reduceBEq, Nat.reduceAdd, Nat.reduceSub, Nat.reduceMul, Nat.reduceMod, Nat.reducePow, Nat.reduceLT, Nat.reduceDiv, Int.reduceToNat, BitVec.reduceToNat, zipEnv, Int.reduceLE, Int.reduceLT, Int.reduceNeg, BitVec.reduceEq, Int.reduceAdd, Int.reduceSub, Int.reduceMul, Nat.reduceLeDiff, Int.reduceEq, lv_app0, lv_appk, set_app0, set_appk, List.append_assoc, List.append_nil, Nat.add_assoc, mf]
    exact .val _ rfl
  | true =>
    have hi2 : 0 ≤ i ∧ i < 4 := by simpa [inR] using hi
    obtain ⟨n, rfl⟩ := Int.eq_ofNat_of_zero_le hi2.1
    have hn : n < 4 := by omega
    have e0 : ((n : Int) < 4) = True := eq_true (by omega)
    have b0 : ((0 : Int) ≤ (n : Int)) = True := eq_true (by omega)
    have hn' : n < r.length := by omega
    have g : (D.agg SAll (r.map d32D)).get [n] = some (.agg (.ar 32 L8) (bs (r.getD n []))) := by simp [D.get, List.getD, hn', d32D]
    have g2 : (r.map d32D)[n]? = some (.agg (.ar 32 L8) (bs (r.getD n []))) := by simp [List.getD, hn', d32D]
    simp only [↓amD, amU, Nat.reduceBEq, Nat.reduceAdd, Nat.reduceSub, Nat.reduceMul, Nat.reduceMod, Nat.reducePow, Nat.reduceLT, Nat.reduceDiv, Int.reduceToNat, BitVec.reduceToNat, zipEnv, Int.reduceLE, Int.reduceLT, Int.reduceNeg, BitVec.reduceEq, Int.reduceAdd, Int.reduceSub, Int.reduceMul, Nat.reduceLeDiff, Int.reduceEq, lv_app0, lv_appk, set_app0, set_appk, List.append_assoc, List.append_nil, Nat.add_assoc, e0, b0, measD, allD, g, g2]
    exact .val _ rfl
theorem kGetR (rows : Rows) (k : D → Rows → Prop) (r : List (List (BitVec 8))) (i : Int) (h : okR r = true) : kCall fGetR rows k [measD r, .raw (it i)] = k (.tup [d32D (bif inR i then r.getD i.toNat [] else z32), .raw (.bool (inR i))]) rows := by
  refine (kCall_rd2 (meas_pure r rows) (RdIn.int i) h (by simp [noLst, noLstL, noLstRows, d32D, Sh.pure]) k).trans ?_
  simp [shift, shiftL, shiftRows, d32D, Sh.pure]
noncomputable def fAllR : Fn := fn1 (rdOf measD) (fun _ => true) fun r => (allD r, [])
theorem allr_ok (C : Ctx) (hC : CtxOK C P) : Meets C.glob P 11 (Fn.run fAllR) := by
  refine fn_meets (m_meas_Meas_All C hC) fun ds rows r h => ?_
  obtain ⟨d0, r, rfl, rfl, g0, -, rfl⟩ := fn1_some h
  cases rdOf_some g0
  refine ⟨rfl, afun_mk rfl ?_⟩
  clear h g0
  unfold a_meas_Meas_All r_meas_Meas_All
  have mf : ∀ r, D.fits (measD r) SMeas = true := fun _ => rfl
  have mg : ∀ r, (measD r).get [0] = some (allD r) := fun _ => rfl
  have af : ∀ r, D.fits (allD r) SAll = true := fun _ => rfl
  simp only [z32_eq, zR_eq]
  simp only [↓amD, amU, Nat.reduceBEq, Nat.reduceAdd, Nat.reduceSub, Nat.reduceMul, Nat.reduceMod, Nat.reducePow, Nat.reduceLT, Nat.reduceDiv, Int.reduceToNat, BitVec.reduceToNat, zipEnv, Int.reduceLE, Int.reduceLT, Int.reduceNeg, BitVec.reduceEq, Int.reduceAdd, Int.reduceSub, Int.reduceMul, Nat.reduceLeDiff, Int.reduceEq, lv_app0, lv_appk, set_app0, set_appk, List.append_assoc, List.append_nil, Nat.add_assoc, mf, mg, af]
  exact .val _ rfl
theorem kAllR (rows : Rows) (k : D → Rows → Prop) (r : List (List (BitVec 8))) : kCall fAllR rows k [measD r] = k (allD r) rows := by
  refine (kCall_rd1 (meas_pure r rows) rfl (by simp [noLst, noLstRows, allD, Sh.pure]) k).trans ?_
  simp [shift, shiftRows, allD, Sh.pure]
end Job
end Go.Am
