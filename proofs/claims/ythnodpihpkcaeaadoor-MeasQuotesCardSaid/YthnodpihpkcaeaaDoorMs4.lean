/- measurements: the law of quotes -/
import Derived.Test.YthnodpihpkcaeaaDoorMs3
import Derived.Test.YthnodpihpkcaeaaDoorCom
namespace Go.Am
set_option linter.unusedSimpArgs false
set_option linter.unusedVariables false
attribute [local congr] bnd_congr kCond_congr kGd_congr kPick_congr kCall_congr kIdx_congr kSlice_congr kLoop_congr cond_congr' aBin_congr aBounds_congr aApp_congr aCopy_congr kFn_congr
namespace Job
open Go.Am.F
open Ms
set_option maxRecDepth 10000
abbrev SMAct : Sh := .cons LI (.cons .ref .nil)
def mactD (i : Int) (d : D) : D := .agg SMAct [.raw (it i), d]
def z8 : List (Int × List (BitVec 8)) := List.replicate 8 (0, z32)
theorem snew_run (C : Ctx) {rows : Rows} {K : D → Rows → Prop} (hk : K (.ptr SSl rows.length [0]) (rows ++ [some ⟨SSl, [slotD z8]⟩])) :
    afun C 0 r_slot_New a_slot_New [] rows K := by
  refine afun_mk rfl ?_
  unfold a_slot_New r_slot_New
  have zs : List.replicate 8 (D.agg SPl [.raw (it 0), .agg (.ar 32 L8) (bs z32)]) = z8.map plD := rfl
  have sf : D.fits (.agg SSl [.agg (.ar 8 SPl) (z8.map plD), .raw (.bool false), .raw (.bool false)]) SSl = true := rfl
  simp only [z32_eq, zs]
  simp only [↓amD, amU, Nat.reduceBEq, Nat.reduceAdd, Nat.reduceSub, Nat.reduceMul, Nat.reduceMod, Nat.reducePow, Nat.reduceLT, Nat.reduceDiv, Int.reduceToNat, BitVec.reduceToNat, zipEnv, Int.reduceLE, Int.reduceLT, Int.reduceNeg, BitVec.reduceEq, Int.reduceAdd, Int.reduceSub, Int.reduceMul, Nat.reduceLeDiff, Int.reduceEq, lv_app0, lv_appk, set_app0, set_appk, List.append_assoc, List.append_nil, Nat.add_assoc, sf]
  exact hk
theorem len4 {α : Type} {l : List α} (h : l.length = 4) : ∃ a b c d, l = [a, b, c, d] := by
  match l, h with
  | [a, b, c, d], _ => exact ⟨a, b, c, d, rfl⟩
def bentR (R : List (List (BitVec 8))) (a b : Nat) (y : BitVec 8) : List (List (BitVec 8)) := R.set a ((R.getD a []).set b y)
theorem all_get {R : List (List (BitVec 8))} {a b : Nat} (h : okR R = true) (ha : a < 4) (hb : b < 32) : (allD R).get [a, b] = some (.raw (u8 ((R.getD a []).getD b 0#8))) := by
  have h1 := okR_get h ha
  obtain ⟨h4, -⟩ := okR_eq.1 h
  have ha' : a < R.length := by omega
  have hg : (R.map d32D)[a]? = some (.agg (.ar 32 L8) (bs (R.getD a []))) := by simp [List.getD, ha', d32D]
  have hb' : (bs (R.getD a []))[b]? = some (.raw (u8 ((R.getD a []).getD b 0#8))) := bs_get (by omega)
  simp only [allD, D.get, hg, hb']
theorem all_set {R : List (List (BitVec 8))} {a b : Nat} {y : BitVec 8} (h : okR R = true) (ha : a < 4) (hb : b < 32) : (allD R).set [a, b] (.raw (u8 y)) = some (allD (bentR R a b y)) := by
  have h1 := okR_get h ha
  obtain ⟨h4, -⟩ := okR_eq.1 h
  have ha' : a < R.length := by omega
  have hg : (R.map d32D)[a]? = some (.agg (.ar 32 L8) (bs (R.getD a []))) := by simp [List.getD, ha', d32D]
  have hb' : (bs (R.getD a []))[b]? = some (.raw (u8 ((R.getD a []).getD b 0#8))) := bs_get (by omega)
  simp only [allD, D.set, hg, hb', bs_set, bentR, List.map_set]
  rfl
theorem bent_ok {R : List (List (BitVec 8))} {a b : Nat} (h : okR R = true) (ha : a < 4) (hb : b < 32) (y : BitVec 8) : okR (bentR R a b y) = true := by
  have h1 := okR_get h ha
  obtain ⟨h4, h32⟩ := okR_eq.1 h
  refine okR_eq.2 ⟨by simp [bentR, h4], fun x hx => ?_⟩
  rcases List.mem_or_eq_of_mem_set hx with h2 | h2
  · exact h32 x h2
  · rw [h2, List.length_set]; exact h1
theorem bent_self {R : List (List (BitVec 8))} {a b : Nat} (h : okR R = true) (ha : a < 4) (hb : b < 32) : bentR R a b ((R.getD a []).getD b 0#8) = R := by
  have h1 := okR_get h ha
  obtain ⟨h4, h32⟩ := okR_eq.1 h
  have e : (R.getD a []).set b ((R.getD a []).getD b 0#8) = R.getD a [] := by
    have hb' : b < (R.getD a []).length := by omega
    rw [List.getD_eq_getElem?_getD (l := R.getD a []), List.getElem?_eq_getElem hb', Option.getD_some, List.set_getElem_self]
  rw [bentR, e]
  have ha' : a < R.length := by omega
  rw [List.getD_eq_getElem?_getD, List.getElem?_eq_getElem ha', Option.getD_some, List.set_getElem_self]
structure QL (C1 C2 C3 C4 Cp C : Ctx) : Prop where
  aw : C.fn 4 = some fAwakeM
  nw : C.fn 5 = some fMsNew
  ex : C.fn 6 = some fExtend
  ct : C.fn 7 = some fCut
  al : C.fn 11 = some fAllR
  rm : C.fn 12 = some fRMac
  jo : C.fn 13 = some fJoin
  nu : C.fn 14 = some fNumS
  ck : C.fn 15 = some fCheckQ
  sq : C.fn 16 = some fSumQ
  sm : C.fn 17 = some fSame
  nS : C.fn 8 = none
  rS : C.fnr 8 = some (afun C1 0 r_slot_New a_slot_New)
  nL : C.fn 9 = none
  rL : C.fnr 9 = some (afun C2 4 r_slot_Slots_Lay a_slot_Slots_Lay)
  sl : SlC C1 C2
  nQ : C.fn 10 = none
  rQ : C.fnr 10 = some (afun C4 4 r_meas_Meas_Quote a_meas_Meas_Quote)
  qu : QuC C1 C2 C3 Cp C4
set_option maxHeartbeats 1000000 in
theorem quotes_law (C C1 C2 C3 C4 Cp : Ctx) (H : QL C1 C2 C3 C4 Cp C) (key : List (BitVec 8)) (hkey : key.length = 32) (acts : List D) (hal : acts.length ≤ maxLen) (hacts : ∀ d ∈ acts, ∃ (i : Int) (dp : D) (p : List (BitVec 8)), d = mactD i dp ∧ IsBs dp p ∧ p.length ≤ maxLen)
    (n0 o0 : List (BitVec 8)) (hn0 : n0.length ≤ maxLen) (ho0 : o0.length ≤ maxLen) (at_ turn : BitVec 8) :
    afun C 6 r_law16_MeasQuotes a_law16_MeasQuotes [.agg (.ar 32 L8) (bs key), .lst SMAct acts false, .lst L8 (bs n0) false, .lst L8 (bs o0) false, .raw (u8 at_), .raw (u8 turn)] [] (fun d _ => d = .raw (.bool true)) := by
  refine afun_mk rfl ?_
  unfold a_law16_MeasQuotes r_law16_MeasQuotes
  unfold maxLen at hal hacts hn0 ho0
  have zr : D.agg SMeas [.agg SAll (zR.map d32D)] = measD zR := rfl
  have zo : okR zR = true := rfl
  have mf : ∀ r, D.fits (measD r) SMeas = true := fun _ => rfl
  have af : ∀ r, D.fits (allD r) SAll = true := fun _ => rfl
  simp only [z32_eq, zR_eq, zr]
  simp only [↓amD, amU, Nat.reduceBEq, Nat.reduceAdd, Nat.reduceSub, Nat.reduceMul, Nat.reduceMod, Nat.reducePow, Nat.reduceLT, Nat.reduceDiv, Int.reduceToNat, BitVec.reduceToNat, zipEnv, Int.reduceLE, Int.reduceLT, Int.reduceNeg, BitVec.reduceEq, Int.reduceAdd, Int.reduceSub, Int.reduceMul, Nat.reduceLeDiff, Int.reduceEq, lv_app0, lv_appk, set_app0, set_appk, List.append_assoc, List.append_nil, Nat.add_assoc, H.aw, kAwakeM, H.nw, kMsNew, mf]
  refine kLoop_up acts.length (fun i env rows => has env [(31, .raw (it (i : Int))), (30, .raw (it (acts.length : Int))), (29, .lst SMAct acts false), (6, .ptr (.ar 32 L8) 0 [0]), (13, .ptr SMeas 1 [0]), (2, .lst L8 (bs n0) false), (3, .lst L8 (bs o0) false), (4, .raw (u8 at_)), (5, .raw (u8 turn))] ∧
    live rows 0 = some ⟨.ar 32 L8, [.agg (.ar 32 L8) (bs key)]⟩ ∧ ∃ R, okR R = true ∧ live rows 1 = some ⟨SMeas, [measD R]⟩) ?_ ?_ ⟨?_, rfl, zR, rfl, rfl⟩
  · rintro i hi env rows ⟨hh, l0, R, hR, l1⟩ Q hQ
    simp only [has] at hh
    have e0 : ((i : Int) < (acts.length : Int)) = True := eq_true (by omega)
    have b0 : ∀ n : Nat, ((0 : Int) ≤ (n : Int)) = True := fun n => eq_true (by omega)
    have e2 := wz_succ i (by omega)
    obtain ⟨d, hd⟩ : ∃ d, acts[i]? = some d := ⟨acts[i], List.getElem?_eq_getElem hi⟩
    obtain ⟨ii, dp, p, rfl, hbp, hpl⟩ := hacts d (List.mem_of_getElem? hd)
    have hfit : (mactD ii dp).fits SMAct = true := by simp [mactD, D.fits]
    have g1 : (mactD ii dp).get [0] = some (.raw (it ii)) := rfl
    have g2 : (mactD ii dp).get [1] = some dp := rfl
    have l0' := fun L => live_app l0 L
    have l1' := fun L => live_app l1 L
    by_cases h6 : i < 6
    · have e3 : ((i : Int) < 6) = True := eq_true (by omega)
      have kC := fun rows k => kCutI rows k dp p 40 hbp.to (by omega) (by simp only [List.length_take]; omega)
      simp only [↓amD, amU, Nat.reduceBEq, Nat.reduceAdd, Nat.reduceSub, Nat.reduceMul, Nat.reduceMod, Nat.reducePow, Nat.reduceLT, Nat.reduceDiv, Int.reduceToNat, BitVec.reduceToNat, zipEnv, Int.reduceLE, Int.reduceLT, Int.reduceNeg, BitVec.reduceEq, Int.reduceAdd, Int.reduceSub, Int.reduceMul, Nat.reduceLeDiff, Int.reduceEq, lv_app0, lv_appk, set_app0, set_appk, List.append_assoc, List.append_nil, Nat.add_assoc, hh, e0, b0, e2, e3, hd, hfit, g1, g2, l1', l0', H.ct, kC, H.ex]
      refine Eq.mpr (kExtend _ _ R ii (rows.length + 2) 1 _ _ [p.take (40 : Int).toNat] hR (by rw [lv_appk]; rfl) rfl (.cons (BsIn.own (by rw [lv_appk]; rfl) _ rfl) .nil) (by simp) (by simp only [List.flatten_cons, List.flatten_nil, List.append_nil, List.length_take]; omega)) ?_
      have hR' := extR_ok hR ii [p.take (40 : Int).toNat].flatten
      generalize extR R ii [p.take (40 : Int).toNat].flatten = R' at hR' ⊢
      generalize (bif inR ii then (0 : Int) else 1) = E
      simp only [↓amD, amU, Nat.reduceBEq, Nat.reduceAdd, Nat.reduceSub, Nat.reduceMul, Nat.reduceMod, Nat.reducePow, Nat.reduceLT, Nat.reduceDiv, Int.reduceToNat, BitVec.reduceToNat, zipEnv, Int.reduceLE, Int.reduceLT, Int.reduceNeg, BitVec.reduceEq, Int.reduceAdd, Int.reduceSub, Int.reduceMul, Nat.reduceLeDiff, Int.reduceEq, lv_app0, lv_appk, set_app0, set_appk, List.append_assoc, List.append_nil, Nat.add_assoc, hh, e2, l1', mf]
      exact hQ _ _ ⟨by simp only [has, ↓amD, amU, Nat.reduceBEq, Nat.reduceAdd, Nat.reduceSub, Nat.reduceMul, Nat.reduceMod, Nat.reducePow, Nat.reduceLT, Nat.reduceDiv, Int.reduceToNat, BitVec.reduceToNat, zipEnv, Int.reduceLE, Int.reduceLT, Int.reduceNeg, BitVec.reduceEq, Int.reduceAdd, Int.reduceSub, Int.reduceMul, Nat.reduceLeDiff, Int.reduceEq, hh], by rw [live_set_ne (by decide)]; exact l0' _, R', hR', live_set_same (l1' _)⟩
    · have e3 : ((i : Int) < 6) = False := eq_false (by omega)
      simp only [↓amD, amU, Nat.reduceBEq, Nat.reduceAdd, Nat.reduceSub, Nat.reduceMul, Nat.reduceMod, Nat.reducePow, Nat.reduceLT, Nat.reduceDiv, Int.reduceToNat, BitVec.reduceToNat, zipEnv, Int.reduceLE, Int.reduceLT, Int.reduceNeg, BitVec.reduceEq, Int.reduceAdd, Int.reduceSub, Int.reduceMul, Nat.reduceLeDiff, Int.reduceEq, lv_app0, lv_appk, set_app0, set_appk, List.append_assoc, List.append_nil, Nat.add_assoc, hh, e0, b0, e2, e3, hd, hfit]
      exact hQ _ _ ⟨by simp only [has, ↓amD, amU, Nat.reduceBEq, Nat.reduceAdd, Nat.reduceSub, Nat.reduceMul, Nat.reduceMod, Nat.reducePow, Nat.reduceLT, Nat.reduceDiv, Int.reduceToNat, BitVec.reduceToNat, zipEnv, Int.reduceLE, Int.reduceLT, Int.reduceNeg, BitVec.reduceEq, Int.reduceAdd, Int.reduceSub, Int.reduceMul, Nat.reduceLeDiff, Int.reduceEq, hh], l0' _, R, hR, l1' _⟩
  · rintro env rows ⟨hh, l0, R, hR, l1⟩ Q
    simp only [has] at hh
    have e0 : ((acts.length : Int) < (acts.length : Int)) = False := eq_false (by omega)
    have kN := fun rows k => kCutI rows k (.lst L8 (bs n0) false) n0 40 (IsBs.to (.inr ⟨_, rfl⟩)) (by omega) (by simp only [List.length_take]; omega)
    have kO := fun rows k => kCutI rows k (.lst L8 (bs o0) false) o0 40 (IsBs.to (.inr ⟨_, rfl⟩)) (by omega) (by simp only [List.length_take]; omega)
    have hn : (n0.take (40 : Int).toNat).length ≤ 40 := by simp only [List.length_take]; omega
    have ho : (o0.take (40 : Int).toNat).length ≤ 40 := by simp only [List.length_take]; omega
    generalize n0.take (40 : Int).toNat = nn at *
    generalize o0.take (40 : Int).toNat = oo at *
    simp only [↓amD, amU, Nat.reduceBEq, Nat.reduceAdd, Nat.reduceSub, Nat.reduceMul, Nat.reduceMod, Nat.reducePow, Nat.reduceLT, Nat.reduceDiv, Int.reduceToNat, BitVec.reduceToNat, zipEnv, Int.reduceLE, Int.reduceLT, Int.reduceNeg, BitVec.reduceEq, Int.reduceAdd, Int.reduceSub, Int.reduceMul, Nat.reduceLeDiff, Int.reduceEq, lv_app0, lv_appk, set_app0, set_appk, List.append_assoc, List.append_nil, Nat.add_assoc, hh, e0, H.ct, kN, kO, l0]
    have kl : Kept rows (rows ++ [some ⟨L8, bs nn⟩, some ⟨L8, bs oo⟩]) := Kept.app _ _
    have ln : live (rows ++ [some ⟨L8, bs nn⟩, some ⟨L8, bs oo⟩]) rows.length = some ⟨L8, bs nn⟩ := by rw [lv_app0]; rfl
    have lo : live (rows ++ [some ⟨L8, bs nn⟩, some ⟨L8, bs oo⟩]) (rows.length + 1) = some ⟨L8, bs oo⟩ := by rw [lv_appk]; rfl
    have l0 := kl _ _ l0
    have l1 := kl _ _ l1
    generalize rows ++ [some ⟨L8, bs nn⟩, some ⟨L8, bs oo⟩] = R1 at ln lo l0 l1 ⊢
    generalize rows.length = qn at ln lo ⊢
    simp only [↓amD, amU, Nat.reduceBEq, Nat.reduceAdd, Nat.reduceSub, Nat.reduceMul, Nat.reduceMod, Nat.reducePow, Nat.reduceLT, Nat.reduceDiv, Int.reduceToNat, BitVec.reduceToNat, zipEnv, Int.reduceLE, Int.reduceLT, Int.reduceNeg, BitVec.reduceEq, Int.reduceAdd, Int.reduceSub, Int.reduceMul, Nat.reduceLeDiff, Int.reduceEq, lv_app0, lv_appk, set_app0, set_appk, List.append_assoc, List.append_nil, Nat.add_assoc, H.nS, H.rS]
    refine snew_run C1 ?_
    have ls : live (R1 ++ [some ⟨SSl, [slotD z8]⟩]) R1.length = some ⟨SSl, [slotD z8]⟩ := by rw [lv_app0]; rfl
    have n0 := live_lt l0
    have n1 := live_lt l1
    have n2 := live_lt ln
    have n3 := live_lt lo
    have l0 := live_app l0 [some ⟨SSl, [slotD z8]⟩]
    have l1 := live_app l1 [some ⟨SSl, [slotD z8]⟩]
    have ln := live_app ln [some ⟨SSl, [slotD z8]⟩]
    have lo := live_app lo [some ⟨SSl, [slotD z8]⟩]
    generalize R1 ++ [some ⟨SSl, [slotD z8]⟩] = R2 at ls l0 l1 ln lo ⊢
    generalize R1.length = qs at ls n0 n1 n2 n3 ⊢
    simp only [↓amD, amU, Nat.reduceBEq, Nat.reduceAdd, Nat.reduceSub, Nat.reduceMul, Nat.reduceMod, Nat.reducePow, Nat.reduceLT, Nat.reduceDiv, Int.reduceToNat, BitVec.reduceToNat, zipEnv, Int.reduceLE, Int.reduceLT, Int.reduceNeg, BitVec.reduceEq, Int.reduceAdd, Int.reduceSub, Int.reduceMul, Nat.reduceLeDiff, Int.reduceEq, lv_app0, lv_appk, set_app0, set_appk, List.append_assoc, List.append_nil, Nat.add_assoc, hh, l0, H.nL, H.rL]
    refine lay_run C2 C1 H.sl (h := 2) ls rfl (by decide) rfl fun R3 hf ls => ?_
    have l0 := hf _ _ l0 (by omega)
    have l1 := hf _ _ l1 (by omega)
    have ln := hf _ _ ln (by omega)
    have lo := hf _ _ lo (by omega)
    clear hf
    have y1 : (z8.set 2 (2, key)).length = 8 := rfl
    have y2 : ((z8.set 2 (2, key)).getD 2 (0, [])) = (2, key) := rfl
    have y3 : ((z8.set 2 (2, key)).getD 1 (0, [])) = (0, z32) := rfl
    generalize z8.set 2 (2, key) = Z at y1 y2 y3 ls
    have q2 : quoE 2 = 0 := rfl
    have q0 : quoE 0 = 3 := rfl
    have d2 : decide ((2 : Int) = 0) = false := rfl
    have d0 : decide ((0 : Int) = 0) = true := rfl
    simp only [↓amD, amU, Nat.reduceBEq, Nat.reduceAdd, Nat.reduceSub, Nat.reduceMul, Nat.reduceMod, Nat.reducePow, Nat.reduceLT, Nat.reduceDiv, Int.reduceToNat, BitVec.reduceToNat, zipEnv, Int.reduceLE, Int.reduceLT, Int.reduceNeg, BitVec.reduceEq, Int.reduceAdd, Int.reduceSub, Int.reduceMul, Nat.reduceLeDiff, Int.reduceEq, lv_app0, lv_appk, set_app0, set_appk, List.append_assoc, List.append_nil, Nat.add_assoc, hh, l1, H.nQ, H.rQ]
    refine quote_run C4 C3 C2 C1 Cp H.qu (h := 2) ls y1 (by decide) (by rw [y2]; exact hkey) hR ln (by omega) fun R4 hk => ?_
    simp only [y2, q2, d2, cond_false]
    have l0 := hk _ _ l0
    have l1 := hk _ _ l1
    have ln := hk _ _ ln
    have lo := hk _ _ lo
    have ls := hk _ _ ls
    clear hk
    have hql := quoS_len key nn R
    obtain ⟨Q0, hQ0⟩ : ∃ Q0, Q0 = quoS key nn R := ⟨_, rfl⟩
    rw [← hQ0] at hql ⊢
    have n0 := live_lt l0
    have n1 := live_lt l1
    have n2 := live_lt ln
    have n3 := live_lt lo
    have n4 := live_lt ls
    have l17 : live (R4 ++ [some ⟨.ar 32 L8, [.agg (.ar 32 L8) (bs Q0)]⟩]) R4.length = some ⟨.ar 32 L8, [.agg (.ar 32 L8) (bs Q0)]⟩ := by rw [lv_app0]; rfl
    have k17 : Kept R4 (R4 ++ [some ⟨.ar 32 L8, [.agg (.ar 32 L8) (bs Q0)]⟩]) := Kept.app _ _
    simp only [↓amD, amU, Nat.reduceBEq, Nat.reduceAdd, Nat.reduceSub, Nat.reduceMul, Nat.reduceMod, Nat.reducePow, Nat.reduceLT, Nat.reduceDiv, Int.reduceToNat, BitVec.reduceToNat, zipEnv, Int.reduceLE, Int.reduceLT, Int.reduceNeg, BitVec.reduceEq, Int.reduceAdd, Int.reduceSub, Int.reduceMul, Nat.reduceLeDiff, Int.reduceEq, lv_app0, lv_appk, set_app0, set_appk, List.append_assoc, List.append_nil, Nat.add_assoc, hh]
    have l0 := k17 _ _ l0
    have l1 := k17 _ _ l1
    have ln := k17 _ _ ln
    have lo := k17 _ _ lo
    have ls := k17 _ _ ls
    clear k17
    generalize R4 ++ [some ⟨.ar 32 L8, [.agg (.ar 32 L8) (bs Q0)]⟩] = R5 at l17 l0 l1 ln lo ls ⊢
    generalize R4.length = q17 at l17 n0 n1 n2 n3 n4 ⊢
    simp only [↓amD, amU, Nat.reduceBEq, Nat.reduceAdd, Nat.reduceSub, Nat.reduceMul, Nat.reduceMod, Nat.reducePow, Nat.reduceLT, Nat.reduceDiv, Int.reduceToNat, BitVec.reduceToNat, zipEnv, Int.reduceLE, Int.reduceLT, Int.reduceNeg, BitVec.reduceEq, Int.reduceAdd, Int.reduceSub, Int.reduceMul, Nat.reduceLeDiff, Int.reduceEq, lv_app0, lv_appk, set_app0, set_appk, List.append_assoc, List.append_nil, Nat.add_assoc, hh, l1, H.nQ, H.rQ]
    refine quote_run C4 C3 C2 C1 Cp H.qu (h := 1) ls y1 (by decide) (by rw [y3]; rfl) hR ln (by omega) fun R6 hk => ?_
    simp only [y3, q0, d0, cond_true]
    have l0 := hk _ _ l0
    have l1 := hk _ _ l1
    have ln := hk _ _ ln
    have lo := hk _ _ lo
    have l17 := hk _ _ l17
    clear hk ls
    simp only [↓amD, amU, Nat.reduceBEq, Nat.reduceAdd, Nat.reduceSub, Nat.reduceMul, Nat.reduceMod, Nat.reducePow, Nat.reduceLT, Nat.reduceDiv, Int.reduceToNat, BitVec.reduceToNat, zipEnv, Int.reduceLE, Int.reduceLT, Int.reduceNeg, BitVec.reduceEq, Int.reduceAdd, Int.reduceSub, Int.reduceMul, Nat.reduceLeDiff, Int.reduceEq, lv_app0, lv_appk, set_app0, set_appk, List.append_assoc, List.append_nil, Nat.add_assoc, hh]
    have k19 : Kept R6 (R6 ++ [some ⟨.ar 32 L8, [.agg (.ar 32 L8) (bs z32)]⟩]) := Kept.app _ _
    have l0 := k19 _ _ l0
    have l1 := k19 _ _ l1
    have ln := k19 _ _ ln
    have lo := k19 _ _ lo
    have l17 := k19 _ _ l17
    clear k19
    generalize R6 ++ [some ⟨.ar 32 L8, [.agg (.ar 32 L8) (bs z32)]⟩] = R7 at l17 l0 l1 ln lo ⊢
    generalize R6.length = q19
    simp only [↓amD, amU, Nat.reduceBEq, Nat.reduceAdd, Nat.reduceSub, Nat.reduceMul, Nat.reduceMod, Nat.reducePow, Nat.reduceLT, Nat.reduceDiv, Int.reduceToNat, BitVec.reduceToNat, zipEnv, Int.reduceLE, Int.reduceLT, Int.reduceNeg, BitVec.reduceEq, Int.reduceAdd, Int.reduceSub, Int.reduceMul, Nat.reduceLeDiff, Int.reduceEq, lv_app0, lv_appk, set_app0, set_appk, List.append_assoc, List.append_nil, Nat.add_assoc, hh, l1, H.nQ, H.rQ]
    refine quoten_run C4 C3 C2 C1 Cp H.qu hR ln (by omega) fun R8 hk => ?_
    have l0 := hk _ _ l0
    have l1 := hk _ _ l1
    have ln := hk _ _ ln
    have lo := hk _ _ lo
    have l17 := hk _ _ l17
    clear hk
    simp only [↓amD, amU, Nat.reduceBEq, Nat.reduceAdd, Nat.reduceSub, Nat.reduceMul, Nat.reduceMod, Nat.reducePow, Nat.reduceLT, Nat.reduceDiv, Int.reduceToNat, BitVec.reduceToNat, zipEnv, Int.reduceLE, Int.reduceLT, Int.reduceNeg, BitVec.reduceEq, Int.reduceAdd, Int.reduceSub, Int.reduceMul, Nat.reduceLeDiff, Int.reduceEq, lv_app0, lv_appk, set_app0, set_appk, List.append_assoc, List.append_nil, Nat.add_assoc, hh]
    have k21 : Kept R8 (R8 ++ [some ⟨.ar 32 L8, [.agg (.ar 32 L8) (bs z32)]⟩]) := Kept.app _ _
    have l0 := k21 _ _ l0
    have l1 := k21 _ _ l1
    have ln := k21 _ _ ln
    have lo := k21 _ _ lo
    have l17 := k21 _ _ l17
    clear k21
    generalize R8 ++ [some ⟨.ar 32 L8, [.agg (.ar 32 L8) (bs z32)]⟩] = R9 at l17 l0 l1 ln lo ⊢
    generalize R8.length = q21
    simp only [↓amD, amU, Nat.reduceBEq, Nat.reduceAdd, Nat.reduceSub, Nat.reduceMul, Nat.reduceMod, Nat.reducePow, Nat.reduceLT, Nat.reduceDiv, Int.reduceToNat, BitVec.reduceToNat, zipEnv, Int.reduceLE, Int.reduceLT, Int.reduceNeg, BitVec.reduceEq, Int.reduceAdd, Int.reduceSub, Int.reduceMul, Nat.reduceLeDiff, Int.reduceEq, lv_app0, lv_appk, set_app0, set_appk, List.append_assoc, List.append_nil, Nat.add_assoc, hh, l1, H.al, kAllR]
    have n0 := live_lt l0
    have n2 := live_lt ln
    have n3 := live_lt lo
    have n17 := live_lt l17
    have l23 : live (R9 ++ [some ⟨SAll, [allD R]⟩, some ⟨L8, [.raw (u8 81#8), .raw (u8 85#8), .raw (u8 79#8), .raw (u8 84#8)]⟩]) R9.length = some ⟨SAll, [allD R]⟩ := by rw [lv_app0]; rfl
    have lqu : live (R9 ++ [some ⟨SAll, [allD R]⟩, some ⟨L8, [.raw (u8 81#8), .raw (u8 85#8), .raw (u8 79#8), .raw (u8 84#8)]⟩]) (R9.length + 1) = some ⟨L8, bs quo⟩ := by rw [lv_appk]; rfl
    have k23 : Kept R9 (R9 ++ [some ⟨SAll, [allD R]⟩, some ⟨L8, [.raw (u8 81#8), .raw (u8 85#8), .raw (u8 79#8), .raw (u8 84#8)]⟩]) := Kept.app _ _
    have l0 := k23 _ _ l0
    have ln := k23 _ _ ln
    have lo := k23 _ _ lo
    have l17 := k23 _ _ l17
    clear k23
    simp only [↓amD, amU, Nat.reduceBEq, Nat.reduceAdd, Nat.reduceSub, Nat.reduceMul, Nat.reduceMod, Nat.reducePow, Nat.reduceLT, Nat.reduceDiv, Int.reduceToNat, BitVec.reduceToNat, zipEnv, Int.reduceLE, Int.reduceLT, Int.reduceNeg, BitVec.reduceEq, Int.reduceAdd, Int.reduceSub, Int.reduceMul, Nat.reduceLeDiff, Int.reduceEq, lv_app0, lv_appk, set_app0, set_appk, List.append_assoc, List.append_nil, Nat.add_assoc, af]
    generalize R9 ++ [some ⟨SAll, [allD R]⟩, some ⟨L8, [.raw (u8 81#8), .raw (u8 85#8), .raw (u8 79#8), .raw (u8 84#8)]⟩] = RA at l17 l0 l23 ln lo lqu ⊢
    generalize R9.length = q23 at n0 n2 n3 n17 l23 lqu ⊢
    have nA := live_lt l23
    obtain ⟨h4, h32⟩ := okR_eq.1 hR
    obtain ⟨r0, r1, r2, r3, rfl⟩ := len4 h4
    have p0 := h32 r0 (by simp)
    have p1 := h32 r1 (by simp)
    have p2 := h32 r2 (by simp)
    have p3 := h32 r3 (by simp)
    have hfl : [quo, numI nn.length, nn, r0, r1, r2, r3].flatten = quoT nn [r0, r1, r2, r3] := by simp [quoT]
    have ht := quoT_len (nonce := nn) hR
    have l23' := fun L => live_app l23 L
    have l0' := fun L => live_app l0 L
    have ln' := fun L => live_app ln L
    have lqu' := fun L => live_app lqu L
    simp only [↓amD, amU, Nat.reduceBEq, Nat.reduceAdd, Nat.reduceSub, Nat.reduceMul, Nat.reduceMod, Nat.reducePow, Nat.reduceLT, Nat.reduceDiv, Int.reduceToNat, BitVec.reduceToNat, zipEnv, Int.reduceLE, Int.reduceLT, Int.reduceNeg, BitVec.reduceEq, Int.reduceAdd, Int.reduceSub, Int.reduceMul, Nat.reduceLeDiff, Int.reduceEq, lv_app0, lv_appk, set_app0, set_appk, List.append_assoc, List.append_nil, Nat.add_assoc, hh, H.nu, kNumS4 _ _ nn.length (by omega), H.jo]
    refine Eq.mpr (kJoin _ _ _ 7 _ _ [quo, numI nn.length, nn, r0, r1, r2, r3] (by rw [lv_appk]; rfl) rfl (.cons (BsIn.own (lqu' _) _ rfl) (.cons (BsIn.own (by rw [lv_app0]; rfl) _ rfl) (.cons (BsIn.own (ln' _) _ rfl) (.cons (BsIn.atAll (n := 32) (l23' _) rfl p0) (.cons (BsIn.atAll (n := 32) (l23' _) rfl p1) (.cons (BsIn.atAll (n := 32) (l23' _) rfl p2) (.cons (BsIn.atAll (n := 32) (l23' _) rfl p3) .nil))))))) (by simp) (by rw [hfl]; omega)) ?_
    rw [hfl]
    simp only [↓amD, amU, Nat.reduceBEq, Nat.reduceAdd, Nat.reduceSub, Nat.reduceMul, Nat.reduceMod, Nat.reducePow, Nat.reduceLT, Nat.reduceDiv, Int.reduceToNat, BitVec.reduceToNat, zipEnv, Int.reduceLE, Int.reduceLT, Int.reduceNeg, BitVec.reduceEq, Int.reduceAdd, Int.reduceSub, Int.reduceMul, Nat.reduceLeDiff, Int.reduceEq, lv_app0, lv_appk, set_app0, set_appk, List.append_assoc, List.append_nil, Nat.add_assoc, H.rm]
    refine Eq.mpr (kRMac _ _ _ _ key (quoT nn [r0, r1, r2, r3]) (BsIn.atAll (n := 32) (l0' _) rfl hkey) (BsIn.own (by rw [lv_appk]; rfl) _ rfl) (by omega) (by omega)) ?_
    have hQ1 : hmac key (quoT nn [r0, r1, r2, r3]) = Q0 := hQ0.symm
    rw [hQ1]
    have l17' := fun L => live_app l17 L
    have lo' := fun L => live_app lo L
    obtain ⟨a4, ha4⟩ : ∃ n, n = (at_ % 4#8).toNat := ⟨_, rfl⟩
    have ha4l : a4 < 4 := by rw [ha4, BitVec.toNat_umod]; exact Nat.mod_lt _ (by decide)
    obtain ⟨b32, hb32⟩ : ∃ n, n = (at_ / 4#8 % 32#8).toNat := ⟨_, rfl⟩
    have hb32l : b32 < 32 := by rw [hb32, BitVec.toNat_umod]; exact Nat.mod_lt _ (by decide)
    have i1 : ((0 : Int) ≤ (a4 : Int)) = True := eq_true (by omega)
    have i2 : ((a4 : Int) < 4) = True := eq_true (by omega)
    have i3 : ((0 : Int) ≤ (b32 : Int)) = True := eq_true (by omega)
    have i4 : ((b32 : Int) < 32) = True := eq_true (by omega)
    have gx := all_get hR ha4l hb32l
    have sx := fun y => all_set (y := y) hR ha4l hb32l
    have oB := bent_ok hR ha4l hb32l ((([r0, r1, r2, r3] : List (List (BitVec 8))).getD a4 []).getD b32 0#8 ^^^ turn)
    have hB0 : turn = 0#8 → bentR [r0, r1, r2, r3] a4 b32 ((([r0, r1, r2, r3] : List (List (BitVec 8))).getD a4 []).getD b32 0#8 ^^^ turn) = [r0, r1, r2, r3] := fun h => by
      rw [h, BitVec.xor_zero]; exact bent_self hR ha4l hb32l
    generalize ((([r0, r1, r2, r3] : List (List (BitVec 8))).getD a4 []).getD b32 0#8) = x at gx oB hB0 ⊢
    generalize hB : bentR [r0, r1, r2, r3] a4 b32 (x ^^^ turn) = B at oB hB0 ⊢
    have eQ := eqA_d32 Q0 Q0 hql hql
    simp only [↓amD, amU, Nat.reduceBEq, Nat.reduceAdd, Nat.reduceSub, Nat.reduceMul, Nat.reduceMod, Nat.reducePow, Nat.reduceLT, Nat.reduceDiv, Int.reduceToNat, BitVec.reduceToNat, zipEnv, Int.reduceLE, Int.reduceLT, Int.reduceNeg, BitVec.reduceEq, Int.reduceAdd, Int.reduceSub, Int.reduceMul, Nat.reduceLeDiff, Int.reduceEq, lv_app0, lv_appk, set_app0, set_appk, List.append_assoc, List.append_nil, Nat.add_assoc, hh, l23', af, ← ha4, ← hb32, i1, i2, i3, i4, gx, sx, hB, l17', l0', eQ, decide_true, H.ck]
    refine Eq.mpr (kCheckQ _ _ _ _ key nn [r0, r1, r2, r3] Q0 (BsIn.atAll (n := 32) (l0' _) rfl hkey) (BsIn.own (ln' _) _ rfl) (by omega) (by omega) hR hql) ?_
    rw [decide_eq_true hQ0.symm]
    simp only [↓amD, amU, Nat.reduceBEq, Nat.reduceAdd, Nat.reduceSub, Nat.reduceMul, Nat.reduceMod, Nat.reducePow, Nat.reduceLT, Nat.reduceDiv, Int.reduceToNat, BitVec.reduceToNat, zipEnv, Int.reduceLE, Int.reduceLT, Int.reduceNeg, BitVec.reduceEq, Int.reduceAdd, Int.reduceSub, Int.reduceMul, Nat.reduceLeDiff, Int.reduceEq, lv_app0, lv_appk, set_app0, set_appk, List.append_assoc, List.append_nil, Nat.add_assoc, hh, l0', l17', H.ck]
    refine Eq.mpr (kCheckQ _ _ _ _ key nn B Q0 (BsIn.atAll (n := 32) (l0' _) rfl hkey) (BsIn.own (ln' _) _ rfl) (by omega) (by omega) oB hql) ?_
    have bq : (true == true) = true := rfl
    by_cases ht0 : turn = 0#8
    · have hB1 := hB0 ht0
      rw [hB1, decide_eq_true hQ0.symm]
      simp only [↓amD, amU, Nat.reduceBEq, Nat.reduceAdd, Nat.reduceSub, Nat.reduceMul, Nat.reduceMod, Nat.reducePow, Nat.reduceLT, Nat.reduceDiv, Int.reduceToNat, BitVec.reduceToNat, zipEnv, Int.reduceLE, Int.reduceLT, Int.reduceNeg, BitVec.reduceEq, Int.reduceAdd, Int.reduceSub, Int.reduceMul, Nat.reduceLeDiff, Int.reduceEq, lv_app0, lv_appk, set_app0, set_appk, List.append_assoc, List.append_nil, Nat.add_assoc, hh, l0', l17', l23', H.ck, ht0, decide_true, bq]
      refine Eq.mpr (kCheckQ _ _ _ _ key oo [r0, r1, r2, r3] Q0 (BsIn.atAll (n := 32) (l0' _) rfl hkey) (BsIn.own (lo' _) _ rfl) (by omega) (by omega) hR hql) ?_
      simp only [↓amD, amU, Nat.reduceBEq, Nat.reduceAdd, Nat.reduceSub, Nat.reduceMul, Nat.reduceMod, Nat.reducePow, Nat.reduceLT, Nat.reduceDiv, Int.reduceToNat, BitVec.reduceToNat, zipEnv, Int.reduceLE, Int.reduceLT, Int.reduceNeg, BitVec.reduceEq, Int.reduceAdd, Int.reduceSub, Int.reduceMul, Nat.reduceLeDiff, Int.reduceEq, lv_app0, lv_appk, set_app0, set_appk, List.append_assoc, List.append_nil, Nat.add_assoc, hh, l0', l17', l23', H.sm]
      refine Eq.mpr (kSame _ _ _ _ nn oo (BsIn.own (ln' _) _ rfl) (BsIn.own (lo' _) _ rfl) (by omega) (by omega)) ?_
      by_cases hs : nn = oo
      · rw [← hs, decide_eq_true hQ0.symm, decide_eq_true rfl]
        simp only [↓amD, amU, Nat.reduceBEq, Nat.reduceAdd, Nat.reduceSub, Nat.reduceMul, Nat.reduceMod, Nat.reducePow, Nat.reduceLT, Nat.reduceDiv, Int.reduceToNat, BitVec.reduceToNat, zipEnv, Int.reduceLE, Int.reduceLT, Int.reduceNeg, BitVec.reduceEq, Int.reduceAdd, Int.reduceSub, Int.reduceMul, Nat.reduceLeDiff, Int.reduceEq, lv_app0, lv_appk, set_app0, set_appk, List.append_assoc, List.append_nil, Nat.add_assoc, hh, bq]
      · rw [decide_eq_false hs]
        simp only [↓amD, amU, Nat.reduceBEq, Nat.reduceAdd, Nat.reduceSub, Nat.reduceMul, Nat.reduceMod, Nat.reducePow, Nat.reduceLT, Nat.reduceDiv, Int.reduceToNat, BitVec.reduceToNat, zipEnv, Int.reduceLE, Int.reduceLT, Int.reduceNeg, BitVec.reduceEq, Int.reduceAdd, Int.reduceSub, Int.reduceMul, Nat.reduceLeDiff, Int.reduceEq, lv_app0, lv_appk, set_app0, set_appk, List.append_assoc, List.append_nil, Nat.add_assoc, hh, l0', l17', l23', H.sq]
        refine Eq.mpr (kSumQ _ _ _ key oo [r0, r1, r2, r3] (BsIn.own (lo' _) _ rfl) hkey (by omega) hR) ?_
        have eO := eqA_d32 (quoS key oo [r0, r1, r2, r3]) Q0 (quoS_len _ _ _) hql
        simp only [↓amD, amU, Nat.reduceBEq, Nat.reduceAdd, Nat.reduceSub, Nat.reduceMul, Nat.reduceMod, Nat.reducePow, Nat.reduceLT, Nat.reduceDiv, Int.reduceToNat, BitVec.reduceToNat, zipEnv, Int.reduceLE, Int.reduceLT, Int.reduceNeg, BitVec.reduceEq, Int.reduceAdd, Int.reduceSub, Int.reduceMul, Nat.reduceLeDiff, Int.reduceEq, lv_app0, lv_appk, set_app0, set_appk, List.append_assoc, List.append_nil, Nat.add_assoc, hh, l0', l17', l23', eO, beq_self_eq_true]
    · have e8 := eq_false ht0
      simp only [↓amD, amU, Nat.reduceBEq, Nat.reduceAdd, Nat.reduceSub, Nat.reduceMul, Nat.reduceMod, Nat.reducePow, Nat.reduceLT, Nat.reduceDiv, Int.reduceToNat, BitVec.reduceToNat, zipEnv, Int.reduceLE, Int.reduceLT, Int.reduceNeg, BitVec.reduceEq, Int.reduceAdd, Int.reduceSub, Int.reduceMul, Nat.reduceLeDiff, Int.reduceEq, lv_app0, lv_appk, set_app0, set_appk, List.append_assoc, List.append_nil, Nat.add_assoc, hh, l0', l17', l23', H.ck, e8, decide_false, H.sq]
      refine Eq.mpr (kSumQ _ _ _ key nn B (BsIn.own (ln' _) _ rfl) hkey (by omega) oB) ?_
      have eB := eqA_d32 (quoS key nn B) Q0 (quoS_len _ _ _) hql
      simp only [↓amD, amU, Nat.reduceBEq, Nat.reduceAdd, Nat.reduceSub, Nat.reduceMul, Nat.reduceMod, Nat.reducePow, Nat.reduceLT, Nat.reduceDiv, Int.reduceToNat, BitVec.reduceToNat, zipEnv, Int.reduceLE, Int.reduceLT, Int.reduceNeg, BitVec.reduceEq, Int.reduceAdd, Int.reduceSub, Int.reduceMul, Nat.reduceLeDiff, Int.reduceEq, lv_app0, lv_appk, set_app0, set_appk, List.append_assoc, List.append_nil, Nat.add_assoc, hh, l0', l17', l23', eB, beq_self_eq_true, H.ck]
      refine Eq.mpr (kCheckQ _ _ _ _ key oo [r0, r1, r2, r3] Q0 (BsIn.atAll (n := 32) (l0' _) rfl hkey) (BsIn.own (lo' _) _ rfl) (by omega) (by omega) hR hql) ?_
      simp only [↓amD, amU, Nat.reduceBEq, Nat.reduceAdd, Nat.reduceSub, Nat.reduceMul, Nat.reduceMod, Nat.reducePow, Nat.reduceLT, Nat.reduceDiv, Int.reduceToNat, BitVec.reduceToNat, zipEnv, Int.reduceLE, Int.reduceLT, Int.reduceNeg, BitVec.reduceEq, Int.reduceAdd, Int.reduceSub, Int.reduceMul, Nat.reduceLeDiff, Int.reduceEq, lv_app0, lv_appk, set_app0, set_appk, List.append_assoc, List.append_nil, Nat.add_assoc, hh, l0', l17', l23', H.sm]
      refine Eq.mpr (kSame _ _ _ _ nn oo (BsIn.own (ln' _) _ rfl) (BsIn.own (lo' _) _ rfl) (by omega) (by omega)) ?_
      by_cases hs : nn = oo
      · rw [← hs, decide_eq_true hQ0.symm, decide_eq_true rfl]
        simp only [↓amD, amU, Nat.reduceBEq, Nat.reduceAdd, Nat.reduceSub, Nat.reduceMul, Nat.reduceMod, Nat.reducePow, Nat.reduceLT, Nat.reduceDiv, Int.reduceToNat, BitVec.reduceToNat, zipEnv, Int.reduceLE, Int.reduceLT, Int.reduceNeg, BitVec.reduceEq, Int.reduceAdd, Int.reduceSub, Int.reduceMul, Nat.reduceLeDiff, Int.reduceEq, lv_app0, lv_appk, set_app0, set_appk, List.append_assoc, List.append_nil, Nat.add_assoc, hh, bq]
      · rw [decide_eq_false hs]
        simp only [↓amD, amU, Nat.reduceBEq, Nat.reduceAdd, Nat.reduceSub, Nat.reduceMul, Nat.reduceMod, Nat.reducePow, Nat.reduceLT, Nat.reduceDiv, Int.reduceToNat, BitVec.reduceToNat, zipEnv, Int.reduceLE, Int.reduceLT, Int.reduceNeg, BitVec.reduceEq, Int.reduceAdd, Int.reduceSub, Int.reduceMul, Nat.reduceLeDiff, Int.reduceEq, lv_app0, lv_appk, set_app0, set_appk, List.append_assoc, List.append_nil, Nat.add_assoc, hh, l0', l17', l23', H.sq]
        refine Eq.mpr (kSumQ _ _ _ key oo [r0, r1, r2, r3] (BsIn.own (lo' _) _ rfl) hkey (by omega) hR) ?_
        have eO := eqA_d32 (quoS key oo [r0, r1, r2, r3]) Q0 (quoS_len _ _ _) hql
        simp only [↓amD, amU, Nat.reduceBEq, Nat.reduceAdd, Nat.reduceSub, Nat.reduceMul, Nat.reduceMod, Nat.reducePow, Nat.reduceLT, Nat.reduceDiv, Int.reduceToNat, BitVec.reduceToNat, zipEnv, Int.reduceLE, Int.reduceLT, Int.reduceNeg, BitVec.reduceEq, Int.reduceAdd, Int.reduceSub, Int.reduceMul, Nat.reduceLeDiff, Int.reduceEq, lv_app0, lv_appk, set_app0, set_appk, List.append_assoc, List.append_nil, Nat.add_assoc, hh, l0', l17', l23', eO, beq_self_eq_true]
  · simp only [has, ↓amD, amU, Nat.reduceBEq, Nat.reduceAdd, Nat.reduceSub, Nat.reduceMul, Nat.reduceMod, Nat.reducePow, Nat.reduceLT, Nat.reduceDiv, Int.reduceToNat, BitVec.reduceToNat, zipEnv, Int.reduceLE, Int.reduceLT, Int.reduceNeg, BitVec.reduceEq, Int.reduceAdd, Int.reduceSub, Int.reduceMul, Nat.reduceLeDiff, Int.reduceEq]
end Job
end Go.Am
