/- the flash: the law of what is torn -/
import Derived.Test.YtgfhkmpmdfdemaaFl10
namespace Go.Am
set_option linter.unusedSimpArgs false
set_option linter.unusedVariables false
attribute [local congr] bnd_congr kCond_congr kGd_congr kPick_congr kCall_congr kIdx_congr kSlice_congr kLoop_congr cond_congr' aBin_congr aBounds_congr aApp_congr aCopy_congr kFn_congr
namespace Job
open Go.Am.F
set_option maxRecDepth 10000
theorem kPages1 {rows : Rows} {r m : Nat} {x : List (BitVec 8)} (h : FlAt rows r m x) (hx : x.length = 768) (j : Nat) (hj : j < 3) (k : D → Rows → Prop) :
    kCall fPages (rows ++ [some ⟨LI, [.raw (it (j : Int))]⟩]) k [.ptr SF r [0], .sl LI rows.length [] 0 1 true] = k (.sl L8 (rows.length + 1) [] 0 256 false) (rows ++ [some ⟨LI, [.raw (it (j : Int))]⟩, some ⟨L8, bs (sub x (256 * j) 256)⟩]) := by
  obtain ⟨e, hv⟩ := (h.push [some ⟨LI, [.raw (it (j : Int))]⟩]).view
  have := kPages hv (show x.length ≤ 1048576 by omega) (q := rows.length) (ex := true) (l := [(j : Int)]) (by rw [lv_app0]; rfl) (by simp) k
  have hP : errP (some (x, e)) (j : Int) = 0 := by simp only [errP]; rw [if_neg (by omega)]
  have hz : pgN (some (x, e)) [(j : Int)] [(j : Int)].length = sub x (256 * j) 256 := by
    show pgN (some (x, e)) [(j : Int)] (0 + 1) = _
    rw [pgN, List.getD_cons_zero, if_pos hP]
    simp [pgN, flDat]
  have hl : (sub x (256 * j) 256).length = 256 := sub_len (by omega)
  rw [hz, hl] at this
  simpa using this
theorem kAfter0 {rows : Rows} {r m : Nat} {x : List (BitVec 8)} (h : FlAt rows r m x) (hx : x.length = 768) (a : Int) (k : D → Rows → Prop) :
    kCall fAfter rows k [.ptr SF r [0], .raw (it 1), .raw (it a), .raw (.slice none 0 0)] = k (.tup [.sl L8 rows.length [] 0 256 false, .raw (it 0)]) (rows ++ [some ⟨L8, bs (List.replicate 256 255#8)⟩]) := by
  obtain ⟨e, hv⟩ := h.view
  have hP : errP (some (x, e)) 1 = 0 := by simp only [errP]; rw [if_neg (by omega)]
  have hA : errA (some (x, e)) 1 a [] = 0 := by rw [errA, if_neg (by rw [hP]; simp), if_pos rfl]
  have hf : fAfter [flD (some (x, e)), .raw (it 1), .raw (it a), .raw (.slice none 0 0)] [] = some (outA (some (x, e)) 1 a []) := by
    rw [fAfter, fn4_eq (rdOf_eq flD_inj _) (rdI_eq 1) (rdI_eq a) rdBs_nil (by simp [flLen, hx])]
  have ho : outA (some (x, e)) 1 a [] = (.tup [.sl L8 0 [] 0 256 false, .raw (it 0)], [some ⟨L8, bs (List.replicate 256 255#8)⟩]) := by
    rw [outA, if_pos hA, datA, if_pos rfl]
  rw [ho] at hf
  have hv1 : view rows 9 (.raw (it 1)) = some (.raw (it 1)) := rfl
  have hv2 : view rows 9 (.raw (it a)) = some (.raw (it a)) := rfl
  have hv3 : view rows 9 (.raw (.slice none 0 0)) = some (.raw (.slice none 0 0)) := rfl
  generalize List.replicate 256 255#8 = z at *
  unfold kCall
  simp [hasRefL, hasRef, mapO, hv, hv1, hv2, hv3, hf, bnd, shift, shiftL, shiftRows, noLst, noLstL, noLstRows, Sh.pure]
theorem kAfter1 {rows : Rows} {r m : Nat} {x : List (BitVec 8)} (h : FlAt rows r m x) (hx : x.length = 768) (a : Nat) {q : Nat} {ex : Bool} {p : List (BitVec 8)} (hq : live rows q = some ⟨L8, bs p⟩) (hp : a + p.length ≤ 256) (hc : clears ((sub x 256 256).drop a) p) (k : D → Rows → Prop)
    (hk : ∀ w : List (BitVec 8), w.length = 256 → k (.tup [.sl L8 rows.length [] 0 256 false, .raw (it 0)]) (rows ++ [some ⟨L8, bs w⟩])) :
    kCall fAfter rows k [.ptr SF r [0], .raw (it 1), .raw (it (a : Int)), .sl L8 q [] 0 p.length ex] := by
  obtain ⟨e, hv⟩ := h.view
  rw [kAfter hv (show x.length ≤ 1048576 by omega) _ _ hq (by omega)]
  have hP : errP (some (x, e)) 1 = 0 := by simp only [errP]; rw [if_neg (by omega)]
  have hs : sub (flDat (some (x, e))) (256 * (1 : Int).toNat) 256 = sub x 256 256 := rfl
  have hA : errA (some (x, e)) 1 (a : Int) p = 0 := by
    rw [errA, if_neg (by rw [hP]; simp)]
    split
    · rfl
    · rw [if_neg (by omega), hs, Int.toNat_natCast, if_pos hc]
  have hD : (datA (some (x, e)) 1 (a : Int) p).length = 256 := by
    rw [datA, hs]
    split
    · exact List.length_replicate
    · rw [splice_len _ _ _ (by rw [sub_len (by omega), Int.toNat_natCast]; omega), sub_len (by omega)]
  have := hk _ hD
  rw [outA, if_pos hA]
  simpa only [shift, shiftL, shiftRows, Sh.pure, cond_true, Nat.zero_add] using this
/-- between -/
theorem teV_btw (l w k : BitVec 8) : (teV l w k ^^^ l) &&& (teV l w k ^^^ w) = 0#8 := by
  apply BitVec.eq_of_getLsbD_eq
  intro i hi
  simp only [teV, BitVec.getLsbD_and, BitVec.getLsbD_xor, BitVec.getLsbD_or, BitVec.getLsbD_not, hi, decide_true, Bool.true_and, BitVec.getLsbD_zero]
  cases l.getLsbD i <;> cases w.getLsbD i <;> cases k.getLsbD i <;> rfl
theorem xor_and0 (b w : BitVec 8) : (b ^^^ b) &&& (b ^^^ w) = 0#8 := by simp
theorem te_at (x w k : List (BitVec 8)) (hx : x.length = 768) (t : Nat) : (teX x 1 w k).getD t 0#8 = if 256 ≤ t ∧ t < 256 + teM w k then teV (x.getD t 0#8) (w.getD (t - 256) 0#8) (k.getD (t - 256) 0#8) else x.getD t 0#8 := by
  have h0 : erE x 1 = 0 := by simp only [erE, errP]; rw [if_neg (by omega)]
  have hM : teM w k ≤ 256 := by unfold teM; omega
  have hX : teX x 1 w k = teN x 1 w k (teM w k) := by rw [teX, if_pos h0]; rfl
  rw [hX, teN_get _ _ _ _ _ _ (by omega)]
theorem er1 (x : List (BitVec 8)) (hx : x.length = 768) : erE x 1 = 0 := by simp only [erE, errP]; rw [if_neg (by omega)]
theorem btw (x w k : List (BitVec 8)) (hx : x.length = 768) (j : Nat) (hj : j < 256) :
    ((sub (teX x 1 w k) 256 256).getD j 0#8 ^^^ (sub x 256 256).getD j 0#8) &&& ((sub (teX x 1 w k) 256 256).getD j 0#8 ^^^ w.getD j 0#8) = 0#8 := by
  rw [sub_get _ _ _ _ hj, sub_get _ _ _ _ hj, te_at _ _ _ hx]
  split
  · rw [Nat.add_sub_cancel_left]; exact teV_btw _ _ _
  · exact xor_and0 _ _
/-- what stays -/
def Keep (x : List (BitVec 8)) : Prop := x.length = 768 ∧ x.getD 0 0#8 = 1#8 ∧ x.getD 1 0#8 = 2#8 ∧ x.getD 2 0#8 = 3#8 ∧ ∀ t, 512 ≤ t → t < 768 → x.getD t 0#8 = 255#8
theorem Keep.te {x : List (BitVec 8)} (h : Keep x) (w k : List (BitVec 8)) : Keep (teX x 1 w k) := by
  obtain ⟨h1, h2, h3, h4, h5⟩ := h
  have hM : teM w k ≤ 256 := by unfold teM; omega
  refine ⟨by rw [teX_len, h1], ?_, ?_, ?_, fun t ht ht2 => ?_⟩
  · rw [te_at _ _ _ h1, if_neg (by omega), h2]
  · rw [te_at _ _ _ h1, if_neg (by omega), h3]
  · rw [te_at _ _ _ h1, if_neg (by omega), h4]
  · rw [te_at _ _ _ h1, if_neg (by omega), h5 t ht ht2]
theorem first3 (p k : List (BitVec 8)) : wrE (teX (List.replicate 768 255#8) 1 p k) 0 [1#8, 2#8, 3#8] = 0 ∧ Keep (wrX (teX (List.replicate 768 255#8) 1 p k) 0 [1#8, 2#8, 3#8]) := by
  have hl : (List.replicate 768 255#8).length = 768 := List.length_replicate
  have hte := te_at (List.replicate 768 255#8) p k hl
  have htl := teX_len (List.replicate 768 255#8) 1 p k
  have hr : ∀ t, t < 768 → (List.replicate 768 255#8).getD t 0#8 = 255#8 := fun t ht => rep255 _ _ ht
  have hM : teM p k ≤ 256 := by unfold teM; omega
  rw [hl] at htl
  generalize List.replicate 768 255#8 = z at *
  generalize teX z 1 p k = x at *
  have hlo : ∀ t, t < 768 → ¬ (256 ≤ t ∧ t < 256 + teM p k) → x.getD t 0#8 = 255#8 := fun t ht hn => by rw [hte, if_neg hn, hr t ht]
  have hw := wr_ok (x := x) (a := 0) (p := [1#8, 2#8, 3#8]) (by rw [htl]; decide) (fun i hi => by
    unfold clr1
    rw [List.drop_zero, hlo i (by simp at hi; omega) (by simp at hi; omega)]
    have : ∀ b : BitVec 8, b &&& ~~~255#8 = 0#8 := by decide +kernel
    exact this _)
  have hsp : ∀ t, (splice x 0 [1#8, 2#8, 3#8]).getD t 0#8 = if 0 ≤ t ∧ t < 0 + [1#8, 2#8, 3#8].length then [1#8, 2#8, 3#8].getD (t - 0) 0#8 else x.getD t 0#8 := fun t => splice_get x [1#8, 2#8, 3#8] 0 t (by rw [htl]; decide)
  rw [show ((0 : Nat) : Int) = 0 from rfl] at hw
  refine ⟨hw.1, ?_⟩
  rw [hw.2]
  refine ⟨by rw [splice_len _ _ _ (by rw [htl]; decide), htl], by rw [hsp]; rfl, by rw [hsp]; rfl, by rw [hsp]; rfl, fun t ht ht2 => ?_⟩
  rw [hsp, if_neg (by simp; omega)]
  exact hlo t ht2 (by omega)
theorem Keep.three {x : List (BitVec 8)} (h : Keep x) : (sub x 0 256).take 3 = [1#8, 2#8, 3#8] := by
  obtain ⟨h1, h2, h3, h4, -⟩ := h
  match x, h1, h2, h3, h4 with
  | a :: b :: c :: l, _, h2, h3, h4 =>
    simp at h2 h3 h4
    subst h2; subst h3; subst h4
    simp [sub]
theorem Keep.blank {x : List (BitVec 8)} (h : Keep x) (e : Bool) : blankB (some (x, e)) 2 1 = true := by
  have := blank_in (x := x) (e := e) (f := 2) (p := 1) (by omega) (by omega) (by rw [h.1]; omega)
  rw [show ((2 : Nat) : Int) = 2 from rfl, show ((1 : Nat) : Int) = 1 from rfl] at this
  rw [this]
  classical
  refine decide_eq_true fun i hi => ?_
  rw [sub_len (by rw [h.1]; omega)] at hi
  rw [sub_get _ _ _ _ (by omega)]
  exact h.2.2.2.2 _ (by omega) (by omega)
theorem tear_w {x : List (BitVec 8)} (hx : x.length = 768) (w : List (BitVec 8)) (hw : w.length = 256) (kk : List (BitVec 8)) (hkk : kk = List.replicate 256 255#8) : sub (teX x 1 w kk) 256 256 = w := by
  have hkl : kk.length = 256 := by rw [hkk, List.length_replicate]
  have hkg : ∀ t, t < 256 → kk.getD t 0#8 = 255#8 := fun t ht => by rw [hkk]; exact rep255 _ _ ht
  have hM : teM w kk = 256 := by unfold teM; omega
  clear hkk
  have := sub_ext (teX x 1 w kk) w 256 (by rw [teX_len]; omega) (fun i hi => by
    rw [te_at _ _ _ hx, if_pos (by omega), Nat.add_sub_cancel_left, hkg _ (by omega), teV_all])
  rwa [hw] at this
set_option maxHeartbeats 4000000 in
theorem tears_law (C : Ctx) (h : FlC C) (ha : C.fn 8 = some fAwake) (haf : C.fn 19 = some fAfter) (hrn : C.fn 21 = some fRNew) (hpg : C.fn 22 = some fPages) (p q : List (BitVec 8)) (at_ : BitVec 8) (ms : List D) (er : Bool) (hp : p.length ≤ maxLen) (hq : q.length ≤ maxLen) (hml : ms.length ≤ maxLen) (hms : ∀ d ∈ ms, ∃ b : List (BitVec 8), IsBs d b ∧ b.length ≤ maxLen) :
    afun C 5 r_law12_FlashTears a_law12_FlashTears [.lst L8 (bs p) false, .lst L8 (bs q) false, .raw (u8 at_), .lst .ref ms false, .raw (.bool er)] [] (fun d _ => d = .raw (.bool true)) := by
  refine afun_mk rfl ?_
  unfold a_law12_FlashTears r_law12_FlashTears
  unfold maxLen at hp hq hml hms
  have kaw := fun rows k => kAwake rows k (F := fAwake) rfl
  have h256 : Int.toNat 256 = 256 := rfl
  have h300 : Int.toNat 300 = 300 := rfl
  obtain ⟨a, hadef⟩ : ∃ a, a = at_.toNat := ⟨_, rfl⟩
  have ha2 : a < 256 := by rw [hadef]; exact at_.isLt
  have k1 := fun rows k => kCutI rows k (.lst L8 (bs p) false) p 256 (IsBs.to (.inr ⟨false, rfl⟩)) (by omega) (by simp; omega)
  have k2 := fun rows k => kCutI rows k (.lst L8 (bs q) false) q ((256 - a : Nat) : Int) (IsBs.to (.inr ⟨false, rfl⟩)) (by omega) (by simp; omega)
  simp only [h256, Int.toNat_natCast] at k1 k2
  have hpl : (p.take 256).length ≤ 256 := by simp; omega
  have hql : (q.take (256 - a)).length ≤ 256 - a := by simp; omega
  have knw := fun R K => kRNew R K 1 (by omega)
  rw [show ((1 : Nat) : Int) = 1 from rfl, show 256 * 1 = 256 from rfl] at knw
  obtain ⟨kk, hkk⟩ : ∃ kk, kk = List.replicate 256 255#8 := ⟨_, rfl⟩
  have hkl : kk.length = 256 := by rw [hkk, List.length_replicate]
  rw [← hkk] at knw
  simp only [↓amD, amU, Nat.reduceBEq, Nat.reduceAdd, Nat.reduceSub, Nat.reduceMul, Nat.reduceMod, Nat.reducePow, Nat.reduceLT, Nat.reduceDiv, Int.reduceToNat, BitVec.reduceToNat, zipEnv, Int.reduceLE, Int.reduceLT, Int.reduceNeg, BitVec.reduceEq, Int.reduceAdd, Int.reduceSub, Int.reduceMul, Nat.reduceLeDiff, Int.reduceEq, ha, kaw, h.n9, h.r9]
  refine newA (rows := []) 3 (by omega) fun R0 r m hM => ?_
  have hF : FlAt R0 r m (List.replicate 768 255#8) := hM.fl
  have lt0 := hF.lt
  have f3 := first3 (p.take 256) kk
  generalize p.take 256 = p at *
  generalize q.take (256 - a) = q at *
  simp only [↓amD, amU, Nat.reduceBEq, Nat.reduceAdd, Nat.reduceSub, Nat.reduceMul, Nat.reduceMod, Nat.reducePow, Nat.reduceLT, Nat.reduceDiv, Int.reduceToNat, BitVec.reduceToNat, zipEnv, Int.reduceLE, Int.reduceLT, Int.reduceNeg, BitVec.reduceEq, Int.reduceAdd, Int.reduceSub, Int.reduceMul, Nat.reduceLeDiff, Int.reduceEq, lv_app0, lv_appk, set_app0, set_appk, List.append_assoc, List.append_nil, Nat.add_assoc, h.cut, k1, hrn, knw, h.n20, h.r20]
  have ta := fun K => tearA (K := K) (rows := R0 ++ [some ⟨L8, bs p⟩, some ⟨L8, bs kk⟩]) (ex1 := false) (ex2 := false) (w := p) (k := kk) (q1 := R0.length) (q2 := R0.length + 1) (hF.push _) (by simp) (by rw [lv_app0]; rfl) (by rw [lv_appk]; rfl) (by omega) (by omega) (by omega) (by omega) 1
  rw [hkl] at ta
  refine ta _ fun R1 U1 => ?_
  have hF1 := U1.fl
  have hx1 := teX_len (List.replicate 768 255#8) 1 p kk
  rw [List.length_replicate] at hx1
  generalize teX (List.replicate 768 255#8) 1 p kk = x1 at *
  generalize hge : erE (List.replicate 768 255#8) 1 = ee at *
  clear hge
  simp only [↓amD, amU, Nat.reduceBEq, Nat.reduceAdd, Nat.reduceSub, Nat.reduceMul, Nat.reduceMod, Nat.reducePow, Nat.reduceLT, Nat.reduceDiv, Int.reduceToNat, BitVec.reduceToNat, zipEnv, Int.reduceLE, Int.reduceLT, Int.reduceNeg, BitVec.reduceEq, Int.reduceAdd, Int.reduceSub, Int.reduceMul, Nat.reduceLeDiff, Int.reduceEq, lv_app0, lv_appk, set_app0, set_appk, List.append_assoc, List.append_nil, Nat.add_assoc, h.n14, h.r14]
  refine writeA (p := [1#8, 2#8, 3#8]) (hF1.push _) (by rw [lv_app0]; rfl) (by omega) (by decide) 0 fun R2 U2 => ?_
  have hF2 := U2.fl
  have hK := f3.2
  rw [f3.1]
  generalize wrX x1 0 [1#8, 2#8, 3#8] = x at *
  have kp1 := fun k => kPages1 hF2 hK.1 1 (by omega) k
  rw [show ((1 : Nat) : Int) = 1 from rfl, show 256 * 1 = 256 from rfl] at kp1
  have e1 : wz (256 - (a : Int)) = ((256 - a : Nat) : Int) := by rw [wz_id (by omega)]; omega
  simp only [↓amD, amU, Nat.reduceBEq, Nat.reduceAdd, Nat.reduceSub, Nat.reduceMul, Nat.reduceMod, Nat.reducePow, Nat.reduceLT, Nat.reduceDiv, Int.reduceToNat, BitVec.reduceToNat, zipEnv, Int.reduceLE, Int.reduceLT, Int.reduceNeg, BitVec.reduceEq, Int.reduceAdd, Int.reduceSub, Int.reduceMul, Nat.reduceLeDiff, Int.reduceEq, lv_app0, lv_appk, set_app0, set_appk, List.append_assoc, List.append_nil, Nat.add_assoc, hpg, kp1, h.cut, ← hadef, e1, k2]
  have lt2 := hF2.lt
  have hwl : (sub x 256 256).length = 256 := sub_len (by rw [hK.1]; omega)
  have hF3 := hF2.push [some ⟨LI, [.raw (it 1)]⟩, some ⟨L8, bs (sub x 256 256)⟩, some ⟨L8, bs q⟩]
  have lw : live (R2 ++ [some ⟨LI, [.raw (it 1)]⟩, some ⟨L8, bs (sub x 256 256)⟩, some ⟨L8, bs q⟩]) (R2.length + 1) = some ⟨L8, bs (sub x 256 256)⟩ := by rw [lv_appk]; rfl
  have lq : live (R2 ++ [some ⟨LI, [.raw (it 1)]⟩, some ⟨L8, bs (sub x 256 256)⟩, some ⟨L8, bs q⟩]) (R2.length + 2) = some ⟨L8, bs q⟩ := by rw [lv_appk]; rfl
  generalize hn2 : R2.length = n2 at *
  generalize R2 ++ [some ⟨LI, [.raw (it 1)]⟩, some ⟨L8, bs (sub x 256 256)⟩, some ⟨L8, bs q⟩] = R3 at *
  refine kLoop_up q.length (fun i env rows => has env [(47, .raw (it (i : Int))), (46, .raw (it (q.length : Int))), (1, .sl L8 (n2 + 2) [] 0 q.length false), (13, .sl L8 (n2 + 1) [] 0 256 false), (2, .raw (u8 at_)), (11, .ptr SF r [0]), (3, .lst .ref ms false), (4, .raw (.bool er))] ∧
    FlAt rows r m x ∧ live rows (n2 + 1) = some ⟨L8, bs (sub x 256 256)⟩ ∧ ∃ l : List (BitVec 8), l.length = q.length ∧ live rows (n2 + 2) = some ⟨L8, bs l⟩ ∧ ∀ j, j < i → l.getD j 0#8 &&& ~~~ (sub x 256 256).getD (a + j) 0#8 = 0#8) ?_ ?_ ⟨?_, hF3, lw, q, rfl, lq, fun j hj => by omega⟩
  · rintro i hi env rows ⟨hh, hF, lw, l, hll, lq, hc⟩ R hR
    simp only [has] at hh
    obtain ⟨h47, h46, h1, h13, h2, h11, h3, h4, -⟩ := hh
    have e0 : ((i : Int) < (q.length : Int)) = True := eq_true (by omega)
    have b0 : ∀ n : Nat, ((0 : Int) ≤ (n : Int)) = True := fun n => eq_true (by omega)
    have e2 := wz_succ i (by omega)
    have e3 : wz ((a : Int) + (i : Int)) = ((a + i : Nat) : Int) := by rw [wz_id (by omega)]; omega
    have e4 : (((a + i : Nat) : Int) < 256) = True := eq_true (by omega)
    have t1 : (bs l)[i]? = some (.raw (u8 (l.getD i 0#8))) := bs_get (by omega)
    have t2 : (bs (sub x 256 256))[a + i]? = some (.raw (u8 ((sub x 256 256).getD (a + i) 0#8))) := bs_get (by omega)
    simp only [↓amD, amU, Nat.reduceBEq, Nat.reduceAdd, Nat.reduceSub, Nat.reduceMul, Nat.reduceMod, Nat.reducePow, Nat.reduceLT, Nat.reduceDiv, Int.reduceToNat, BitVec.reduceToNat, zipEnv, Int.reduceLE, Int.reduceLT, Int.reduceNeg, BitVec.reduceEq, Int.reduceAdd, Int.reduceSub, Int.reduceMul, Nat.reduceLeDiff, Int.reduceEq, h47, h46, h1, h13, h2, h11, h3, h4, ← hadef, e0, b0, e2, e3, e4, lq, lw, t1, t2, bs_set, decide_true]
    refine hR _ _ ⟨by simp only [has, ↓amD, amU, Nat.reduceBEq, Nat.reduceAdd, Nat.reduceSub, Nat.reduceMul, Nat.reduceMod, Nat.reducePow, Nat.reduceLT, Nat.reduceDiv, Int.reduceToNat, BitVec.reduceToNat, zipEnv, Int.reduceLE, Int.reduceLT, Int.reduceNeg, BitVec.reduceEq, Int.reduceAdd, Int.reduceSub, Int.reduceMul, Nat.reduceLeDiff, Int.reduceEq, h46, h1, h13, h2, h11, h3, h4], hF.set (by omega) (by omega), live_set_o lw (by omega), l.set i (l.getD i 0#8 &&& (sub x 256 256).getD (a + i) 0#8), by rw [List.length_set, hll], live_set_eq lq, fun j hj => ?_⟩
    rw [set_get _ _ _ _ (by omega)]
    split
    · rename_i he
      subst he
      have : ∀ b c : BitVec 8, (b &&& c) &&& ~~~c = 0#8 := fun b c => by
        apply BitVec.eq_of_getLsbD_eq
        intro i hi
        simp only [BitVec.getLsbD_and, BitVec.getLsbD_not, hi, decide_true, Bool.true_and, BitVec.getLsbD_zero]
        cases b.getLsbD i <;> cases c.getLsbD i <;> rfl
      exact this _ _
    · exact hc j (by omega)
  · rintro env rows ⟨hh, hF, lw, l, hll, lq, hc⟩ R
    simp only [has] at hh
    obtain ⟨h47, h46, h1, h13, h2, h11, h3, h4, -⟩ := hh
    have e0 : ((q.length : Int) < (q.length : Int)) = False := eq_false (by omega)
    have ltf := hF.lt
    have hcl : clears ((sub x 256 256).drop a) l := fun i hi => by
      unfold clr1
      rw [drop_get]
      exact hc i (by omega)
    have ka0 := fun k => kAfter0 hF hK.1 (a : Int) k
    rw [← hkk] at ka0
    cases er
    · simp only [↓amD, amU, Nat.reduceBEq, Nat.reduceAdd, Nat.reduceSub, Nat.reduceMul, Nat.reduceMod, Nat.reducePow, Nat.reduceLT, Nat.reduceDiv, Int.reduceToNat, BitVec.reduceToNat, zipEnv, Int.reduceLE, Int.reduceLT, Int.reduceNeg, BitVec.reduceEq, Int.reduceAdd, Int.reduceSub, Int.reduceMul, Nat.reduceLeDiff, Int.reduceEq, h47, h46, h1, h13, h2, h11, h3, h4, ← hadef, e0, haf, decide_false]
      rw [← hll]
      refine kAfter1 hF hK.1 a lq (by omega) hcl _ fun w hw => ?_
      try simp only [↓amD, amU, Nat.reduceBEq, Nat.reduceAdd, Nat.reduceSub, Nat.reduceMul, Nat.reduceMod, Nat.reducePow, Nat.reduceLT, Nat.reduceDiv, Int.reduceToNat, BitVec.reduceToNat, zipEnv, Int.reduceLE, Int.reduceLT, Int.reduceNeg, BitVec.reduceEq, Int.reduceAdd, Int.reduceSub, Int.reduceMul, Nat.reduceLeDiff, Int.reduceEq, lv_app0, lv_appk, set_app0, set_appk, List.append_assoc, List.append_nil, Nat.add_assoc, h13, h3, h11]
      have hF4 := hF.push [some ⟨L8, bs w⟩]
      have lw4 := live_app lw [some ⟨L8, bs w⟩]
      have lww : live (rows ++ [some ⟨L8, bs w⟩]) rows.length = some ⟨L8, bs w⟩ := by rw [lv_app0]; rfl
      have bww : m < rows.length := ltf.2
      generalize hqw : rows.length = qw at *
      generalize rows ++ [some ⟨L8, bs w⟩] = R5 at *
      refine kLoop_up ms.length (fun i env rows => has env [(83, .raw (it (i : Int))), (82, .raw (it (ms.length : Int))), (81, .lst .ref ms false), (11, .ptr SF r [0]), (15, .sl L8 qw [] 0 256 false)] ∧
        ∃ (ql : Nat) (x : List (BitVec 8)), look env 17 = some (.sl L8 ql [] 0 256 false) ∧ FlAt rows r m x ∧ Keep x ∧ live rows qw = some ⟨L8, bs w⟩ ∧ live rows ql = some ⟨L8, bs (sub x 256 256)⟩ ∧ m ≠ ql) ?_ ?_ ⟨?_, n2 + 1, x, ?_, hF4, hK, lww, lw4, by omega⟩
      · rintro i hi env rows ⟨hh, ql, x, h17, hF, hK, lww, lql, nql⟩ R hR
        simp only [has] at hh
        obtain ⟨h83, h82, h81, h11, h15, -⟩ := hh
        have e0 : ((i : Int) < (ms.length : Int)) = True := eq_true (by omega)
        have b0 : ∀ n : Nat, ((0 : Int) ≤ (n : Int)) = True := fun n => eq_true (by omega)
        have e2 := wz_succ i (by omega)
        obtain ⟨d, hd⟩ : ∃ d, ms[i]? = some d := ⟨ms[i], List.getElem?_eq_getElem hi⟩
        obtain ⟨b, hbb, hbl⟩ := hms d (List.mem_of_getElem? hd)
        have hfit : d.fits .ref = true := by rcases hbb with ⟨rfl, _⟩ | ⟨e, rfl⟩ <;> rfl
        by_cases h6 : 6 ≤ i
        · have e6 : ((6 : Int) ≤ (i : Int)) = True := eq_true (by omega)
          simp only [↓amD, amU, Nat.reduceBEq, Nat.reduceAdd, Nat.reduceSub, Nat.reduceMul, Nat.reduceMod, Nat.reducePow, Nat.reduceLT, Nat.reduceDiv, Int.reduceToNat, BitVec.reduceToNat, zipEnv, Int.reduceLE, Int.reduceLT, Int.reduceNeg, BitVec.reduceEq, Int.reduceAdd, Int.reduceSub, Int.reduceMul, Nat.reduceLeDiff, Int.reduceEq, h83, h82, h81, h11, h15, h17, e0, e2, e6, b0, hd, hfit, decide_true]
          have ltg := hF.lt
          have bwg := live_lt lww
          simp only [↓amD, amU, Nat.reduceBEq, Nat.reduceAdd, Nat.reduceSub, Nat.reduceMul, Nat.reduceMod, Nat.reducePow, Nat.reduceLT, Nat.reduceDiv, Int.reduceToNat, BitVec.reduceToNat, zipEnv, Int.reduceLE, Int.reduceLT, Int.reduceNeg, BitVec.reduceEq, Int.reduceAdd, Int.reduceSub, Int.reduceMul, Nat.reduceLeDiff, Int.reduceEq, lv_app0, lv_appk, set_app0, set_appk, List.append_assoc, List.append_nil, Nat.add_assoc, h11, h15, hrn, knw, h.n20, h.r20]
          have ta := fun K => tearA (K := K) (rows := rows ++ [some ⟨L8, bs kk⟩]) (ex1 := false) (ex2 := false) (w := w) (k := kk) (q1 := qw) (q2 := rows.length) (hF.push _) (by rw [hK.1]; omega) (live_push lww) (by rw [lv_app0]; rfl) (by omega) (by omega) (by omega) (by omega) 1
          rw [hw, hkl] at ta
          refine ta _ fun R8 U8 => ?_
          have hF8 := U8.fl
          have hK8 := hK.te w kk
          have lw8 := U8.frame _ _ (live_push lww) (by omega)
          have htw := tear_w hK.1 w hw kk hkk
          rw [er1 x hK.1]
          generalize teX x 1 w kk = x8 at *
          have kp8 := fun k => kPages1 hF8 hK8.1 1 (by omega) k
          rw [show ((1 : Nat) : Int) = 1 from rfl, show 256 * 1 = 256 from rfl, htw] at kp8
          have ks8 := fun k => kSame (R8 ++ [some ⟨LI, [.raw (it 1)]⟩, some ⟨L8, bs w⟩]) k (.sl L8 (R8.length + 1) [] 0 256 false) (.sl L8 qw [] 0 256 false) w w (BsIn.own (by rw [lv_appk]; rfl) _ hw.symm) (BsIn.own (live_push lw8) _ hw.symm) (by omega) (by omega)
          have hF9 := hF8.push [some ⟨LI, [.raw (it 1)]⟩, some ⟨L8, bs w⟩]
          have kp9 := fun k => kPages1 hF9 hK8.1 0 (by omega) k
          simp only [List.append_assoc, List.cons_append, List.nil_append, List.length_append, List.length_cons, List.length_nil, Nat.zero_add, Nat.add_assoc, Nat.reduceAdd, Nat.mul_zero, Int.natCast_zero, Int.ofNat_zero] at kp9
          have hz0 : ((0 : Nat) : Int) = 0 := rfl
          have ks9 := fun k ex => kSame (R8 ++ [some ⟨LI, [.raw (it 1)]⟩, some ⟨L8, bs w⟩, some ⟨LI, [.raw (it 0)]⟩, some ⟨L8, bs (sub x8 0 256)⟩, some ⟨L8, [.raw (u8 1#8), .raw (u8 2#8), .raw (u8 3#8)]⟩]) k (.sl L8 (R8.length + 3) [] 0 3 ex) (.sl L8 (R8.length + 4) [] 0 3 true) (((sub x8 0 256).drop 0).take 3) [1#8, 2#8, 3#8] (BsIn.sub (by rw [lv_appk]; rfl) (by rw [sub_len (by rw [hK8.1]; omega)]; omega)) (BsIn.own (l := [1#8, 2#8, 3#8]) (by rw [lv_appk]; rfl) _ rfl) (by rw [List.length_take]; omega) (by decide)
          simp only [List.drop_zero, hK8.three, decide_true] at ks9
          obtain ⟨e8, hi8⟩ := (hF8.push [some ⟨LI, [.raw (it 1)]⟩, some ⟨L8, bs w⟩, some ⟨LI, [.raw (it 0)]⟩, some ⟨L8, bs (sub x8 0 256)⟩, some ⟨L8, [.raw (u8 1#8), .raw (u8 2#8), .raw (u8 3#8)]⟩]).to
          have kb8 := fun k => kBlank hi8 (show x8.length ≤ 1048576 by rw [hK8.1]; omega) 2 1 k
          rw [hK8.blank] at kb8
          simp only [↓amD, amU, Nat.reduceBEq, Nat.reduceAdd, Nat.reduceSub, Nat.reduceMul, Nat.reduceMod, Nat.reducePow, Nat.reduceLT, Nat.reduceDiv, Int.reduceToNat, BitVec.reduceToNat, zipEnv, Int.reduceLE, Int.reduceLT, Int.reduceNeg, BitVec.reduceEq, Int.reduceAdd, Int.reduceSub, Int.reduceMul, Nat.reduceLeDiff, Int.reduceEq, lv_app0, lv_appk, set_app0, set_appk, List.append_assoc, List.append_nil, Nat.add_assoc, h11, h15, hpg, kp8, h.same, ks8, kp9, ks9, h.bl, kb8, decide_true]
        · have e6 : ((6 : Int) ≤ (i : Int)) = False := eq_false (by omega)
          have kc := fun k => kCutI rows k d b 300 hbb.to (by omega) (by simp; omega)
          simp only [h300] at kc
          have hb3 : (b.take 300).length ≤ 300 := by simp; omega
          simp only [↓amD, amU, Nat.reduceBEq, Nat.reduceAdd, Nat.reduceSub, Nat.reduceMul, Nat.reduceMod, Nat.reducePow, Nat.reduceLT, Nat.reduceDiv, Int.reduceToNat, BitVec.reduceToNat, zipEnv, Int.reduceLE, Int.reduceLT, Int.reduceNeg, BitVec.reduceEq, Int.reduceAdd, Int.reduceSub, Int.reduceMul, Nat.reduceLeDiff, Int.reduceEq, lv_app0, lv_appk, set_app0, set_appk, List.append_assoc, List.append_nil, Nat.add_assoc, h83, h82, h81, h11, h15, h17, e0, e6, b0, hd, hfit, h.cut, kc, h.n20, h.r20, decide_true, decide_false]
          generalize b.take 300 = b at *
          have ltf := hF.lt
          have bl := live_lt lql
          have bw := live_lt lww
          have ta := fun K => tearA (K := K) (rows := rows ++ [some ⟨L8, bs b⟩]) (ex1 := false) (ex2 := false) (w := w) (k := b) (q1 := qw) (q2 := rows.length) (hF.push _) (by rw [hK.1]; omega) (live_push lww) (by rw [lv_app0]; rfl) (by omega) (by omega) (by omega) (by omega) 1
          rw [hw] at ta
          refine ta _ fun R6 U6 => ?_
          have hF6 := U6.fl
          have hK6 := hK.te w b
          have lww6 := U6.frame _ _ (live_push lww) (by omega)
          have lql6 := U6.frame _ _ (live_push lql) (by omega)
          have hbt := fun j hj => btw x w b hK.1 j hj
          rw [er1 x hK.1]
          have hsl : (sub x 256 256).length = 256 := sub_len (by rw [hK.1]; omega)
          generalize teX x 1 w b = x' at *
          have hsl6 : (sub x' 256 256).length = 256 := sub_len (by rw [hK6.1]; omega)
          have kp6 := fun k => kPages1 hF6 hK6.1 1 (by omega) k
          rw [show ((1 : Nat) : Int) = 1 from rfl, show 256 * 1 = 256 from rfl] at kp6
          simp only [↓amD, amU, Nat.reduceBEq, Nat.reduceAdd, Nat.reduceSub, Nat.reduceMul, Nat.reduceMod, Nat.reducePow, Nat.reduceLT, Nat.reduceDiv, Int.reduceToNat, BitVec.reduceToNat, zipEnv, Int.reduceLE, Int.reduceLT, Int.reduceNeg, BitVec.reduceEq, Int.reduceAdd, Int.reduceSub, Int.reduceMul, Nat.reduceLeDiff, Int.reduceEq, lv_app0, lv_appk, set_app0, set_appk, List.append_assoc, List.append_nil, Nat.add_assoc, h11, h15, h17, hpg, kp6]
          have lt6 := hF6.lt
          have hF7 := hF6.push [some ⟨LI, [.raw (it 1)]⟩, some ⟨L8, bs (sub x' 256 256)⟩]
          have lw7 := live_app lww6 [some ⟨LI, [.raw (it 1)]⟩, some ⟨L8, bs (sub x' 256 256)⟩]
          have lq7 := live_app lql6 [some ⟨LI, [.raw (it 1)]⟩, some ⟨L8, bs (sub x' 256 256)⟩]
          have ln7 : live (R6 ++ [some ⟨LI, [.raw (it 1)]⟩, some ⟨L8, bs (sub x' 256 256)⟩]) (R6.length + 1) = some ⟨L8, bs (sub x' 256 256)⟩ := by rw [lv_appk]; rfl
          generalize R6 ++ [some ⟨LI, [.raw (it 1)]⟩, some ⟨L8, bs (sub x' 256 256)⟩] = R7 at *
          refine kLoop_up 256 (fun j env rows => has env [(101, .raw (it (j : Int))), (100, .raw (it 256)), (99, .sl L8 (R6.length + 1) [] 0 256 false), (20, .sl L8 (R6.length + 1) [] 0 256 false), (17, .sl L8 ql [] 0 256 false), (83, .raw (it (i : Int))), (82, .raw (it (ms.length : Int))), (81, .lst .ref ms false), (11, .ptr SF r [0]), (15, .sl L8 qw [] 0 256 false)] ∧ rows = R7) ?_ ?_ ⟨?_, rfl⟩
          · rintro j hj env rows ⟨hh, rfl⟩ R hR
            simp only [has] at hh
            obtain ⟨h101, h100, h99, h20, h17, h83, h82, h81, h11, h15, -⟩ := hh
            have e0 : ((j : Int) < 256) = True := eq_true (by omega)
            have e2 := wz_succ j (by omega)
            have t1 : (bs (sub x' 256 256))[j]? = some (.raw (u8 ((sub x' 256 256).getD j 0#8))) := bs_get (by omega)
            have t2 : (bs (sub x 256 256))[j]? = some (.raw (u8 ((sub x 256 256).getD j 0#8))) := bs_get (by omega)
            have t3 : (bs w)[j]? = some (.raw (u8 (w.getD j 0#8))) := bs_get (by omega)
            have hz := hbt j hj
            simp only [↓amD, amU, Nat.reduceBEq, Nat.reduceAdd, Nat.reduceSub, Nat.reduceMul, Nat.reduceMod, Nat.reducePow, Nat.reduceLT, Nat.reduceDiv, Int.reduceToNat, BitVec.reduceToNat, zipEnv, Int.reduceLE, Int.reduceLT, Int.reduceNeg, BitVec.reduceEq, Int.reduceAdd, Int.reduceSub, Int.reduceMul, Nat.reduceLeDiff, Int.reduceEq, h101, h100, h99, h20, h17, h83, h82, h81, h11, h15, e0, e2, b0, ln7, lq7, lw7, t1, t2, t3, hz, decide_true]
            exact hR _ _ ⟨by simp only [has, ↓amD, amU, Nat.reduceBEq, Nat.reduceAdd, Nat.reduceSub, Nat.reduceMul, Nat.reduceMod, Nat.reducePow, Nat.reduceLT, Nat.reduceDiv, Int.reduceToNat, BitVec.reduceToNat, zipEnv, Int.reduceLE, Int.reduceLT, Int.reduceNeg, BitVec.reduceEq, Int.reduceAdd, Int.reduceSub, Int.reduceMul, Nat.reduceLeDiff, Int.reduceEq, h100, h99, h20, h17, h83, h82, h81, h11, h15], rfl⟩
          · rintro env rows ⟨hh, rfl⟩ R
            simp only [has] at hh
            obtain ⟨h101, h100, h99, h20, h17, h83, h82, h81, h11, h15, -⟩ := hh
            simp only [↓amD, amU, Nat.reduceBEq, Nat.reduceAdd, Nat.reduceSub, Nat.reduceMul, Nat.reduceMod, Nat.reducePow, Nat.reduceLT, Nat.reduceDiv, Int.reduceToNat, BitVec.reduceToNat, zipEnv, Int.reduceLE, Int.reduceLT, Int.reduceNeg, BitVec.reduceEq, Int.reduceAdd, Int.reduceSub, Int.reduceMul, Nat.reduceLeDiff, Int.reduceEq, h101, h100, h99, h20, h17, h83, h82, h81, h11, h15, e2]
            exact hR _ _ ⟨by simp only [has, ↓amD, amU, Nat.reduceBEq, Nat.reduceAdd, Nat.reduceSub, Nat.reduceMul, Nat.reduceMod, Nat.reducePow, Nat.reduceLT, Nat.reduceDiv, Int.reduceToNat, BitVec.reduceToNat, zipEnv, Int.reduceLE, Int.reduceLT, Int.reduceNeg, BitVec.reduceEq, Int.reduceAdd, Int.reduceSub, Int.reduceMul, Nat.reduceLeDiff, Int.reduceEq, h82, h81, h11, h15], R6.length + 1, x', by simp only [↓amD, amU, Nat.reduceBEq, Nat.reduceAdd, Nat.reduceSub, Nat.reduceMul, Nat.reduceMod, Nat.reducePow, Nat.reduceLT, Nat.reduceDiv, Int.reduceToNat, BitVec.reduceToNat, zipEnv, Int.reduceLE, Int.reduceLT, Int.reduceNeg, BitVec.reduceEq, Int.reduceAdd, Int.reduceSub, Int.reduceMul, Nat.reduceLeDiff, Int.reduceEq], hF7, hK6, lw7, ln7, by omega⟩
          · simp only [has, ↓amD, amU, Nat.reduceBEq, Nat.reduceAdd, Nat.reduceSub, Nat.reduceMul, Nat.reduceMod, Nat.reducePow, Nat.reduceLT, Nat.reduceDiv, Int.reduceToNat, BitVec.reduceToNat, zipEnv, Int.reduceLE, Int.reduceLT, Int.reduceNeg, BitVec.reduceEq, Int.reduceAdd, Int.reduceSub, Int.reduceMul, Nat.reduceLeDiff, Int.reduceEq, h83, h82, h81, h11, h15, h17]
      · rintro env rows ⟨hh, ql, x, h17, hF, hK, lww, lql, nql⟩ R
        simp only [has] at hh
        obtain ⟨h83, h82, h81, h11, h15, -⟩ := hh
        have e0 : ((ms.length : Int) < (ms.length : Int)) = False := eq_false (by omega)
        simp only [↓amD, amU, Nat.reduceBEq, Nat.reduceAdd, Nat.reduceSub, Nat.reduceMul, Nat.reduceMod, Nat.reducePow, Nat.reduceLT, Nat.reduceDiv, Int.reduceToNat, BitVec.reduceToNat, zipEnv, Int.reduceLE, Int.reduceLT, Int.reduceNeg, BitVec.reduceEq, Int.reduceAdd, Int.reduceSub, Int.reduceMul, Nat.reduceLeDiff, Int.reduceEq, h83, h82, h81, h11, h15, h17, e0, decide_false]
        have ltg := hF.lt
        have bwg := live_lt lww
        simp only [↓amD, amU, Nat.reduceBEq, Nat.reduceAdd, Nat.reduceSub, Nat.reduceMul, Nat.reduceMod, Nat.reducePow, Nat.reduceLT, Nat.reduceDiv, Int.reduceToNat, BitVec.reduceToNat, zipEnv, Int.reduceLE, Int.reduceLT, Int.reduceNeg, BitVec.reduceEq, Int.reduceAdd, Int.reduceSub, Int.reduceMul, Nat.reduceLeDiff, Int.reduceEq, lv_app0, lv_appk, set_app0, set_appk, List.append_assoc, List.append_nil, Nat.add_assoc, h11, h15, hrn, knw, h.n20, h.r20]
        have ta := fun K => tearA (K := K) (rows := rows ++ [some ⟨L8, bs kk⟩]) (ex1 := false) (ex2 := false) (w := w) (k := kk) (q1 := qw) (q2 := rows.length) (hF.push _) (by rw [hK.1]; omega) (live_push lww) (by rw [lv_app0]; rfl) (by omega) (by omega) (by omega) (by omega) 1
        rw [hw, hkl] at ta
        refine ta _ fun R8 U8 => ?_
        have hF8 := U8.fl
        have hK8 := hK.te w kk
        have lw8 := U8.frame _ _ (live_push lww) (by omega)
        have htw := tear_w hK.1 w hw kk hkk
        rw [er1 x hK.1]
        generalize teX x 1 w kk = x8 at *
        have kp8 := fun k => kPages1 hF8 hK8.1 1 (by omega) k
        rw [show ((1 : Nat) : Int) = 1 from rfl, show 256 * 1 = 256 from rfl, htw] at kp8
        have ks8 := fun k => kSame (R8 ++ [some ⟨LI, [.raw (it 1)]⟩, some ⟨L8, bs w⟩]) k (.sl L8 (R8.length + 1) [] 0 256 false) (.sl L8 qw [] 0 256 false) w w (BsIn.own (by rw [lv_appk]; rfl) _ hw.symm) (BsIn.own (live_push lw8) _ hw.symm) (by omega) (by omega)
        have hF9 := hF8.push [some ⟨LI, [.raw (it 1)]⟩, some ⟨L8, bs w⟩]
        have kp9 := fun k => kPages1 hF9 hK8.1 0 (by omega) k
        simp only [List.append_assoc, List.cons_append, List.nil_append, List.length_append, List.length_cons, List.length_nil, Nat.zero_add, Nat.add_assoc, Nat.reduceAdd, Nat.mul_zero, Int.natCast_zero, Int.ofNat_zero] at kp9
        have hz0 : ((0 : Nat) : Int) = 0 := rfl
        have ks9 := fun k ex => kSame (R8 ++ [some ⟨LI, [.raw (it 1)]⟩, some ⟨L8, bs w⟩, some ⟨LI, [.raw (it 0)]⟩, some ⟨L8, bs (sub x8 0 256)⟩, some ⟨L8, [.raw (u8 1#8), .raw (u8 2#8), .raw (u8 3#8)]⟩]) k (.sl L8 (R8.length + 3) [] 0 3 ex) (.sl L8 (R8.length + 4) [] 0 3 true) (((sub x8 0 256).drop 0).take 3) [1#8, 2#8, 3#8] (BsIn.sub (by rw [lv_appk]; rfl) (by rw [sub_len (by rw [hK8.1]; omega)]; omega)) (BsIn.own (l := [1#8, 2#8, 3#8]) (by rw [lv_appk]; rfl) _ rfl) (by rw [List.length_take]; omega) (by decide)
        simp only [List.drop_zero, hK8.three, decide_true] at ks9
        obtain ⟨e8, hi8⟩ := (hF8.push [some ⟨LI, [.raw (it 1)]⟩, some ⟨L8, bs w⟩, some ⟨LI, [.raw (it 0)]⟩, some ⟨L8, bs (sub x8 0 256)⟩, some ⟨L8, [.raw (u8 1#8), .raw (u8 2#8), .raw (u8 3#8)]⟩]).to
        have kb8 := fun k => kBlank hi8 (show x8.length ≤ 1048576 by rw [hK8.1]; omega) 2 1 k
        rw [hK8.blank] at kb8
        simp only [↓amD, amU, Nat.reduceBEq, Nat.reduceAdd, Nat.reduceSub, Nat.reduceMul, Nat.reduceMod, Nat.reducePow, Nat.reduceLT, Nat.reduceDiv, Int.reduceToNat, BitVec.reduceToNat, zipEnv, Int.reduceLE, Int.reduceLT, Int.reduceNeg, BitVec.reduceEq, Int.reduceAdd, Int.reduceSub, Int.reduceMul, Nat.reduceLeDiff, Int.reduceEq, lv_app0, lv_appk, set_app0, set_appk, List.append_assoc, List.append_nil, Nat.add_assoc, h11, h15, hpg, kp8, h.same, ks8, kp9, ks9, h.bl, kb8, decide_true]
      · simp only [has, ↓amD, amU, Nat.reduceBEq, Nat.reduceAdd, Nat.reduceSub, Nat.reduceMul, Nat.reduceMod, Nat.reducePow, Nat.reduceLT, Nat.reduceDiv, Int.reduceToNat, BitVec.reduceToNat, zipEnv, Int.reduceLE, Int.reduceLT, Int.reduceNeg, BitVec.reduceEq, Int.reduceAdd, Int.reduceSub, Int.reduceMul, Nat.reduceLeDiff, Int.reduceEq, h11]
      · first | rfl | simp only [↓amD, amU, Nat.reduceBEq, Nat.reduceAdd, Nat.reduceSub, Nat.reduceMul, Nat.reduceMod, Nat.reducePow, Nat.reduceLT, Nat.reduceDiv, Int.reduceToNat, BitVec.reduceToNat, zipEnv, Int.reduceLE, Int.reduceLT, Int.reduceNeg, BitVec.reduceEq, Int.reduceAdd, Int.reduceSub, Int.reduceMul, Nat.reduceLeDiff, Int.reduceEq, h13]
    · simp only [↓amD, amU, Nat.reduceBEq, Nat.reduceAdd, Nat.reduceSub, Nat.reduceMul, Nat.reduceMod, Nat.reducePow, Nat.reduceLT, Nat.reduceDiv, Int.reduceToNat, BitVec.reduceToNat, zipEnv, Int.reduceLE, Int.reduceLT, Int.reduceNeg, BitVec.reduceEq, Int.reduceAdd, Int.reduceSub, Int.reduceMul, Nat.reduceLeDiff, Int.reduceEq, h47, h46, h1, h13, h2, h11, h3, h4, ← hadef, e0, haf, ka0, decide_false]
      have hw : kk.length = 256 := hkl
      try simp only [↓amD, amU, Nat.reduceBEq, Nat.reduceAdd, Nat.reduceSub, Nat.reduceMul, Nat.reduceMod, Nat.reducePow, Nat.reduceLT, Nat.reduceDiv, Int.reduceToNat, BitVec.reduceToNat, zipEnv, Int.reduceLE, Int.reduceLT, Int.reduceNeg, BitVec.reduceEq, Int.reduceAdd, Int.reduceSub, Int.reduceMul, Nat.reduceLeDiff, Int.reduceEq, lv_app0, lv_appk, set_app0, set_appk, List.append_assoc, List.append_nil, Nat.add_assoc, h13, h3, h11]
      have hF4 := hF.push [some ⟨L8, bs kk⟩]
      have lw4 := live_app lw [some ⟨L8, bs kk⟩]
      have lww : live (rows ++ [some ⟨L8, bs kk⟩]) rows.length = some ⟨L8, bs kk⟩ := by rw [lv_app0]; rfl
      have bww : m < rows.length := ltf.2
      generalize hqw : rows.length = qw at *
      generalize rows ++ [some ⟨L8, bs kk⟩] = R5 at *
      refine kLoop_up ms.length (fun i env rows => has env [(83, .raw (it (i : Int))), (82, .raw (it (ms.length : Int))), (81, .lst .ref ms false), (11, .ptr SF r [0]), (15, .sl L8 qw [] 0 256 false)] ∧
        ∃ (ql : Nat) (x : List (BitVec 8)), look env 17 = some (.sl L8 ql [] 0 256 false) ∧ FlAt rows r m x ∧ Keep x ∧ live rows qw = some ⟨L8, bs kk⟩ ∧ live rows ql = some ⟨L8, bs (sub x 256 256)⟩ ∧ m ≠ ql) ?_ ?_ ⟨?_, n2 + 1, x, ?_, hF4, hK, lww, lw4, by omega⟩
      · rintro i hi env rows ⟨hh, ql, x, h17, hF, hK, lww, lql, nql⟩ R hR
        simp only [has] at hh
        obtain ⟨h83, h82, h81, h11, h15, -⟩ := hh
        have e0 : ((i : Int) < (ms.length : Int)) = True := eq_true (by omega)
        have b0 : ∀ n : Nat, ((0 : Int) ≤ (n : Int)) = True := fun n => eq_true (by omega)
        have e2 := wz_succ i (by omega)
        obtain ⟨d, hd⟩ : ∃ d, ms[i]? = some d := ⟨ms[i], List.getElem?_eq_getElem hi⟩
        obtain ⟨b, hbb, hbl⟩ := hms d (List.mem_of_getElem? hd)
        have hfit : d.fits .ref = true := by rcases hbb with ⟨rfl, _⟩ | ⟨e, rfl⟩ <;> rfl
        by_cases h6 : 6 ≤ i
        · have e6 : ((6 : Int) ≤ (i : Int)) = True := eq_true (by omega)
          simp only [↓amD, amU, Nat.reduceBEq, Nat.reduceAdd, Nat.reduceSub, Nat.reduceMul, Nat.reduceMod, Nat.reducePow, Nat.reduceLT, Nat.reduceDiv, Int.reduceToNat, BitVec.reduceToNat, zipEnv, Int.reduceLE, Int.reduceLT, Int.reduceNeg, BitVec.reduceEq, Int.reduceAdd, Int.reduceSub, Int.reduceMul, Nat.reduceLeDiff, Int.reduceEq, h83, h82, h81, h11, h15, h17, e0, e2, e6, b0, hd, hfit, decide_true]
          have ltg := hF.lt
          have bwg := live_lt lww
          simp only [↓amD, amU, Nat.reduceBEq, Nat.reduceAdd, Nat.reduceSub, Nat.reduceMul, Nat.reduceMod, Nat.reducePow, Nat.reduceLT, Nat.reduceDiv, Int.reduceToNat, BitVec.reduceToNat, zipEnv, Int.reduceLE, Int.reduceLT, Int.reduceNeg, BitVec.reduceEq, Int.reduceAdd, Int.reduceSub, Int.reduceMul, Nat.reduceLeDiff, Int.reduceEq, lv_app0, lv_appk, set_app0, set_appk, List.append_assoc, List.append_nil, Nat.add_assoc, h11, h15, hrn, knw, h.n20, h.r20]
          have ta := fun K => tearA (K := K) (rows := rows ++ [some ⟨L8, bs kk⟩]) (ex1 := false) (ex2 := false) (w := kk) (k := kk) (q1 := qw) (q2 := rows.length) (hF.push _) (by rw [hK.1]; omega) (live_push lww) (by rw [lv_app0]; rfl) (by omega) (by omega) (by omega) (by omega) 1
          rw [hkl] at ta
          refine ta _ fun R8 U8 => ?_
          have hF8 := U8.fl
          have hK8 := hK.te kk kk
          have lw8 := U8.frame _ _ (live_push lww) (by omega)
          have htw := tear_w hK.1 kk hw kk hkk
          rw [er1 x hK.1]
          generalize teX x 1 kk kk = x8 at *
          have kp8 := fun k => kPages1 hF8 hK8.1 1 (by omega) k
          rw [show ((1 : Nat) : Int) = 1 from rfl, show 256 * 1 = 256 from rfl, htw] at kp8
          have ks8 := fun k => kSame (R8 ++ [some ⟨LI, [.raw (it 1)]⟩, some ⟨L8, bs kk⟩]) k (.sl L8 (R8.length + 1) [] 0 256 false) (.sl L8 qw [] 0 256 false) kk kk (BsIn.own (by rw [lv_appk]; rfl) _ hw.symm) (BsIn.own (live_push lw8) _ hw.symm) (by omega) (by omega)
          have hF9 := hF8.push [some ⟨LI, [.raw (it 1)]⟩, some ⟨L8, bs kk⟩]
          have kp9 := fun k => kPages1 hF9 hK8.1 0 (by omega) k
          simp only [List.append_assoc, List.cons_append, List.nil_append, List.length_append, List.length_cons, List.length_nil, Nat.zero_add, Nat.add_assoc, Nat.reduceAdd, Nat.mul_zero, Int.natCast_zero, Int.ofNat_zero] at kp9
          have hz0 : ((0 : Nat) : Int) = 0 := rfl
          have ks9 := fun k ex => kSame (R8 ++ [some ⟨LI, [.raw (it 1)]⟩, some ⟨L8, bs kk⟩, some ⟨LI, [.raw (it 0)]⟩, some ⟨L8, bs (sub x8 0 256)⟩, some ⟨L8, [.raw (u8 1#8), .raw (u8 2#8), .raw (u8 3#8)]⟩]) k (.sl L8 (R8.length + 3) [] 0 3 ex) (.sl L8 (R8.length + 4) [] 0 3 true) (((sub x8 0 256).drop 0).take 3) [1#8, 2#8, 3#8] (BsIn.sub (by rw [lv_appk]; rfl) (by rw [sub_len (by rw [hK8.1]; omega)]; omega)) (BsIn.own (l := [1#8, 2#8, 3#8]) (by rw [lv_appk]; rfl) _ rfl) (by rw [List.length_take]; omega) (by decide)
          simp only [List.drop_zero, hK8.three, decide_true] at ks9
          obtain ⟨e8, hi8⟩ := (hF8.push [some ⟨LI, [.raw (it 1)]⟩, some ⟨L8, bs kk⟩, some ⟨LI, [.raw (it 0)]⟩, some ⟨L8, bs (sub x8 0 256)⟩, some ⟨L8, [.raw (u8 1#8), .raw (u8 2#8), .raw (u8 3#8)]⟩]).to
          have kb8 := fun k => kBlank hi8 (show x8.length ≤ 1048576 by rw [hK8.1]; omega) 2 1 k
          rw [hK8.blank] at kb8
          simp only [↓amD, amU, Nat.reduceBEq, Nat.reduceAdd, Nat.reduceSub, Nat.reduceMul, Nat.reduceMod, Nat.reducePow, Nat.reduceLT, Nat.reduceDiv, Int.reduceToNat, BitVec.reduceToNat, zipEnv, Int.reduceLE, Int.reduceLT, Int.reduceNeg, BitVec.reduceEq, Int.reduceAdd, Int.reduceSub, Int.reduceMul, Nat.reduceLeDiff, Int.reduceEq, lv_app0, lv_appk, set_app0, set_appk, List.append_assoc, List.append_nil, Nat.add_assoc, h11, h15, hpg, kp8, h.same, ks8, kp9, ks9, h.bl, kb8, decide_true]
        · have e6 : ((6 : Int) ≤ (i : Int)) = False := eq_false (by omega)
          have kc := fun k => kCutI rows k d b 300 hbb.to (by omega) (by simp; omega)
          simp only [h300] at kc
          have hb3 : (b.take 300).length ≤ 300 := by simp; omega
          simp only [↓amD, amU, Nat.reduceBEq, Nat.reduceAdd, Nat.reduceSub, Nat.reduceMul, Nat.reduceMod, Nat.reducePow, Nat.reduceLT, Nat.reduceDiv, Int.reduceToNat, BitVec.reduceToNat, zipEnv, Int.reduceLE, Int.reduceLT, Int.reduceNeg, BitVec.reduceEq, Int.reduceAdd, Int.reduceSub, Int.reduceMul, Nat.reduceLeDiff, Int.reduceEq, lv_app0, lv_appk, set_app0, set_appk, List.append_assoc, List.append_nil, Nat.add_assoc, h83, h82, h81, h11, h15, h17, e0, e6, b0, hd, hfit, h.cut, kc, h.n20, h.r20, decide_true, decide_false]
          generalize b.take 300 = b at *
          have ltf := hF.lt
          have bl := live_lt lql
          have bw := live_lt lww
          have ta := fun K => tearA (K := K) (rows := rows ++ [some ⟨L8, bs b⟩]) (ex1 := false) (ex2 := false) (w := kk) (k := b) (q1 := qw) (q2 := rows.length) (hF.push _) (by rw [hK.1]; omega) (live_push lww) (by rw [lv_app0]; rfl) (by omega) (by omega) (by omega) (by omega) 1
          rw [hw] at ta
          refine ta _ fun R6 U6 => ?_
          have hF6 := U6.fl
          have hK6 := hK.te kk b
          have lww6 := U6.frame _ _ (live_push lww) (by omega)
          have lql6 := U6.frame _ _ (live_push lql) (by omega)
          have hbt := fun j hj => btw x kk b hK.1 j hj
          rw [er1 x hK.1]
          have hsl : (sub x 256 256).length = 256 := sub_len (by rw [hK.1]; omega)
          generalize teX x 1 kk b = x' at *
          have hsl6 : (sub x' 256 256).length = 256 := sub_len (by rw [hK6.1]; omega)
          have kp6 := fun k => kPages1 hF6 hK6.1 1 (by omega) k
          rw [show ((1 : Nat) : Int) = 1 from rfl, show 256 * 1 = 256 from rfl] at kp6
          simp only [↓amD, amU, Nat.reduceBEq, Nat.reduceAdd, Nat.reduceSub, Nat.reduceMul, Nat.reduceMod, Nat.reducePow, Nat.reduceLT, Nat.reduceDiv, Int.reduceToNat, BitVec.reduceToNat, zipEnv, Int.reduceLE, Int.reduceLT, Int.reduceNeg, BitVec.reduceEq, Int.reduceAdd, Int.reduceSub, Int.reduceMul, Nat.reduceLeDiff, Int.reduceEq, lv_app0, lv_appk, set_app0, set_appk, List.append_assoc, List.append_nil, Nat.add_assoc, h11, h15, h17, hpg, kp6]
          have lt6 := hF6.lt
          have hF7 := hF6.push [some ⟨LI, [.raw (it 1)]⟩, some ⟨L8, bs (sub x' 256 256)⟩]
          have lw7 := live_app lww6 [some ⟨LI, [.raw (it 1)]⟩, some ⟨L8, bs (sub x' 256 256)⟩]
          have lq7 := live_app lql6 [some ⟨LI, [.raw (it 1)]⟩, some ⟨L8, bs (sub x' 256 256)⟩]
          have ln7 : live (R6 ++ [some ⟨LI, [.raw (it 1)]⟩, some ⟨L8, bs (sub x' 256 256)⟩]) (R6.length + 1) = some ⟨L8, bs (sub x' 256 256)⟩ := by rw [lv_appk]; rfl
          generalize R6 ++ [some ⟨LI, [.raw (it 1)]⟩, some ⟨L8, bs (sub x' 256 256)⟩] = R7 at *
          refine kLoop_up 256 (fun j env rows => has env [(101, .raw (it (j : Int))), (100, .raw (it 256)), (99, .sl L8 (R6.length + 1) [] 0 256 false), (20, .sl L8 (R6.length + 1) [] 0 256 false), (17, .sl L8 ql [] 0 256 false), (83, .raw (it (i : Int))), (82, .raw (it (ms.length : Int))), (81, .lst .ref ms false), (11, .ptr SF r [0]), (15, .sl L8 qw [] 0 256 false)] ∧ rows = R7) ?_ ?_ ⟨?_, rfl⟩
          · rintro j hj env rows ⟨hh, rfl⟩ R hR
            simp only [has] at hh
            obtain ⟨h101, h100, h99, h20, h17, h83, h82, h81, h11, h15, -⟩ := hh
            have e0 : ((j : Int) < 256) = True := eq_true (by omega)
            have e2 := wz_succ j (by omega)
            have t1 : (bs (sub x' 256 256))[j]? = some (.raw (u8 ((sub x' 256 256).getD j 0#8))) := bs_get (by omega)
            have t2 : (bs (sub x 256 256))[j]? = some (.raw (u8 ((sub x 256 256).getD j 0#8))) := bs_get (by omega)
            have t3 : (bs kk)[j]? = some (.raw (u8 (kk.getD j 0#8))) := bs_get (by omega)
            have hz := hbt j hj
            simp only [↓amD, amU, Nat.reduceBEq, Nat.reduceAdd, Nat.reduceSub, Nat.reduceMul, Nat.reduceMod, Nat.reducePow, Nat.reduceLT, Nat.reduceDiv, Int.reduceToNat, BitVec.reduceToNat, zipEnv, Int.reduceLE, Int.reduceLT, Int.reduceNeg, BitVec.reduceEq, Int.reduceAdd, Int.reduceSub, Int.reduceMul, Nat.reduceLeDiff, Int.reduceEq, h101, h100, h99, h20, h17, h83, h82, h81, h11, h15, e0, e2, b0, ln7, lq7, lw7, t1, t2, t3, hz, decide_true]
            exact hR _ _ ⟨by simp only [has, ↓amD, amU, Nat.reduceBEq, Nat.reduceAdd, Nat.reduceSub, Nat.reduceMul, Nat.reduceMod, Nat.reducePow, Nat.reduceLT, Nat.reduceDiv, Int.reduceToNat, BitVec.reduceToNat, zipEnv, Int.reduceLE, Int.reduceLT, Int.reduceNeg, BitVec.reduceEq, Int.reduceAdd, Int.reduceSub, Int.reduceMul, Nat.reduceLeDiff, Int.reduceEq, h100, h99, h20, h17, h83, h82, h81, h11, h15], rfl⟩
          · rintro env rows ⟨hh, rfl⟩ R
            simp only [has] at hh
            obtain ⟨h101, h100, h99, h20, h17, h83, h82, h81, h11, h15, -⟩ := hh
            simp only [↓amD, amU, Nat.reduceBEq, Nat.reduceAdd, Nat.reduceSub, Nat.reduceMul, Nat.reduceMod, Nat.reducePow, Nat.reduceLT, Nat.reduceDiv, Int.reduceToNat, BitVec.reduceToNat, zipEnv, Int.reduceLE, Int.reduceLT, Int.reduceNeg, BitVec.reduceEq, Int.reduceAdd, Int.reduceSub, Int.reduceMul, Nat.reduceLeDiff, Int.reduceEq, h101, h100, h99, h20, h17, h83, h82, h81, h11, h15, e2]
            exact hR _ _ ⟨by simp only [has, ↓amD, amU, Nat.reduceBEq, Nat.reduceAdd, Nat.reduceSub, Nat.reduceMul, Nat.reduceMod, Nat.reducePow, Nat.reduceLT, Nat.reduceDiv, Int.reduceToNat, BitVec.reduceToNat, zipEnv, Int.reduceLE, Int.reduceLT, Int.reduceNeg, BitVec.reduceEq, Int.reduceAdd, Int.reduceSub, Int.reduceMul, Nat.reduceLeDiff, Int.reduceEq, h82, h81, h11, h15], R6.length + 1, x', by simp only [↓amD, amU, Nat.reduceBEq, Nat.reduceAdd, Nat.reduceSub, Nat.reduceMul, Nat.reduceMod, Nat.reducePow, Nat.reduceLT, Nat.reduceDiv, Int.reduceToNat, BitVec.reduceToNat, zipEnv, Int.reduceLE, Int.reduceLT, Int.reduceNeg, BitVec.reduceEq, Int.reduceAdd, Int.reduceSub, Int.reduceMul, Nat.reduceLeDiff, Int.reduceEq], hF7, hK6, lw7, ln7, by omega⟩
          · simp only [has, ↓amD, amU, Nat.reduceBEq, Nat.reduceAdd, Nat.reduceSub, Nat.reduceMul, Nat.reduceMod, Nat.reducePow, Nat.reduceLT, Nat.reduceDiv, Int.reduceToNat, BitVec.reduceToNat, zipEnv, Int.reduceLE, Int.reduceLT, Int.reduceNeg, BitVec.reduceEq, Int.reduceAdd, Int.reduceSub, Int.reduceMul, Nat.reduceLeDiff, Int.reduceEq, h83, h82, h81, h11, h15, h17]
      · rintro env rows ⟨hh, ql, x, h17, hF, hK, lww, lql, nql⟩ R
        simp only [has] at hh
        obtain ⟨h83, h82, h81, h11, h15, -⟩ := hh
        have e0 : ((ms.length : Int) < (ms.length : Int)) = False := eq_false (by omega)
        simp only [↓amD, amU, Nat.reduceBEq, Nat.reduceAdd, Nat.reduceSub, Nat.reduceMul, Nat.reduceMod, Nat.reducePow, Nat.reduceLT, Nat.reduceDiv, Int.reduceToNat, BitVec.reduceToNat, zipEnv, Int.reduceLE, Int.reduceLT, Int.reduceNeg, BitVec.reduceEq, Int.reduceAdd, Int.reduceSub, Int.reduceMul, Nat.reduceLeDiff, Int.reduceEq, h83, h82, h81, h11, h15, h17, e0, decide_false]
        have ltg := hF.lt
        have bwg := live_lt lww
        simp only [↓amD, amU, Nat.reduceBEq, Nat.reduceAdd, Nat.reduceSub, Nat.reduceMul, Nat.reduceMod, Nat.reducePow, Nat.reduceLT, Nat.reduceDiv, Int.reduceToNat, BitVec.reduceToNat, zipEnv, Int.reduceLE, Int.reduceLT, Int.reduceNeg, BitVec.reduceEq, Int.reduceAdd, Int.reduceSub, Int.reduceMul, Nat.reduceLeDiff, Int.reduceEq, lv_app0, lv_appk, set_app0, set_appk, List.append_assoc, List.append_nil, Nat.add_assoc, h11, h15, hrn, knw, h.n20, h.r20]
        have ta := fun K => tearA (K := K) (rows := rows ++ [some ⟨L8, bs kk⟩]) (ex1 := false) (ex2 := false) (w := kk) (k := kk) (q1 := qw) (q2 := rows.length) (hF.push _) (by rw [hK.1]; omega) (live_push lww) (by rw [lv_app0]; rfl) (by omega) (by omega) (by omega) (by omega) 1
        rw [hkl] at ta
        refine ta _ fun R8 U8 => ?_
        have hF8 := U8.fl
        have hK8 := hK.te kk kk
        have lw8 := U8.frame _ _ (live_push lww) (by omega)
        have htw := tear_w hK.1 kk hw kk hkk
        rw [er1 x hK.1]
        generalize teX x 1 kk kk = x8 at *
        have kp8 := fun k => kPages1 hF8 hK8.1 1 (by omega) k
        rw [show ((1 : Nat) : Int) = 1 from rfl, show 256 * 1 = 256 from rfl, htw] at kp8
        have ks8 := fun k => kSame (R8 ++ [some ⟨LI, [.raw (it 1)]⟩, some ⟨L8, bs kk⟩]) k (.sl L8 (R8.length + 1) [] 0 256 false) (.sl L8 qw [] 0 256 false) kk kk (BsIn.own (by rw [lv_appk]; rfl) _ hw.symm) (BsIn.own (live_push lw8) _ hw.symm) (by omega) (by omega)
        have hF9 := hF8.push [some ⟨LI, [.raw (it 1)]⟩, some ⟨L8, bs kk⟩]
        have kp9 := fun k => kPages1 hF9 hK8.1 0 (by omega) k
        simp only [List.append_assoc, List.cons_append, List.nil_append, List.length_append, List.length_cons, List.length_nil, Nat.zero_add, Nat.add_assoc, Nat.reduceAdd, Nat.mul_zero, Int.natCast_zero, Int.ofNat_zero] at kp9
        have hz0 : ((0 : Nat) : Int) = 0 := rfl
        have ks9 := fun k ex => kSame (R8 ++ [some ⟨LI, [.raw (it 1)]⟩, some ⟨L8, bs kk⟩, some ⟨LI, [.raw (it 0)]⟩, some ⟨L8, bs (sub x8 0 256)⟩, some ⟨L8, [.raw (u8 1#8), .raw (u8 2#8), .raw (u8 3#8)]⟩]) k (.sl L8 (R8.length + 3) [] 0 3 ex) (.sl L8 (R8.length + 4) [] 0 3 true) (((sub x8 0 256).drop 0).take 3) [1#8, 2#8, 3#8] (BsIn.sub (by rw [lv_appk]; rfl) (by rw [sub_len (by rw [hK8.1]; omega)]; omega)) (BsIn.own (l := [1#8, 2#8, 3#8]) (by rw [lv_appk]; rfl) _ rfl) (by rw [List.length_take]; omega) (by decide)
        simp only [List.drop_zero, hK8.three, decide_true] at ks9
        obtain ⟨e8, hi8⟩ := (hF8.push [some ⟨LI, [.raw (it 1)]⟩, some ⟨L8, bs kk⟩, some ⟨LI, [.raw (it 0)]⟩, some ⟨L8, bs (sub x8 0 256)⟩, some ⟨L8, [.raw (u8 1#8), .raw (u8 2#8), .raw (u8 3#8)]⟩]).to
        have kb8 := fun k => kBlank hi8 (show x8.length ≤ 1048576 by rw [hK8.1]; omega) 2 1 k
        rw [hK8.blank] at kb8
        simp only [↓amD, amU, Nat.reduceBEq, Nat.reduceAdd, Nat.reduceSub, Nat.reduceMul, Nat.reduceMod, Nat.reducePow, Nat.reduceLT, Nat.reduceDiv, Int.reduceToNat, BitVec.reduceToNat, zipEnv, Int.reduceLE, Int.reduceLT, Int.reduceNeg, BitVec.reduceEq, Int.reduceAdd, Int.reduceSub, Int.reduceMul, Nat.reduceLeDiff, Int.reduceEq, lv_app0, lv_appk, set_app0, set_appk, List.append_assoc, List.append_nil, Nat.add_assoc, h11, h15, hpg, kp8, h.same, ks8, kp9, ks9, h.bl, kb8, decide_true]
      · simp only [has, ↓amD, amU, Nat.reduceBEq, Nat.reduceAdd, Nat.reduceSub, Nat.reduceMul, Nat.reduceMod, Nat.reducePow, Nat.reduceLT, Nat.reduceDiv, Int.reduceToNat, BitVec.reduceToNat, zipEnv, Int.reduceLE, Int.reduceLT, Int.reduceNeg, BitVec.reduceEq, Int.reduceAdd, Int.reduceSub, Int.reduceMul, Nat.reduceLeDiff, Int.reduceEq, h11]
      · first | rfl | simp only [↓amD, amU, Nat.reduceBEq, Nat.reduceAdd, Nat.reduceSub, Nat.reduceMul, Nat.reduceMod, Nat.reducePow, Nat.reduceLT, Nat.reduceDiv, Int.reduceToNat, BitVec.reduceToNat, zipEnv, Int.reduceLE, Int.reduceLT, Int.reduceNeg, BitVec.reduceEq, Int.reduceAdd, Int.reduceSub, Int.reduceMul, Nat.reduceLeDiff, Int.reduceEq, h13]
  · simp only [has, ↓amD, amU, Nat.reduceBEq, Nat.reduceAdd, Nat.reduceSub, Nat.reduceMul, Nat.reduceMod, Nat.reducePow, Nat.reduceLT, Nat.reduceDiv, Int.reduceToNat, BitVec.reduceToNat, zipEnv, Int.reduceLE, Int.reduceLT, Int.reduceNeg, BitVec.reduceEq, Int.reduceAdd, Int.reduceSub, Int.reduceMul, Nat.reduceLeDiff, Int.reduceEq]
end Job
end Go.Am
