/- HMAC: keys of keys, as the reference makes them; the law -/
import Derived.Test.YtkaenkchaenlkaaDoorMac4
namespace Go.Am
set_option linter.unusedSimpArgs false
set_option linter.unusedVariables false
attribute [local congr] bnd_congr kCond_congr kGd_congr kPick_congr kCall_congr kIdx_congr kSlice_congr kLoop_congr cond_congr' aBin_congr aBounds_congr aApp_congr aCopy_congr kFn_congr
namespace Job
open Go.Am.F
set_option maxRecDepth 10000
theorem rder_ok (C : Ctx) (hC : CtxOK C P) (h9 : C.fn 9 = some fRMac) (h16 : C.fn 16 = some fJoin) (h26 : C.fn 26 = some fNumS) : Meets C.glob P 19 (Fn.run fDer) := by
  refine fn_meetsN (m_ref02_Derive C hC) fun ds rows r h => ?_
  obtain ⟨d, d1, d2, key, lab, ls, rfl, rfl, hd, he, hf, hp, rfl⟩ := fn3_some h
  obtain ⟨x, hx⟩ := rdBs_nrm hd
  cases rdStr_some he
  obtain ⟨l, e, hn, hl⟩ := rdBssN_some hf
  simp only [derPre, Bool.and_eq_true, Nat.ble_eq] at hp
  obtain ⟨hp0, hp1, hp2, hp3⟩ := hp
  obtain ⟨hlen, hget⟩ := mapO_get hl
  refine ⟨rfl, _, .cons hx (.cons (.refl _) (.cons hn .nil)), afun_mk rfl ?_⟩
  clear h hd he hx hn hf
  have hbs : ∀ i (hi : i < ls.length), ∃ x, l[i]? = some x ∧ IsBs x ls[i] := fun i hi => by
    have hi2 : i < l.length := by omega
    have hli : l[i]? = some l[i] := List.getElem?_eq_getElem hi2
    exact ⟨_, hli, rdBs_some (hget i _ _ hli (List.getElem?_eq_getElem hi))⟩
  have hfit : ∀ x y, IsBs x y → D.fits x .ref = true := fun x y hb => by rcases hb with ⟨h, _⟩ | ⟨e, h⟩ <;> rw [h] <;> rfl
  have hsl := sb_len lab
  have k1 := fun rows k => kNumS4 rows k lab.size (by omega)
  have k2 := fun rows k => kNumS4 rows k l.length (by omega)
  have hTlen : ∀ i, i ≤ ls.length → (numI lab.size ++ sb lab ++ numI l.length ++ partT (ls.take i)).length = 8 + lab.size + 4 * i + ((ls.take i).flatten).length := fun i hi => by
    simp only [List.length_append, numI_len, partT_len, hsl, List.length_take]; omega
  have hTle : ∀ i, i ≤ ls.length → (numI lab.size ++ sb lab ++ numI l.length ++ partT (ls.take i)).length ≤ 1099520000 + 1099511627 := fun i hi => by
    rw [hTlen i hi]; have := take_flat ls i; omega
  unfold a_ref02_Derive r_ref02_Derive
  simp only [↓amD, amU, Nat.reduceBEq, Nat.reduceAdd, Nat.reduceSub, Nat.reduceMul, Nat.reduceMod, Nat.reducePow, Nat.reduceLT, Nat.reduceDiv, Int.reduceToNat, BitVec.reduceToNat, zipEnv, Int.reduceLE, Int.reduceLT, Int.reduceNeg, BitVec.reduceEq, Int.reduceAdd, Int.reduceSub, Int.reduceMul, Nat.reduceLeDiff, Int.reduceEq, h26, k1, k2, ofBytes_sb, h16]
  refine Eq.mpr (kJoin _ _ _ 3 _ _ [numI lab.size, sb lab, numI l.length] rfl rfl (.cons (BsIn.own rfl _ rfl) (.cons (IsBs.to (.inr ⟨_, rfl⟩)) (.cons (BsIn.own rfl _ rfl) .nil))) (by simp) (by simp only [List.flatten_cons, List.flatten_nil, List.append_nil, List.length_append, numI_len, hsl]; omega)) ?_
  have hT0 : [numI lab.size, sb lab, numI l.length].flatten = numI lab.size ++ sb lab ++ numI l.length ++ partT (ls.take 0) := by simp [partT]
  rw [hT0]
  simp only [↓amD, amU, Nat.reduceBEq, Nat.reduceAdd, Nat.reduceSub, Nat.reduceMul, Nat.reduceMod, Nat.reducePow, Nat.reduceLT, Nat.reduceDiv, Int.reduceToNat, BitVec.reduceToNat, zipEnv, Int.reduceLE, Int.reduceLT, Int.reduceNeg, BitVec.reduceEq, Int.reduceAdd, Int.reduceSub, Int.reduceMul, Nat.reduceLeDiff, Int.reduceEq]
  refine kLoop_up l.length (fun i env rows => ∃ rt, has env [(0, .lst L8 (bs key) x), (22, .lst .ref l e), (23, .raw (it l.length)), (24, .raw (it (i : Int))), (6, .ptr (.ar 32 L8) 0 [0]), (7, .sl L8 rt [] 0 (numI lab.size ++ sb lab ++ numI l.length ++ partT (ls.take i)).length false)] ∧
    (∃ z, live rows 0 = some ⟨.ar 32 L8, [z]⟩) ∧ live rows rt = some ⟨L8, bs (numI lab.size ++ sb lab ++ numI l.length ++ partT (ls.take i))⟩) ?_ ?_ ⟨4, ?_, ⟨_, rfl⟩, rfl⟩
  · rintro i hi env rows ⟨rt, hh, ⟨z, r0⟩, r3⟩ R hR
    simp only [has] at hh
    obtain ⟨q0, q22, q23, q24, q6, q7, -⟩ := hh
    obtain ⟨x, hx, hb⟩ := hbs i (by omega)
    have e0 : ((i : Int) < (l.length : Int)) = True := eq_true (by omega)
    have e1 : ((0 : Int) ≤ (i : Int)) = True := eq_true (by omega)
    have e2 := wz_succ i (by omega)
    have hli : ls[i].length ≤ ls.flatten.length := by
      have h1 := take_flat ls (i + 1)
      rw [take_flat_succ ls i (by omega), List.length_append] at h1
      omega
    have k3 := fun rows k => kNumS4 rows k ls[i].length (by omega)
    have hs : [numI lab.size ++ sb lab ++ numI l.length ++ partT (ls.take i), numI ls[i].length, ls[i]].flatten = numI lab.size ++ sb lab ++ numI l.length ++ partT (ls.take (i + 1)) := by
      rw [List.take_succ_eq_append_getElem (by omega), partT_snoc]
      simp only [List.flatten_cons, List.flatten_nil, List.append_nil, List.append_assoc]
    have hl0 := hTle i (by omega)
    have hl1 := hTle (i + 1) (by omega)
    generalize numI lab.size ++ sb lab ++ numI l.length ++ partT (ls.take i) = T at *
    generalize numI lab.size ++ sb lab ++ numI l.length ++ partT (ls.take (i + 1)) = T' at *
    simp only [↓amD, amU, Nat.reduceBEq, Nat.reduceAdd, Nat.reduceSub, Nat.reduceMul, Nat.reduceMod, Nat.reducePow, Nat.reduceLT, Nat.reduceDiv, Int.reduceToNat, BitVec.reduceToNat, zipEnv, Int.reduceLE, Int.reduceLT, Int.reduceNeg, BitVec.reduceEq, Int.reduceAdd, Int.reduceSub, Int.reduceMul, Nat.reduceLeDiff, Int.reduceEq, lv_app0, lv_appk, set_app0, set_appk, List.append_assoc, List.append_nil, Nat.add_assoc, q0, q22, q23, q24, q6, q7, e0, e1, hx, hfit _ _ hb, hb.slen, h16, h26, k3, decide_true]
    refine Eq.mpr (kJoin _ _ _ 3 _ [.sl L8 rt [] 0 T.length false, .sl L8 rows.length [] 0 4 false, x] [T, numI ls[i].length, ls[i]] ?_ rfl (.cons (BsIn.own (live_push r3) _ rfl) (.cons (BsIn.own (l := numI ls[i].length) ?_ 4 rfl) (.cons hb.to .nil))) (by simp) (by rw [hs]; omega)) ?_
    · exact (lv_appk rows _ 1).trans rfl
    · exact (lv_app0 rows _).trans rfl
    rw [hs]
    simp only [↓amD, amU, Nat.reduceBEq, Nat.reduceAdd, Nat.reduceSub, Nat.reduceMul, Nat.reduceMod, Nat.reducePow, Nat.reduceLT, Nat.reduceDiv, Int.reduceToNat, BitVec.reduceToNat, zipEnv, Int.reduceLE, Int.reduceLT, Int.reduceNeg, BitVec.reduceEq, Int.reduceAdd, Int.reduceSub, Int.reduceMul, Nat.reduceLeDiff, Int.reduceEq, lv_app0, lv_appk, set_app0, set_appk, List.append_assoc, List.append_nil, Nat.add_assoc, q0, q22, q23, q24, q6, q7, e2]
    refine hR _ _ ⟨rows.length + 2, by simp only [has, ↓amD, amU, Nat.reduceBEq, Nat.reduceAdd, Nat.reduceSub, Nat.reduceMul, Nat.reduceMod, Nat.reducePow, Nat.reduceLT, Nat.reduceDiv, Int.reduceToNat, BitVec.reduceToNat, zipEnv, Int.reduceLE, Int.reduceLT, Int.reduceNeg, BitVec.reduceEq, Int.reduceAdd, Int.reduceSub, Int.reduceMul, Nat.reduceLeDiff, Int.reduceEq, q0, q22, q23, q6], ⟨z, live_push r0⟩, ?_⟩
    exact (lv_appk rows _ 2).trans rfl
  · rintro env rows ⟨rt, hh, ⟨z, r0⟩, r3⟩ R
    simp only [has] at hh
    obtain ⟨q0, q22, q23, q24, q6, q7, -⟩ := hh
    have e0 : ((l.length : Int) < (l.length : Int)) = False := eq_false (by omega)
    have hl0 := hTle l.length (by omega)
    have hT : numI lab.size ++ sb lab ++ numI l.length ++ partT (ls.take l.length) = derT lab ls := by
      rw [derT, ← hlen, List.take_length]
    rw [hT] at r3 q7 hl0
    have s0 : ∀ x, live (rows.set 0 (some x)) 0 = some x := fun x => live_set_same r0
    simp only [↓amD, amU, Nat.reduceBEq, Nat.reduceAdd, Nat.reduceSub, Nat.reduceMul, Nat.reduceMod, Nat.reducePow, Nat.reduceLT, Nat.reduceDiv, Int.reduceToNat, BitVec.reduceToNat, zipEnv, Int.reduceLE, Int.reduceLT, Int.reduceNeg, BitVec.reduceEq, Int.reduceAdd, Int.reduceSub, Int.reduceMul, Nat.reduceLeDiff, Int.reduceEq, q0, q22, q23, q24, q6, q7, e0, h9, decide_false]
    refine Eq.mpr (kRMac _ _ _ _ key (derT lab ls) (IsBs.to (.inr ⟨_, rfl⟩)) (BsIn.own r3 _ rfl) hp0 (by omega)) ?_
    simp only [↓amD, amU, Nat.reduceBEq, Nat.reduceAdd, Nat.reduceSub, Nat.reduceMul, Nat.reduceMod, Nat.reducePow, Nat.reduceLT, Nat.reduceDiv, Int.reduceToNat, BitVec.reduceToNat, zipEnv, Int.reduceLE, Int.reduceLT, Int.reduceNeg, BitVec.reduceEq, Int.reduceAdd, Int.reduceSub, Int.reduceMul, Nat.reduceLeDiff, Int.reduceEq, q6, r0, s0]
    exact .val _ rfl
  · simp only [has, ↓amD, amU, Nat.reduceBEq, Nat.reduceAdd, Nat.reduceSub, Nat.reduceMul, Nat.reduceMod, Nat.reducePow, Nat.reduceLT, Nat.reduceDiv, Int.reduceToNat, BitVec.reduceToNat, zipEnv, Int.reduceLE, Int.reduceLT, Int.reduceNeg, BitVec.reduceEq, Int.reduceAdd, Int.reduceSub, Int.reduceMul, Nat.reduceLeDiff, Int.reduceEq]
/-- parts, as a call sees them -/
def PartsIn (rows : Rows) (d : D) (ls : List (List (BitVec 8))) : Prop := (∃ d', view rows 9 d = some d' ∧ rdBssN d' = some ls) ∧ (hasRef d = false → rdBssN d = some ls)
theorem PartsIn.nil (rows : Rows) : PartsIn rows (.raw (.slice none 0 0)) [] := ⟨⟨_, rfl, rfl⟩, fun _ => rfl⟩
theorem PartsIn.sl {rows : Rows} {r n : Nat} {ex : Bool} {l : List D} {ls : List (List (BitVec 8))} (hl : live rows r = some ⟨.ref, l⟩) (hn : l.length = n) (hv : All2 (fun x y => BsIn rows x y) l ls) : PartsIn rows (.sl .ref r [] 0 n ex) ls := by
  obtain ⟨l', h1, h2⟩ := view_parts hv
  have he : elems rows (.sl .ref r [] 0 n ex) = some l := by simp [elems, hl, ← hn]
  have hvw : view rows 9 (.sl .ref r [] 0 n ex) = some (.lst .ref l' ex) := by
    simp only [view, he, hn, beq_self_eq_true, Bool.not_true, cond_false, Sh.pure, h1]
  exact ⟨⟨_, hvw, by simpa [rdBssN] using h2⟩, fun h => by simp [hasRef] at h⟩
theorem kDer (rows : Rows) (k : D → Rows → Prop) (d e : D) (key : List (BitVec 8)) (lab : ByteArray) (ls : List (List (BitVec 8))) (h : BsIn rows d key) (h' : PartsIn rows e ls) (hp : derPre key lab ls = true) : kCall fDer rows k [d, .raw (.string lab), e] = k (.agg (.ar 32 L8) (bs (derS key lab ls))) rows := by
  obtain ⟨⟨d', hd', hb⟩, hn⟩ := h
  obtain ⟨⟨e', he', hq⟩, hm⟩ := h'
  have e1 : ∀ a b, rdBs a = some key → rdBssN b = some ls → fDer [a, .raw (.string lab), b] [] = some (d32D (derS key lab ls), []) := fun a b ha hb => by
    rw [fDer, fn3_ev, ha, hb]; simp [rdStr, hp]
  have hsh : shift rows.length (d32D (derS key lab ls)) = d32D (derS key lab ls) := by simp [d32D, shift, Sh.pure]
  have hno : noLst (d32D (derS key lab ls)) = true := by simp [d32D, noLst, Sh.pure]
  unfold kCall
  cases hh : hasRefL [d, .raw (.string lab), e] with
  | true =>
    have hvs : view rows 9 (.raw (.string lab)) = some (.raw (.string lab)) := rfl
    simp only [forall_const, mapO, hd', he', hvs, bnd, e1 _ _ hb.rd hq, hno, noLstRows, Bool.and_self, true_and, hsh, shiftRows, List.append_nil]
    simp [d32D]
  | false =>
    simp only [hasRefL, Bool.or_eq_false_iff, Bool.or_false] at hh
    simp only [forall_const, bnd, e1 _ _ (hn hh.1).rd (hm hh.2.2), hsh, shiftRows, List.append_nil]
    simp [d32D]
def textB (b : ByteArray) (n : Nat) : ByteArray := b.extract 0 (min b.size n)
def fText : Fn := fn2 rdStr rdI (fun b n => decide (0 ≤ n) && Nat.ble b.size 9223372036854775807) fun b n => (.raw (.string (textB b n.toNat)), [])
theorem text_ok (C : Ctx) (hC : CtxOK C P) : Meets C.glob P 17 (Fn.run fText) := by
  refine fn_meets (m_ref01_Text C hC) fun ds rows r h => ?_
  obtain ⟨d, e, b, n, rfl, rfl, hd, he, hp, rfl⟩ := fn2_some h
  cases rdStr_some hd
  cases rdI_some he
  simp only [Bool.and_eq_true, decide_eq_true_eq, Nat.ble_eq] at hp
  obtain ⟨n, rfl⟩ := Int.eq_ofNat_of_zero_le hp.1
  refine ⟨rfl, afun_mk rfl ?_⟩
  have m1 : min (b.size : Int) (n : Int) = ((min b.size n : Nat) : Int) := by omega
  have m2 : ((0 : Int) ≤ ((min b.size n : Nat) : Int)) = True := eq_true (by omega)
  have m3 : (((min b.size n : Nat) : Int) ≤ (b.size : Int)) = True := eq_true (by omega)
  unfold a_ref01_Text r_ref01_Text
  simp only [↓amD, amU, Nat.reduceBEq, Nat.reduceAdd, Nat.reduceSub, Nat.reduceMul, Nat.reduceMod, Nat.reducePow, Nat.reduceLT, Nat.reduceDiv, Int.reduceToNat, BitVec.reduceToNat, zipEnv, Int.reduceLE, Int.reduceLT, Int.reduceNeg, BitVec.reduceEq, Int.reduceAdd, Int.reduceSub, Int.reduceMul, Nat.reduceLeDiff, Int.reduceEq, cond_false, m1, m2, m3]
  exact .val _ rfl
theorem kText (rows : Rows) (k : D → Rows → Prop) (b : ByteArray) (n : Nat) (h : b.size ≤ 9223372036854775807) : kCall fText rows k [.raw (.string b), .raw (it (n : Int))] = k (.raw (.string (textB b n))) rows := by
  refine (kCall_val rfl (r := (.raw (.string (textB b n)), [])) ?_).trans ?_
  · rw [fText, fn2_eq (by rfl : rdStr (.raw (.string b)) = some b) (rdI_eq _) (by simp; omega)]; rfl
  · simp [shift, shiftRows]
theorem macderives_ok (C : Ctx) (h7 : C.fn 7 = some fAwake) (h8 : C.fn 8 = some fCut) (h16 : C.fn 16 = some fJoin) (h17 : C.fn 17 = some fText) (h18 : C.fn 18 = some fDer) (h19 : C.fn 19 = some fDer)
    (k0 a0 b0 : List (BitVec 8)) (l0 : ByteArray) (hk0 : k0.length ≤ 9223372036854775807) (ha0 : a0.length ≤ 9223372036854775807) (hb0 : b0.length ≤ 9223372036854775807) (hl0 : l0.size ≤ 9223372036854775807) : afun C 4 r_law02_MacDerives a_law02_MacDerives [.lst L8 (bs k0) false, .lst L8 (bs a0) false, .lst L8 (bs b0) false, .raw (.string l0)] [] (fun d _ => d = .raw (.bool true)) := by
  refine afun_mk rfl ?_
  have kc := fun rows k => kCut rows k (.lst L8 (bs k0) false) k0 100 (.inr ⟨_, rfl⟩) hk0 (by rw [List.length_take]; omega)
  have kd := fun rows k => kCut rows k (.lst L8 (bs a0) false) a0 100 (.inr ⟨_, rfl⟩) ha0 (by rw [List.length_take]; omega)
  have ke := fun rows k => kCut rows k (.lst L8 (bs b0) false) b0 100 (.inr ⟨_, rfl⟩) hb0 (by rw [List.length_take]; omega)
  have kt := fun rows k => kText rows k l0 60 hl0
  have hkl : (k0.take 100).length ≤ 100 := by rw [List.length_take]; omega
  have hal : (a0.take 100).length ≤ 100 := by rw [List.length_take]; omega
  have hbl : (b0.take 100).length ≤ 100 := by rw [List.length_take]; omega
  have htl : (textB l0 60).size ≤ 60 := by simp only [textB, ByteArray.size_extract]; omega
  have e2 : (100 : Int).toNat = 100 := rfl
  simp only [e2, Int.cast_ofNat_Int] at kc kd ke kt
  generalize k0.take 100 = key at kc hkl
  generalize a0.take 100 = a at kd hal
  generalize b0.take 100 = b at ke hbl
  generalize textB l0 60 = lab at kt htl
  have p2 : derPre key lab [a, b] = true := by
    simp only [derPre, Bool.and_eq_true, Nat.ble_eq, List.flatten_cons, List.flatten_nil, List.append_nil, List.length_append, List.length_cons, List.length_nil]; omega
  have p0 : derPre key lab [] = true := by
    simp only [derPre, Bool.and_eq_true, Nat.ble_eq, List.flatten_nil, List.length_nil]; omega
  have p1 : derPre key lab [a ++ b] = true := by
    simp only [derPre, Bool.and_eq_true, Nat.ble_eq, List.flatten_cons, List.flatten_nil, List.append_nil, List.length_append, List.length_cons, List.length_nil]; omega
  have hj : [a, b].flatten = a ++ b := by simp
  unfold a_law02_MacDerives r_law02_MacDerives
  simp only [↓amD, amU, Nat.reduceBEq, Nat.reduceAdd, Nat.reduceSub, Nat.reduceMul, Nat.reduceMod, Nat.reducePow, Nat.reduceLT, Nat.reduceDiv, Int.reduceToNat, BitVec.reduceToNat, zipEnv, Int.reduceLE, Int.reduceLT, Int.reduceNeg, BitVec.reduceEq, Int.reduceAdd, Int.reduceSub, Int.reduceMul, Nat.reduceLeDiff, Int.reduceEq, h7, h8, h17, kAwake, kc, kd, ke, kt, h18]
  refine Eq.mpr (kDer _ _ _ _ key lab [a, b] (BsIn.own rfl _ rfl) (PartsIn.sl rfl rfl (.cons (BsIn.own rfl _ rfl) (.cons (BsIn.own rfl _ rfl) .nil))) p2) ?_
  simp only [↓amD, amU, Nat.reduceBEq, Nat.reduceAdd, Nat.reduceSub, Nat.reduceMul, Nat.reduceMod, Nat.reducePow, Nat.reduceLT, Nat.reduceDiv, Int.reduceToNat, BitVec.reduceToNat, zipEnv, Int.reduceLE, Int.reduceLT, Int.reduceNeg, BitVec.reduceEq, Int.reduceAdd, Int.reduceSub, Int.reduceMul, Nat.reduceLeDiff, Int.reduceEq, h19]
  refine Eq.mpr (kDer _ _ _ _ key lab [a, b] (BsIn.own rfl _ rfl) (PartsIn.sl rfl rfl (.cons (BsIn.own rfl _ rfl) (.cons (BsIn.own rfl _ rfl) .nil))) p2) ?_
  simp only [↓amD, amU, Nat.reduceBEq, Nat.reduceAdd, Nat.reduceSub, Nat.reduceMul, Nat.reduceMod, Nat.reducePow, Nat.reduceLT, Nat.reduceDiv, Int.reduceToNat, BitVec.reduceToNat, zipEnv, Int.reduceLE, Int.reduceLT, Int.reduceNeg, BitVec.reduceEq, Int.reduceAdd, Int.reduceSub, Int.reduceMul, Nat.reduceLeDiff, Int.reduceEq, eqL_bs, h18]
  refine Eq.mpr (kDer _ _ _ _ key lab [] (BsIn.own rfl _ rfl) (PartsIn.nil _) p0) ?_
  simp only [↓amD, amU, Nat.reduceBEq, Nat.reduceAdd, Nat.reduceSub, Nat.reduceMul, Nat.reduceMod, Nat.reducePow, Nat.reduceLT, Nat.reduceDiv, Int.reduceToNat, BitVec.reduceToNat, zipEnv, Int.reduceLE, Int.reduceLT, Int.reduceNeg, BitVec.reduceEq, Int.reduceAdd, Int.reduceSub, Int.reduceMul, Nat.reduceLeDiff, Int.reduceEq, eqL_bs, h19]
  refine Eq.mpr (kDer _ _ _ _ key lab [] (BsIn.own rfl _ rfl) (PartsIn.nil _) p0) ?_
  simp only [↓amD, amU, Nat.reduceBEq, Nat.reduceAdd, Nat.reduceSub, Nat.reduceMul, Nat.reduceMod, Nat.reducePow, Nat.reduceLT, Nat.reduceDiv, Int.reduceToNat, BitVec.reduceToNat, zipEnv, Int.reduceLE, Int.reduceLT, Int.reduceNeg, BitVec.reduceEq, Int.reduceAdd, Int.reduceSub, Int.reduceMul, Nat.reduceLeDiff, Int.reduceEq, eqL_bs, h16]
  refine Eq.mpr (kJoin _ _ _ 2 _ _ [a, b] rfl rfl (.cons (BsIn.own rfl _ rfl) (.cons (BsIn.own rfl _ rfl) .nil)) (by simp) (by rw [hj, List.length_append]; omega)) ?_
  rw [hj]
  have hab : (a ++ b).length = a.length + b.length := List.length_append
  rw [hab]
  simp only [↓amD, amU, Nat.reduceBEq, Nat.reduceAdd, Nat.reduceSub, Nat.reduceMul, Nat.reduceMod, Nat.reducePow, Nat.reduceLT, Nat.reduceDiv, Int.reduceToNat, BitVec.reduceToNat, zipEnv, Int.reduceLE, Int.reduceLT, Int.reduceNeg, BitVec.reduceEq, Int.reduceAdd, Int.reduceSub, Int.reduceMul, Nat.reduceLeDiff, Int.reduceEq, h18]
  refine Eq.mpr (kDer _ _ _ _ key lab [a ++ b] (BsIn.own rfl _ rfl) (PartsIn.sl rfl rfl (.cons (BsIn.own rfl _ hab.symm) .nil)) p1) ?_
  simp only [↓amD, amU, Nat.reduceBEq, Nat.reduceAdd, Nat.reduceSub, Nat.reduceMul, Nat.reduceMod, Nat.reducePow, Nat.reduceLT, Nat.reduceDiv, Int.reduceToNat, BitVec.reduceToNat, zipEnv, Int.reduceLE, Int.reduceLT, Int.reduceNeg, BitVec.reduceEq, Int.reduceAdd, Int.reduceSub, Int.reduceMul, Nat.reduceLeDiff, Int.reduceEq, eqL_bs, h16]
  refine Eq.mpr (kJoin _ _ _ 2 _ _ [a, b] rfl rfl (.cons (BsIn.own rfl _ rfl) (.cons (BsIn.own rfl _ rfl) .nil)) (by simp) (by rw [hj, List.length_append]; omega)) ?_
  rw [hj, hab]
  simp only [↓amD, amU, Nat.reduceBEq, Nat.reduceAdd, Nat.reduceSub, Nat.reduceMul, Nat.reduceMod, Nat.reducePow, Nat.reduceLT, Nat.reduceDiv, Int.reduceToNat, BitVec.reduceToNat, zipEnv, Int.reduceLE, Int.reduceLT, Int.reduceNeg, BitVec.reduceEq, Int.reduceAdd, Int.reduceSub, Int.reduceMul, Nat.reduceLeDiff, Int.reduceEq, h19]
  refine Eq.mpr (kDer _ _ _ _ key lab [a ++ b] (BsIn.own rfl _ rfl) (PartsIn.sl rfl rfl (.cons (BsIn.own rfl _ hab.symm) .nil)) p1) ?_
  simp only [↓amD, amU, Nat.reduceBEq, Nat.reduceAdd, Nat.reduceSub, Nat.reduceMul, Nat.reduceMod, Nat.reducePow, Nat.reduceLT, Nat.reduceDiv, Int.reduceToNat, BitVec.reduceToNat, zipEnv, Int.reduceLE, Int.reduceLT, Int.reduceNeg, BitVec.reduceEq, Int.reduceAdd, Int.reduceSub, Int.reduceMul, Nat.reduceLeDiff, Int.reduceEq, eqL_bs]
end Job
end Go.Am
