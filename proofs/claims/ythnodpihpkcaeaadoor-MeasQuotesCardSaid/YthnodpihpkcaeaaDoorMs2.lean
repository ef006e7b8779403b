/- measurements: quotes -/
import Derived.Test.YthnodpihpkcaeaaDoorMs1
namespace Go.Am
set_option linter.unusedSimpArgs false
set_option linter.unusedVariables false
attribute [local congr] bnd_congr kCond_congr kGd_congr kPick_congr kCall_congr kIdx_congr kSlice_congr kLoop_congr cond_congr' aBin_congr aBounds_congr aApp_congr aCopy_congr kFn_congr
namespace Job
open Go.Am.F
set_option maxRecDepth 10000
namespace Ms
def numI (n : Nat) : List (BitVec 8) := [BitVec.ofNat 8 (n / 16777216), BitVec.ofNat 8 (n / 65536), BitVec.ofNat 8 (n / 256), BitVec.ofNat 8 n]
theorem numI_len (n : Nat) : (numI n).length = 4 := rfl
theorem b_shri (n : Int) (m : BitVec 64) (k : D → Prop) : aBin .shr (it n) (u64 m) k = k (.raw (it (n.fdiv (2 ^ (min m.toNat 64))))) := by
  simp only [aBin, it, u64, Int.toNat_natCast, IntKind.bits]
  simp
theorem fdiv_nat (n m : Nat) : (n : Int).fdiv (m : Int) = ((n / m : Nat) : Int) := by
  rw [Int.fdiv_eq_ediv_of_nonneg _ (by omega)]; rfl
theorem num4I (n : Nat) (h : n < 18446744073709551616) : numL 4 (BitVec.ofNat 64 n) = numI n := by
  have d1 : ∀ x : BitVec 64, x / 256#64 = x >>> 8 := fun x => by
    apply BitVec.eq_of_toNat_eq
    rw [BitVec.toNat_udiv, BitVec.toNat_ushiftRight, Nat.shiftRight_eq_div_pow]; rfl
  have d2 : ∀ x : BitVec 64, (x % 256#64).setWidth 8 = x.setWidth 8 := fun x => by
    apply BitVec.eq_of_toNat_eq
    rw [BitVec.toNat_setWidth, BitVec.toNat_setWidth, BitVec.toNat_umod]
    simp
  have d3 : ∀ (x : BitVec 64) (i j : Nat), (x >>> i) >>> j = x >>> (i + j) := fun x i j => (BitVec.shiftRight_add x i j).symm
  simp only [numL, d1, d2, d3, List.nil_append, List.cons_append, numI, Nat.reduceAdd, List.cons.injEq, and_true]
  have key : ∀ (i : Nat), (BitVec.ofNat 64 n >>> i).setWidth 8 = BitVec.ofNat 8 (n / 2 ^ i) := fun i => by
    apply BitVec.eq_of_toNat_eq
    rw [BitVec.toNat_setWidth, BitVec.toNat_ushiftRight, Nat.shiftRight_eq_div_pow]
    simp only [BitVec.toNat_ofNat]
    rw [Nat.mod_eq_of_lt (by omega : n < 2 ^ 64)]
  refine ⟨key 24, key 16, key 8, ?_⟩
  simp
theorem kNumS4 (rows : Rows) (k : D → Rows → Prop) (n : Nat) (h : n < 18446744073709551616) : kCall fNumS rows k [.raw (u64 (BitVec.ofInt 64 (n : Int))), .raw (it 4)] = k (.sl L8 (0 + rows.length) [] 0 4 false) (rows ++ [some ⟨L8, bs (numI n)⟩]) := by
  have e : BitVec.ofInt 64 (n : Int) = BitVec.ofNat 64 n := rfl
  rw [e]
  refine (kCall_val rfl (r := outBs (numI n) false) ?_).trans ?_
  · rw [fNumS, fn2_eq (rd64_eq _) (rdI_eq 4) (by decide)]
    show some (outBs (numL 4 (BitVec.ofNat 64 n)) false) = _
    rw [num4I n h]
  · simp [outBs, shift, shiftRows, Sh.pure, numI_len]
end Ms
open Ms
theorem RdIn.lst {rows : Rows} {e : Bool} {l : List D} {ls : List (List (BitVec 8))} (h : All2 (fun x y => IsBs x y) l ls) : RdIn rows rdBss (.lst .ref l e) ls := by
  have h0 : ∀ (l : List D) (ls : List (List (BitVec 8))), All2 (fun x y => IsBs x y) l ls → mapO rdBs l = some ls := by
    intro l
    induction l with
    | nil => intro ls h; have := h.len; cases ls with
      | nil => rfl
      | cons _ _ => simp at this
    | cons x l ih => intro ls h; cases ls with
      | nil => have := h.len; simp at this
      | cons y ls => simp only [mapO, h.head.rd, ih ls h.tail]
  refine ⟨?_, fun _ => by simpa [rdBss] using h0 l ls h⟩
  obtain ⟨l', q1, q2⟩ := view_parts (rows := rows) (h.mono fun x y hb => IsBs.to hb)
  exact ⟨.lst .ref l' e, by simp only [view, Sh.pure, cond_false, q1], by simpa [rdBss] using q2⟩
def quo : List (BitVec 8) := [81#8, 85#8, 79#8, 84#8]
/-- what is told by a quote -/
def quoT (nonce : List (BitVec 8)) (r : List (List (BitVec 8))) : List (BitVec 8) := quo ++ (numI nonce.length ++ (nonce ++ r.flatten))
theorem quoT_len {nonce : List (BitVec 8)} {r : List (List (BitVec 8))} (h : okR r = true) : (quoT nonce r).length = nonce.length + 136 := by
  simp only [quoT, List.length_append, okR_flat h, numI_len, quo, List.length_cons, List.length_nil]; omega
noncomputable def rdLX : D → Option (List (BitVec 8) × Bool)
  | .lst s l e => match rdBs (.lst s l e) with
    | some p => some (p, e)
    | none => none
  | _ => none
theorem rdLX_some {d : D} {p : List (BitVec 8)} {e : Bool} (h : rdLX d = some (p, e)) : d = .lst L8 (bs p) e := by
  unfold rdLX at h
  split at h
  · split at h
    · rename_i q hq
      injection h with h
      injection h with h1 h2
      subst h1; subst h2
      rcases rdBs_some hq with ⟨h1, -⟩ | ⟨e', h1⟩
      · cases h1
      · injection h1 with h1 h2 h3
        rw [h1, h2]
    · cases h
  · cases h
theorem rdLX_eq (p : List (BitVec 8)) (e : Bool) : rdLX (.lst L8 (bs p) e) = some (p, e) := by
  have : rdBs (.lst L8 (bs p) e) = some p := IsBs.rd (.inr ⟨e, rfl⟩)
  simp only [rdLX, this]
def partL (nonce : List (BitVec 8)) (e : Bool) (r : List (List (BitVec 8))) : List D := [.lst L8 (bs quo) true, .lst L8 (bs (numI nonce.length)) true, .lst L8 (bs nonce) e, .lst L8 (bs r.flatten) false]
theorem partL_all (nonce : List (BitVec 8)) (e : Bool) (r : List (List (BitVec 8))) : All2 (fun x y => IsBs x y) (partL nonce e r) [quo, numI nonce.length, nonce, r.flatten] :=
  .cons (.inr ⟨_, rfl⟩) (.cons (.inr ⟨_, rfl⟩) (.cons (.inr ⟨_, rfl⟩) (.cons (.inr ⟨_, rfl⟩) .nil)))
theorem part_flat (nonce : List (BitVec 8)) (r : List (List (BitVec 8))) : [quo, numI nonce.length, nonce, r.flatten].flatten = quoT nonce r := by simp [quoT]
noncomputable def fPartsQ : Fn := fn2 rdLX (rdOf allD) (fun _ r => okR r) fun p r => (.lst .ref (partL p.1 p.2 r) true, [])
theorem partsq_ok (C : Ctx) (hC : CtxOK C P) (h1 : C.fn 34 = some fMText) : Meets C.glob P 24 (Fn.run fPartsQ) := by
  refine fn_meets (m_meas_parts C hC) fun ds rows r h => ?_
  obtain ⟨d0, d1, ⟨p, e⟩, r, rfl, rfl, g0, g1, hr, rfl⟩ := fn2_some h
  cases rdLX_some g0
  cases rdOf_some g1
  refine ⟨rfl, afun_mk rfl ?_⟩
  clear h g0 g1
  unfold a_meas_parts r_meas_parts
  have e1 : (p.length : Int).fdiv (2 ^ (min 24 64)) = ((p.length / 16777216 : Nat) : Int) := fdiv_nat p.length 16777216
  have e2 : (p.length : Int).fdiv (2 ^ (min 16 64)) = ((p.length / 65536 : Nat) : Int) := fdiv_nat p.length 65536
  have e3 : (p.length : Int).fdiv (2 ^ (min 8 64)) = ((p.length / 256 : Nat) : Int) := fdiv_nat p.length 256
  have e4 : ∀ m : Nat, BitVec.ofInt 8 (m : Int) = BitVec.ofNat 8 m := fun m => rfl
  have af : ∀ r, D.fits (allD r) SAll = true := fun _ => rfl
  simp only [↓amD, amU, Nat.reduceBEq, Nat.reduceAdd, Nat.reduceSub, Nat.reduceMul, Nat.reduceMod, Nat.reducePow, Nat.reduceLT, Nat.reduceDiv, Int.reduceToNat, BitVec.reduceToNat, zipEnv, Int.reduceLE, Int.reduceLT, Int.reduceNeg, BitVec.reduceEq, Int.reduceAdd, Int.reduceSub, Int.reduceMul, Nat.reduceLeDiff, Int.reduceEq, lv_app0, lv_appk, set_app0, set_appk, List.append_assoc, List.append_nil, Nat.add_assoc, bs_len, b_shri, e1, e2, e3, e4, af, h1, kMText _ _ _ hr]
  refine .frz _ _ ?_
  have hf := okR_flat hr
  have hb : (bs r.flatten).length = 128 := by rw [bs_len, hf]
  have ht : (bs r.flatten).take 128 = bs r.flatten := List.take_of_length_le (by omega)
  unfold partL
  generalize bs r.flatten = B at hb ht ⊢
  simp [view, elems, live, mapO, Sh.pure, quo, numI, hb, ht, bs]
theorem kPartsQ (rows : Rows) (k : D → Rows → Prop) (p : List (BitVec 8)) (e : Bool) (r : List (List (BitVec 8))) (h : okR r = true) : kCall fPartsQ rows k [.lst L8 (bs p) e, allD r] = k (.lst .ref (partL p e r) true) rows := by
  refine (kCall_val rfl (r := (.lst .ref (partL p e r) true, [])) ?_).trans ?_
  · exact fn2_eq (rdLX_eq p e) (rdOf_eq allD_inj r) h
  · simp [shift, shiftL, shiftRows, partL, Sh.pure]
/-- a quote -/
def quoS (key nonce : List (BitVec 8)) (r : List (List (BitVec 8))) : List (BitVec 8) := hmac key (quoT nonce r)
theorem quoS_len (key nonce : List (BitVec 8)) (r : List (List (BitVec 8))) : (quoS key nonce r).length = 32 := hmac_len _ _
noncomputable def fCheckQ : Fn := gn4 rdBs rdBs (rdOf allD) (rdOf d32D) (fun k n r q => Nat.ble k.length most && Nat.ble n.length 1000000 && okR r && decide (q.length = 32)) fun k n r q => (.raw (.bool (decide (quoS k n r = q))), [])
theorem checkq_ok (C : Ctx) (hC : CtxOK C P) (h1 : C.fn 24 = some fPartsQ) (h2 : C.fn 27 = some fMacSum) (h3 : C.fn 26 = some fMEqual) : Meets C.glob P 15 (Fn.run fCheckQ) := by
  refine fn_meetsN (m_meas_Check C hC) fun ds rows r h => ?_
  obtain ⟨d0, d1, d2, d3, key, p, r, q, rfl, rfl, g0, g1, g2, g3, hp, rfl⟩ := gn4_some h
  obtain ⟨x, hx⟩ := rdBs_nrm g0
  obtain ⟨y, hy⟩ := rdBs_nrm g1
  cases rdOf_some g2
  cases rdOf_some g3
  simp only [Bool.and_eq_true, decide_eq_true_eq, Nat.ble_eq] at hp
  obtain ⟨⟨⟨hk, hn⟩, hr⟩, hq⟩ := hp
  unfold most at hk
  refine ⟨rfl, _, .cons hx (.cons hy (.cons (.refl _) (.cons (.refl _) .nil))), afun_mk rfl ?_⟩
  clear h g0 g1 g2 g3 hx hy
  unfold a_meas_Check r_meas_Check
  have af : ∀ r, D.fits (allD r) SAll = true := fun _ => rfl
  have ht := quoT_len (nonce := p) hr
  have kM : ∀ rows k, kCall fMacSum rows k [.lst L8 (bs key) x, .lst .ref (partL p y r) true] = k (.agg (.ar 32 L8) (bs (quoS key p r))) rows := fun rows k => by
    refine (kCall_rd2 (RdIn.bs (IsBs.to (.inr ⟨x, rfl⟩))) (RdIn.lst (partL_all p y r)) ?_ (by simp [d32D, noLst, noLstRows, Sh.pure]) k).trans ?_
    · simp only [part_flat, ht, Bool.and_eq_true, Nat.ble_eq, most]
      exact ⟨hk, by simp, by omega⟩
    · rw [part_flat]
      simp [d32D, shift, shiftRows, Sh.pure, quoS]
  simp only [d32D, ↓amD, amU, Nat.reduceBEq, Nat.reduceAdd, Nat.reduceSub, Nat.reduceMul, Nat.reduceMod, Nat.reducePow, Nat.reduceLT, Nat.reduceDiv, Int.reduceToNat, BitVec.reduceToNat, zipEnv, Int.reduceLE, Int.reduceLT, Int.reduceNeg, BitVec.reduceEq, Int.reduceAdd, Int.reduceSub, Int.reduceMul, Nat.reduceLeDiff, Int.reduceEq, lv_app0, lv_appk, set_app0, set_appk, List.append_assoc, List.append_nil, Nat.add_assoc, af, h1, kPartsQ _ _ _ _ _ hr, h2, kM, h3, kMEqual _ _ _ _ (quoS_len key p r) hq]
  exact .val _ rfl
theorem kCheckQ (rows : Rows) (k : D → Rows → Prop) (d e : D) (key p : List (BitVec 8)) (r : List (List (BitVec 8))) (q : List (BitVec 8)) (h : BsIn rows d key) (h' : BsIn rows e p) (hk : key.length ≤ 1099511627776) (hn : p.length ≤ 1000000) (hr : okR r = true) (hq : q.length = 32) :
    kCall fCheckQ rows k [d, e, allD r, .agg (.ar 32 L8) (bs q)] = k (.raw (.bool (decide (quoS key p r = q)))) rows := by
  refine (kCall_g4 (RdIn.bs h) (RdIn.bs h') (all_pure r rows) (rdIn_d32 q) (by simp only [Bool.and_eq_true, decide_eq_true_eq, Nat.ble_eq]; exact ⟨⟨⟨hk, hn⟩, hr⟩, hq⟩) rfl k).trans ?_
  simp [shift, shiftRows]
noncomputable def fSumQ : Fn := fn3 (rdOf d32D) rdBs (rdOf allD) (fun k n r => decide (k.length = 32) && Nat.ble n.length 1000000 && okR r) fun k n r => (d32D (quoS k n r), [])
theorem sumq_ok (C : Ctx) (hC : CtxOK C P) (h1 : C.fn 14 = some fNumS) (h2 : C.fn 13 = some fJoin) (h3 : C.fn 12 = some fRMac) : Meets C.glob P 16 (Fn.run fSumQ) := by
  refine fn_meetsN (m_law16_sum C hC) fun ds rows r h => ?_
  obtain ⟨d0, d1, d2, key, p, r, rfl, rfl, g0, g1, g2, hp, rfl⟩ := fn3_some h
  cases rdOf_some g0
  obtain ⟨y, hy⟩ := rdBs_nrm g1
  cases rdOf_some g2
  simp only [Bool.and_eq_true, decide_eq_true_eq, Nat.ble_eq] at hp
  obtain ⟨⟨hk, hn⟩, hr⟩ := hp
  refine ⟨rfl, _, .cons (.refl _) (.cons hy (.cons (.refl _) .nil)), afun_mk rfl ?_⟩
  clear h g0 g1 g2 hy
  obtain ⟨h4, h32⟩ := okR_eq.1 hr
  have ht := quoT_len (nonce := p) hr
  match r, h4 with
  | [r0, r1, r2, r3], _ =>
  have q0 := h32 r0 (by simp)
  have q1 := h32 r1 (by simp)
  have q2 := h32 r2 (by simp)
  have q3 := h32 r3 (by simp)
  unfold a_law16_sum r_law16_sum
  simp only [z32_eq]
  simp only [d32D, allD, List.map_cons, List.map_nil, ↓amD, amU, Nat.reduceBEq, Nat.reduceAdd, Nat.reduceSub, Nat.reduceMul, Nat.reduceMod, Nat.reducePow, Nat.reduceLT, Nat.reduceDiv, Int.reduceToNat, BitVec.reduceToNat, zipEnv, Int.reduceLE, Int.reduceLT, Int.reduceNeg, BitVec.reduceEq, Int.reduceAdd, Int.reduceSub, Int.reduceMul, Nat.reduceLeDiff, Int.reduceEq, lv_app0, lv_appk, set_app0, set_appk, List.append_assoc, List.append_nil, Nat.add_assoc, bs_len, h1, kNumS4 _ _ p.length (by omega), h2]
  have hfl : [quo, numI p.length, p, r0, r1, r2, r3].flatten = quoT p [r0, r1, r2, r3] := by simp [quoT]
  refine Eq.mpr (kJoin _ _ _ 7 _ _ [quo, numI p.length, p, r0, r1, r2, r3] rfl rfl (.cons (BsIn.own rfl _ rfl) (.cons (BsIn.own rfl _ rfl) (.cons (IsBs.to (.inr ⟨_, rfl⟩)) (.cons (BsIn.atAll (n := 32) rfl rfl q0) (.cons (BsIn.atAll (n := 32) rfl rfl q1) (.cons (BsIn.atAll (n := 32) rfl rfl q2) (.cons (BsIn.atAll (n := 32) rfl rfl q3) .nil))))))) (by simp) (by rw [hfl]; omega)) ?_
  rw [hfl]
  simp only [↓amD, amU, Nat.reduceBEq, Nat.reduceAdd, Nat.reduceSub, Nat.reduceMul, Nat.reduceMod, Nat.reducePow, Nat.reduceLT, Nat.reduceDiv, Int.reduceToNat, BitVec.reduceToNat, zipEnv, Int.reduceLE, Int.reduceLT, Int.reduceNeg, BitVec.reduceEq, Int.reduceAdd, Int.reduceSub, Int.reduceMul, Nat.reduceLeDiff, Int.reduceEq, lv_app0, lv_appk, set_app0, set_appk, List.append_assoc, List.append_nil, Nat.add_assoc, h3]
  refine Eq.mpr (kRMac _ _ _ _ key (quoT p [r0, r1, r2, r3]) (BsIn.atAll (n := 32) rfl rfl hk) (BsIn.own rfl _ rfl) (by omega) (by omega)) ?_
  simp only [↓amD, amU, Nat.reduceBEq, Nat.reduceAdd, Nat.reduceSub, Nat.reduceMul, Nat.reduceMod, Nat.reducePow, Nat.reduceLT, Nat.reduceDiv, Int.reduceToNat, BitVec.reduceToNat, zipEnv, Int.reduceLE, Int.reduceLT, Int.reduceNeg, BitVec.reduceEq, Int.reduceAdd, Int.reduceSub, Int.reduceMul, Nat.reduceLeDiff, Int.reduceEq, lv_app0, lv_appk, set_app0, set_appk, List.append_assoc, List.append_nil, Nat.add_assoc]
  exact .val _ rfl
theorem kSumQ (rows : Rows) (k : D → Rows → Prop) (e : D) (key p : List (BitVec 8)) (r : List (List (BitVec 8))) (h' : BsIn rows e p) (hk : key.length = 32) (hn : p.length ≤ 1000000) (hr : okR r = true) :
    kCall fSumQ rows k [.agg (.ar 32 L8) (bs key), e, allD r] = k (.agg (.ar 32 L8) (bs (quoS key p r))) rows := by
  refine (kCall_rd3 (rdIn_d32 key) (RdIn.bs h') (all_pure r rows) (by simp only [Bool.and_eq_true, decide_eq_true_eq, Nat.ble_eq]; exact ⟨⟨hk, hn⟩, hr⟩) (by simp [d32D, noLst, noLstRows, Sh.pure]) k).trans ?_
  simp [shift, shiftRows, d32D, Sh.pure]
noncomputable def fNextR : Fn := fn2 (rdOf d32D) rdBs (fun d p => decide (d.length = 32) && Nat.ble p.length 1000000) fun d p => (d32D (sumS (d ++ sumS p)), [])
theorem nextr_ok (C : Ctx) (hC : CtxOK C P) (h1 : C.fn 25 = some fRSum) (h2 : C.fn 13 = some fJoin) : Meets C.glob P 19 (Fn.run fNextR) := by
  refine fn_meetsN (m_law16_next C hC) fun ds rows r h => ?_
  obtain ⟨d0, d1, d, p, rfl, rfl, g0, g1, hp, rfl⟩ := fn2_some h
  cases rdOf_some g0
  obtain ⟨y, hy⟩ := rdBs_nrm g1
  simp only [Bool.and_eq_true, decide_eq_true_eq, Nat.ble_eq] at hp
  obtain ⟨hd, hp⟩ := hp
  refine ⟨rfl, _, .cons (.refl _) (.cons hy .nil), afun_mk rfl ?_⟩
  clear h g0 g1 hy
  unfold a_law16_next r_law16_next
  simp only [z32_eq]
  simp only [d32D, ↓amD, amU, Nat.reduceBEq, Nat.reduceAdd, Nat.reduceSub, Nat.reduceMul, Nat.reduceMod, Nat.reducePow, Nat.reduceLT, Nat.reduceDiv, Int.reduceToNat, BitVec.reduceToNat, zipEnv, Int.reduceLE, Int.reduceLT, Int.reduceNeg, BitVec.reduceEq, Int.reduceAdd, Int.reduceSub, Int.reduceMul, Nat.reduceLeDiff, Int.reduceEq, lv_app0, lv_appk, set_app0, set_appk, List.append_assoc, List.append_nil, Nat.add_assoc, h1]
  refine Eq.mpr (kRSum _ _ _ p (IsBs.to (.inr ⟨_, rfl⟩)) (by omega)) ?_
  simp only [↓amD, amU, Nat.reduceBEq, Nat.reduceAdd, Nat.reduceSub, Nat.reduceMul, Nat.reduceMod, Nat.reducePow, Nat.reduceLT, Nat.reduceDiv, Int.reduceToNat, BitVec.reduceToNat, zipEnv, Int.reduceLE, Int.reduceLT, Int.reduceNeg, BitVec.reduceEq, Int.reduceAdd, Int.reduceSub, Int.reduceMul, Nat.reduceLeDiff, Int.reduceEq, lv_app0, lv_appk, set_app0, set_appk, List.append_assoc, List.append_nil, Nat.add_assoc, h2]
  have hs := sumS_len p
  refine Eq.mpr (kJoin _ _ _ 2 _ _ [d, sumS p] rfl rfl (.cons (BsIn.atAll (n := 32) rfl rfl hd) (.cons (BsIn.atAll (n := 32) rfl rfl hs) .nil)) (by simp) (by simp only [List.flatten_cons, List.flatten_nil, List.length_append, List.length_nil, hd, hs]; omega)) ?_
  have e : [d, sumS p].flatten = d ++ sumS p := by simp
  rw [e]
  simp only [↓amD, amU, Nat.reduceBEq, Nat.reduceAdd, Nat.reduceSub, Nat.reduceMul, Nat.reduceMod, Nat.reducePow, Nat.reduceLT, Nat.reduceDiv, Int.reduceToNat, BitVec.reduceToNat, zipEnv, Int.reduceLE, Int.reduceLT, Int.reduceNeg, BitVec.reduceEq, Int.reduceAdd, Int.reduceSub, Int.reduceMul, Nat.reduceLeDiff, Int.reduceEq, lv_app0, lv_appk, set_app0, set_appk, List.append_assoc, List.append_nil, Nat.add_assoc, h1]
  refine Eq.mpr (kRSum _ _ _ (d ++ sumS p) (BsIn.own rfl _ List.length_append.symm) (by rw [List.length_append, hd, hs]; omega)) ?_
  simp only [↓amD, amU, Nat.reduceBEq, Nat.reduceAdd, Nat.reduceSub, Nat.reduceMul, Nat.reduceMod, Nat.reducePow, Nat.reduceLT, Nat.reduceDiv, Int.reduceToNat, BitVec.reduceToNat, zipEnv, Int.reduceLE, Int.reduceLT, Int.reduceNeg, BitVec.reduceEq, Int.reduceAdd, Int.reduceSub, Int.reduceMul, Nat.reduceLeDiff, Int.reduceEq, lv_app0, lv_appk, set_app0, set_appk, List.append_assoc, List.append_nil, Nat.add_assoc]
  exact .val _ rfl
theorem kNextR (rows : Rows) (k : D → Rows → Prop) (d p : List (BitVec 8)) (e : D) (h : BsIn rows e p) (hd : d.length = 32) (hp : p.length ≤ 1000000) : kCall fNextR rows k [.agg (.ar 32 L8) (bs d), e] = k (.agg (.ar 32 L8) (bs (sumS (d ++ sumS p)))) rows := by
  refine (kCall_rd2 (rdIn_d32 d) (RdIn.bs h) (by simp only [Bool.and_eq_true, decide_eq_true_eq, Nat.ble_eq]; exact ⟨hd, hp⟩) (by simp [d32D, noLst, noLstRows, Sh.pure]) k).trans ?_
  simp [shift, shiftRows, d32D, Sh.pure]
noncomputable def fAwakeM : Fn
  | [], [] => some (.raw (.bool true), [])
  | _, _ => none
theorem awakem_ok (C : Ctx) (hC : CtxOK C P) (h1 : C.fn 5 = some fMsNew) (h2 : C.fn 6 = some fExtend) (h3 : C.fn 18 = some fGetR) (h4 : C.fn 19 = some fNextR) : Meets C.glob P 4 (Fn.run fAwakeM) := by
  refine fn_meets (m_law16_awake C hC) fun ds rows r h => ?_
  unfold fAwakeM at h
  split at h
  · cases h
    refine ⟨rfl, afun_mk rfl ?_⟩
    unfold a_law16_awake r_law16_awake
    simp only [z32_eq, zR_eq]
    have zr : D.agg SMeas [.agg SAll (zR.map d32D)] = measD zR := rfl
    have zo : okR zR = true := rfl
    have hm : ∀ r, D.fits (measD r) SMeas = true := fun _ => rfl
    simp only [zr, ↓amD, amU, Nat.reduceBEq, Nat.reduceAdd, Nat.reduceSub, Nat.reduceMul, Nat.reduceMod, Nat.reducePow, Nat.reduceLT, Nat.reduceDiv, Int.reduceToNat, BitVec.reduceToNat, zipEnv, Int.reduceLE, Int.reduceLT, Int.reduceNeg, BitVec.reduceEq, Int.reduceAdd, Int.reduceSub, Int.reduceMul, Nat.reduceLeDiff, Int.reduceEq, lv_app0, lv_appk, set_app0, set_appk, List.append_assoc, List.append_nil, Nat.add_assoc, h1, kMsNew, h2]
    refine Eq.mpr (kExtend _ _ zR 0 _ 1 _ _ [[97#8]] zo rfl rfl (.cons (BsIn.own rfl _ rfl) .nil) (by decide) (by decide)) ?_
    have ie : inR 0 = true := rfl
    have hx : extR zR 0 [[97#8]].flatten = [sumS (z32 ++ sumS [97#8]), z32, z32, z32] := rfl
    have ho := extR_ok zo 0 [[97#8]].flatten
    rw [hx] at ho ⊢
    have hl := sumS_len (z32 ++ sumS [97#8])
    simp only [↓amD, amU, Nat.reduceBEq, Nat.reduceAdd, Nat.reduceSub, Nat.reduceMul, Nat.reduceMod, Nat.reducePow, Nat.reduceLT, Nat.reduceDiv, Int.reduceToNat, BitVec.reduceToNat, zipEnv, Int.reduceLE, Int.reduceLT, Int.reduceNeg, BitVec.reduceEq, Int.reduceAdd, Int.reduceSub, Int.reduceMul, Nat.reduceLeDiff, Int.reduceEq, lv_app0, lv_appk, set_app0, set_appk, List.append_assoc, List.append_nil, Nat.add_assoc, hm, ie, h3, kGetR _ _ _ _ ho]
    have hg : d32D ([sumS (z32 ++ sumS [97#8]), z32, z32, z32].getD 0 []) = .agg (.ar 32 L8) (bs (sumS (z32 ++ sumS [97#8]))) := rfl
    rw [hg]
    have kN := fun rows k d h => kNextR rows k z32 [97#8] d h rfl (by decide)
    simp only [d32D, ↓amD, amU, Nat.reduceBEq, Nat.reduceAdd, Nat.reduceSub, Nat.reduceMul, Nat.reduceMod, Nat.reducePow, Nat.reduceLT, Nat.reduceDiv, Int.reduceToNat, BitVec.reduceToNat, zipEnv, Int.reduceLE, Int.reduceLT, Int.reduceNeg, BitVec.reduceEq, Int.reduceAdd, Int.reduceSub, Int.reduceMul, Nat.reduceLeDiff, Int.reduceEq, lv_app0, lv_appk, set_app0, set_appk, List.append_assoc, List.append_nil, Nat.add_assoc, h4]
    refine Eq.mpr (kN _ _ _ (BsIn.own rfl _ rfl)) ?_
    generalize sumS (z32 ++ sumS [97#8]) = y at *
    simp only [↓amD, amU, Nat.reduceBEq, Nat.reduceAdd, Nat.reduceSub, Nat.reduceMul, Nat.reduceMod, Nat.reducePow, Nat.reduceLT, Nat.reduceDiv, Int.reduceToNat, BitVec.reduceToNat, zipEnv, Int.reduceLE, Int.reduceLT, Int.reduceNeg, BitVec.reduceEq, Int.reduceAdd, Int.reduceSub, Int.reduceMul, Nat.reduceLeDiff, Int.reduceEq, lv_app0, lv_appk, set_app0, set_appk, List.append_assoc, List.append_nil, Nat.add_assoc, eqA_d32 y y hl hl, decide_true]
    exact .val _ rfl
  · cases h
theorem kAwakeM (rows : Rows) (k : D → Rows → Prop) : kCall fAwakeM rows k [] = k (.raw (.bool true)) rows := by
  refine (kCall_val rfl (r := (.raw (.bool true), [])) rfl).trans ?_
  simp [shift, shiftRows]
end Job
end Go.Am
