/- HMAC: keys of keys -/
import Derived.Test.YtkaenkchaenlkaaDoorMac2
namespace Go.Am
set_option linter.unusedSimpArgs false
set_option linter.unusedVariables false
attribute [local congr] bnd_congr kCond_congr kGd_congr kPick_congr kCall_congr kIdx_congr kSlice_congr kLoop_congr cond_congr' aBin_congr aBounds_congr aApp_congr aCopy_congr kFn_congr
namespace Job
open Go.Am.F
set_option maxRecDepth 10000
def numI (n : Nat) : List (BitVec 8) := [BitVec.ofNat 8 (n / 16777216), BitVec.ofNat 8 (n / 65536), BitVec.ofNat 8 (n / 256), BitVec.ofNat 8 n]
theorem numI_len (n : Nat) : (numI n).length = 4 := rfl
theorem b_shri (n : Int) (m : BitVec 64) (k : D → Prop) : aBin .shr (it n) (u64 m) k = k (.raw (it (n.fdiv (2 ^ (min m.toNat 64))))) := by
  simp only [aBin, it, u64, Int.toNat_natCast, IntKind.bits]
  simp
theorem fdiv_nat (n m : Nat) : (n : Int).fdiv (m : Int) = ((n / m : Nat) : Int) := by
  rw [Int.fdiv_eq_ediv_of_nonneg _ (by omega)]; rfl
def fMNum : Fn := fn1 rdI (fun n => decide (0 ≤ n)) fun n => outBs (numI n.toNat) false
theorem mnum_ok (C : Ctx) (hC : CtxOK C P) : Meets C.glob P 28 (Fn.run fMNum) := by
  refine fn_meets (m_mac_num C hC) fun ds rows r h => ?_
  obtain ⟨d, n, rfl, rfl, hd, hp, rfl⟩ := fn1_some h
  cases rdI_some hd
  simp only [decide_eq_true_eq] at hp
  obtain ⟨n, rfl⟩ := Int.eq_ofNat_of_zero_le hp
  refine ⟨rfl, afun_mk rfl ?_⟩
  clear h hd
  have e1 : (n : Int).fdiv (2 ^ (min 24 64)) = ((n / 16777216 : Nat) : Int) := fdiv_nat n 16777216
  have e2 : (n : Int).fdiv (2 ^ (min 16 64)) = ((n / 65536 : Nat) : Int) := fdiv_nat n 65536
  have e3 : (n : Int).fdiv (2 ^ (min 8 64)) = ((n / 256 : Nat) : Int) := fdiv_nat n 256
  have e4 : ∀ m : Nat, BitVec.ofInt 8 (m : Int) = BitVec.ofNat 8 m := fun m => rfl
  unfold a_mac_num r_mac_num
  simp only [↓amD, amU, Nat.reduceBEq, Nat.reduceAdd, Nat.reduceSub, Nat.reduceMul, Nat.reduceMod, Nat.reducePow, Nat.reduceLT, Nat.reduceDiv, Int.reduceToNat, BitVec.reduceToNat, zipEnv, Int.reduceLE, Int.reduceLT, Int.reduceNeg, BitVec.reduceEq, Int.reduceAdd, Int.reduceSub, Int.reduceMul, Nat.reduceLeDiff, Int.reduceEq, b_shri, e1, e2, e3, e4]
  exact .own _ 0 0 _ true false _ rfl rfl (fun h => by cases h)
theorem kMNum (rows : Rows) (k : D → Rows → Prop) (n : Nat) : kCall fMNum rows k [.raw (it (n : Int))] = k (.sl L8 (0 + rows.length) [] 0 4 false) (rows ++ [some ⟨L8, bs (numI n)⟩]) := by
  refine (kCall_val rfl (r := outBs (numI n) false) ?_).trans ?_
  · rw [fMNum, fn1_eq (rdI_eq _) (by simp)]; rfl
  · simp [outBs, shift, shiftRows, Sh.pure, numI_len]
theorem num4I (n : Nat) (h : n < 18446744073709551616) : numL 4 (BitVec.ofNat 64 n) = numI n := by
  have d1 : ∀ x : BitVec 64, x / 256#64 = x >>> 8 := fun x => by
    apply BitVec.eq_of_toNat_eq
    rw [BitVec.toNat_udiv, BitVec.toNat_ushiftRight, Nat.shiftRight_eq_div_pow]; rfl
  have d2 : ∀ x : BitVec 64, (x % 256#64).setWidth 8 = x.setWidth 8 := fun x => by
    apply BitVec.eq_of_toNat_eq
    rw [BitVec.toNat_setWidth, BitVec.toNat_setWidth, BitVec.toNat_umod]
    simp
  have d3 : ∀ (x : BitVec 64) (i j : Nat), (x >>> i) >>> j = x >>> (i + j) := fun x i j => (BitVec.shiftRight_add x i j).symm
  simp only [numL, d1, d2, d3, List.nil_append, List.cons_append, numI, Nat.reduceAdd, List.cons.injEq, and_true]
  have key : ∀ (i : Nat), (BitVec.ofNat 64 n >>> i).setWidth 8 = BitVec.ofNat 8 (n / 2 ^ i) := fun i => by
    apply BitVec.eq_of_toNat_eq
    rw [BitVec.toNat_setWidth, BitVec.toNat_ushiftRight, Nat.shiftRight_eq_div_pow]
    simp only [BitVec.toNat_ofNat]
    rw [Nat.mod_eq_of_lt (by omega : n < 2 ^ 64)]
  refine ⟨key 24, key 16, key 8, ?_⟩
  simp
theorem kNumS4 (rows : Rows) (k : D → Rows → Prop) (n : Nat) (h : n < 18446744073709551616) : kCall fNumS rows k [.raw (u64 (BitVec.ofInt 64 (n : Int))), .raw (it 4)] = k (.sl L8 (0 + rows.length) [] 0 4 false) (rows ++ [some ⟨L8, bs (numI n)⟩]) := by
  have e : BitVec.ofInt 64 (n : Int) = BitVec.ofNat 64 n := rfl
  rw [e]
  refine (kCall_val rfl (r := outBs (numI n) false) ?_).trans ?_
  · rw [fNumS, fn2_eq (rd64_eq _) (rdI_eq 4) (by decide)]
    show some (outBs (numL 4 (BitVec.ofNat 64 n)) false) = _
    rw [num4I n h]
  · simp [outBs, shift, shiftRows, Sh.pure, numI_len]
def sb (b : ByteArray) : List (BitVec 8) := b.data.toList.map fun x => BitVec.ofNat 8 x.toNat
theorem sb_len (b : ByteArray) : (sb b).length = b.size := by
  rw [sb, List.length_map, Array.length_toList]; rfl
theorem ofBytes_sb (b : ByteArray) : ofBytes b = bs (sb b) := by
  simp only [ofBytes, bs, sb, List.map_map]
  refine List.map_congr_left fun x _ => ?_
  have hx : x.toNat < 256 := x.toNat_lt
  simp only [Function.comp_def, u8, BitVec.toNat_ofNat]
  rw [Nat.mod_eq_of_lt (by omega)]
def rdStr : D → Option ByteArray
  | .raw (.string b) => some b
  | _ => none
theorem rdStr_some {d : D} {b : ByteArray} (h : rdStr d = some b) : d = .raw (.string b) := by
  unfold rdStr at h
  split at h
  · cases h; rfl
  · cases h
def rdBssN : D → Option (List (List (BitVec 8)))
  | .raw (.slice none 0 0) => some []
  | .lst s l _ => bif s == .ref then mapO rdBs l else none
  | _ => none
theorem rdBssN_some {d : D} {ls : List (List (BitVec 8))} (h : rdBssN d = some ls) : ∃ l e, Nrm d (.lst .ref l e) ∧ mapO rdBs l = some ls := by
  unfold rdBssN at h
  split at h
  · cases h; exact ⟨[], false, .nil _ _, rfl⟩
  · rename_i s l e
    cases hb : (s == Sh.ref) with
    | false => rw [hb] at h; cases h
    | true =>
      rw [hb] at h
      have : s = .ref := by simpa using hb
      subst this
      exact ⟨l, e, .refl _, h⟩
  · cases h
/-- the text that a key of a key is made of -/
def partT (ls : List (List (BitVec 8))) : List (BitVec 8) := (ls.map fun x => numI x.length ++ x).flatten
theorem partT_snoc (ls : List (List (BitVec 8))) (x : List (BitVec 8)) : partT (ls ++ [x]) = partT ls ++ numI x.length ++ x := by simp [partT]
def derT (lab : ByteArray) (ls : List (List (BitVec 8))) : List (BitVec 8) := numI lab.size ++ sb lab ++ numI ls.length ++ partT ls
def derS (k : List (BitVec 8)) (lab : ByteArray) (ls : List (List (BitVec 8))) : List (BitVec 8) := hmac k (derT lab ls)
theorem partT_len (ls : List (List (BitVec 8))) : (partT ls).length = 4 * ls.length + ls.flatten.length := by
  induction ls with
  | nil => rfl
  | cons x ls ih =>
    simp only [partT, List.map_cons, List.flatten_cons, List.length_append, numI_len, List.length_cons] at ih ⊢
    omega
def derPre (k : List (BitVec 8)) (lab : ByteArray) (ls : List (List (BitVec 8))) : Bool := Nat.ble k.length 1099511627000 && (Nat.ble lab.size 1099511 && (Nat.ble ls.length 1099511 && Nat.ble ls.flatten.length 1099511627))
def fDer : Fn := fn3 rdBs rdStr rdBssN derPre fun k lab ls => (d32D (derS k lab ls), [])
theorem der_ok (C : Ctx) (hC : CtxOK C P) (h10 : C.fn 10 = some fMNew) (h11 : C.fn 11 = some fMFeed) (h12 : C.fn 12 = some fMSum) (h28 : C.fn 28 = some fMNum) : Meets C.glob P 18 (Fn.run fDer) := by
  refine fn_meetsN (m_mac_Derive C hC) fun ds rows r h => ?_
  obtain ⟨d, d1, d2, key, lab, ls, rfl, rfl, hd, he, hf, hp, rfl⟩ := fn3_some h
  obtain ⟨x, hx⟩ := rdBs_nrm hd
  cases rdStr_some he
  obtain ⟨l, e, hn, hl⟩ := rdBssN_some hf
  simp only [derPre, Bool.and_eq_true, Nat.ble_eq] at hp
  obtain ⟨hp0, hp1, hp2, hp3⟩ := hp
  obtain ⟨hlen, hget⟩ := mapO_get hl
  refine ⟨rfl, _, .cons hx (.cons (.refl _) (.cons hn .nil)), afun_mk rfl ?_⟩
  clear h hd he hx hn hf
  have hbs : ∀ i (hi : i < ls.length), ∃ x, l[i]? = some x ∧ IsBs x ls[i] := fun i hi => by
    have hi2 : i < l.length := by omega
    have hli : l[i]? = some l[i] := List.getElem?_eq_getElem hi2
    exact ⟨_, hli, rdBs_some (hget i _ _ hli (List.getElem?_eq_getElem hi))⟩
  have hfit : ∀ x y, IsBs x y → D.fits x .ref = true := fun x y hb => by rcases hb with ⟨h, _⟩ | ⟨e, h⟩ <;> rw [h] <;> rfl
  have o1 := newM_ok key
  have o2 := feedM_ok o1 (numI lab.size)
  have o3 := feedM_ok o2 (sb lab)
  have o4 := feedM_ok o3 (numI l.length)
  unfold a_mac_Derive r_mac_Derive
  simp only [↓amD, amU, Nat.reduceBEq, Nat.reduceAdd, Nat.reduceSub, Nat.reduceMul, Nat.reduceMod, Nat.reducePow, Nat.reduceLT, Nat.reduceDiv, Int.reduceToNat, BitVec.reduceToNat, zipEnv, Int.reduceLE, Int.reduceLT, Int.reduceNeg, BitVec.reduceEq, Int.reduceAdd, Int.reduceSub, Int.reduceMul, Nat.reduceLeDiff, Int.reduceEq, h10]
  refine Eq.mpr (kMNew _ _ _ key (IsBs.to (.inr ⟨_, rfl⟩)) (by omega)) ?_
  simp only [↓amD, amU, Nat.reduceBEq, Nat.reduceAdd, Nat.reduceSub, Nat.reduceMul, Nat.reduceMod, Nat.reducePow, Nat.reduceLT, Nat.reduceDiv, Int.reduceToNat, BitVec.reduceToNat, zipEnv, Int.reduceLE, Int.reduceLT, Int.reduceNeg, BitVec.reduceEq, Int.reduceAdd, Int.reduceSub, Int.reduceMul, Nat.reduceLeDiff, Int.reduceEq, h11, h28, kMNum, ofBytes_sb]
  refine Eq.mpr (kMFeed _ _ _ _ (numI lab.size) (BsIn.own rfl _ rfl) o1) ?_
  simp only [↓amD, amU, Nat.reduceBEq, Nat.reduceAdd, Nat.reduceSub, Nat.reduceMul, Nat.reduceMod, Nat.reducePow, Nat.reduceLT, Nat.reduceDiv, Int.reduceToNat, BitVec.reduceToNat, zipEnv, Int.reduceLE, Int.reduceLT, Int.reduceNeg, BitVec.reduceEq, Int.reduceAdd, Int.reduceSub, Int.reduceMul, Nat.reduceLeDiff, Int.reduceEq, h11, h28, kMNum, ofBytes_sb]
  refine Eq.mpr (kMFeed _ _ _ _ (sb lab) (IsBs.to (.inr ⟨_, rfl⟩)) o2) ?_
  simp only [↓amD, amU, Nat.reduceBEq, Nat.reduceAdd, Nat.reduceSub, Nat.reduceMul, Nat.reduceMod, Nat.reducePow, Nat.reduceLT, Nat.reduceDiv, Int.reduceToNat, BitVec.reduceToNat, zipEnv, Int.reduceLE, Int.reduceLT, Int.reduceNeg, BitVec.reduceEq, Int.reduceAdd, Int.reduceSub, Int.reduceMul, Nat.reduceLeDiff, Int.reduceEq, h11, h28, kMNum]
  refine Eq.mpr (kMFeed _ _ _ _ (numI l.length) (BsIn.own rfl _ rfl) o3) ?_
  simp only [↓amD, amU, Nat.reduceBEq, Nat.reduceAdd, Nat.reduceSub, Nat.reduceMul, Nat.reduceMod, Nat.reducePow, Nat.reduceLT, Nat.reduceDiv, Int.reduceToNat, BitVec.reduceToNat, zipEnv, Int.reduceLE, Int.reduceLT, Int.reduceNeg, BitVec.reduceEq, Int.reduceAdd, Int.reduceSub, Int.reduceMul, Nat.reduceLeDiff, Int.reduceEq, mac_fits]
  have hm0 : feedM (feedM (feedM (newM key) (numI lab.size)) (sb lab)) (numI l.length) = feedM (newM key) (numI lab.size ++ sb lab ++ numI l.length ++ partT (ls.take 0)) := by
    rw [feedM_app, feedM_app]; simp [partT]
  rw [hm0]
  refine kLoop_up l.length (fun i env rows => has env [(23, .lst .ref l e), (24, .raw (it l.length)), (25, .raw (it (i : Int))), (6, .ptr (.ar 32 L8) 0 [0]), (7, .ptr S2 3 [0])] ∧
    (∃ z, live rows 0 = some ⟨.ar 32 L8, [z]⟩) ∧ live rows 3 = some ⟨S2, [macD (feedM (newM key) (numI lab.size ++ sb lab ++ numI l.length ++ partT (ls.take i)))]⟩) ?_ ?_ ⟨?_, ⟨_, rfl⟩, rfl⟩
  · rintro i hi env rows ⟨hh, ⟨z, r0⟩, r3⟩ R hR
    simp only [has] at hh
    obtain ⟨q23, q24, q25, q6, q7, -⟩ := hh
    obtain ⟨x, hx, hb⟩ := hbs i (by omega)
    have e0 : ((i : Int) < (l.length : Int)) = True := eq_true (by omega)
    have e1 : ((0 : Int) ≤ (i : Int)) = True := eq_true (by omega)
    have e2 := wz_succ i (by omega)
    have hs : feedM (feedM (feedM (newM key) (numI lab.size ++ sb lab ++ numI l.length ++ partT (ls.take i))) (numI ls[i].length)) ls[i] = feedM (newM key) (numI lab.size ++ sb lab ++ numI l.length ++ partT (ls.take (i + 1))) := by
      rw [feedM_app, feedM_app, List.take_succ_eq_append_getElem (by omega), partT_snoc]
      simp only [List.append_assoc]
    generalize numI lab.size ++ sb lab ++ numI l.length ++ partT (ls.take i) = T at *
    generalize numI lab.size ++ sb lab ++ numI l.length ++ partT (ls.take (i + 1)) = T' at *
    have hm := feedM_ok o1 T
    have hm2 := feedM_ok hm (numI ls[i].length)
    simp only [↓amD, amU, Nat.reduceBEq, Nat.reduceAdd, Nat.reduceSub, Nat.reduceMul, Nat.reduceMod, Nat.reducePow, Nat.reduceLT, Nat.reduceDiv, Int.reduceToNat, BitVec.reduceToNat, zipEnv, Int.reduceLE, Int.reduceLT, Int.reduceNeg, BitVec.reduceEq, Int.reduceAdd, Int.reduceSub, Int.reduceMul, Nat.reduceLeDiff, Int.reduceEq, lv_app0, lv_appk, set_app0, set_appk, List.append_assoc, List.append_nil, Nat.add_assoc, q23, q24, q25, q6, q7, e0, e1, hx, hfit _ _ hb, hb.slen, r3, h11, h28, kMNum, decide_true]
    refine Eq.mpr (kMFeed _ _ _ _ (numI ls[i].length) (BsIn.own (live_len (x := ⟨L8, bs (numI ls[i].length)⟩)) 4 rfl) hm) ?_
    simp only [↓amD, amU, Nat.reduceBEq, Nat.reduceAdd, Nat.reduceSub, Nat.reduceMul, Nat.reduceMod, Nat.reducePow, Nat.reduceLT, Nat.reduceDiv, Int.reduceToNat, BitVec.reduceToNat, zipEnv, Int.reduceLE, Int.reduceLT, Int.reduceNeg, BitVec.reduceEq, Int.reduceAdd, Int.reduceSub, Int.reduceMul, Nat.reduceLeDiff, Int.reduceEq, lv_app0, lv_appk, set_app0, set_appk, List.append_assoc, List.append_nil, Nat.add_assoc, q23, q24, q25, q6, q7, h11]
    refine Eq.mpr (kMFeed _ _ _ _ ls[i] hb.to hm2) ?_
    rw [hs]
    simp only [↓amD, amU, Nat.reduceBEq, Nat.reduceAdd, Nat.reduceSub, Nat.reduceMul, Nat.reduceMod, Nat.reducePow, Nat.reduceLT, Nat.reduceDiv, Int.reduceToNat, BitVec.reduceToNat, zipEnv, Int.reduceLE, Int.reduceLT, Int.reduceNeg, BitVec.reduceEq, Int.reduceAdd, Int.reduceSub, Int.reduceMul, Nat.reduceLeDiff, Int.reduceEq, lv_app0, lv_appk, set_app0, set_appk, List.append_assoc, List.append_nil, Nat.add_assoc, q23, q24, q25, q6, q7, e2, mac_fits, live_app r3]
    exact hR _ _ ⟨by simp only [has, ↓amD, amU, Nat.reduceBEq, Nat.reduceAdd, Nat.reduceSub, Nat.reduceMul, Nat.reduceMod, Nat.reducePow, Nat.reduceLT, Nat.reduceDiv, Int.reduceToNat, BitVec.reduceToNat, zipEnv, Int.reduceLE, Int.reduceLT, Int.reduceNeg, BitVec.reduceEq, Int.reduceAdd, Int.reduceSub, Int.reduceMul, Nat.reduceLeDiff, Int.reduceEq, q23, q24, q6, q7], ⟨z, (live_set_ne (by decide)).trans (live_push r0)⟩, live_set_same (live_push r3)⟩
  · rintro env rows ⟨hh, ⟨z, r0⟩, r3⟩ R
    simp only [has] at hh
    obtain ⟨q23, q24, q25, q6, q7, -⟩ := hh
    have e0 : ((l.length : Int) < (l.length : Int)) = False := eq_false (by omega)
    have hT : numI lab.size ++ sb lab ++ numI l.length ++ partT (ls.take l.length) = derT lab ls := by
      rw [derT, ← hlen, List.take_length]
    rw [hT] at r3
    have hm := feedM_ok o1 (derT lab ls)
    have s0 : ∀ x, live (rows.set 0 (some x)) 0 = some x := fun x => live_set_same r0
    simp only [↓amD, amU, Nat.reduceBEq, Nat.reduceAdd, Nat.reduceSub, Nat.reduceMul, Nat.reduceMod, Nat.reducePow, Nat.reduceLT, Nat.reduceDiv, Int.reduceToNat, BitVec.reduceToNat, zipEnv, Int.reduceLE, Int.reduceLT, Int.reduceNeg, BitVec.reduceEq, Int.reduceAdd, Int.reduceSub, Int.reduceMul, Nat.reduceLeDiff, Int.reduceEq, q23, q24, q25, q6, q7, e0, r3, h12, kMSum _ _ _ hm, r0, s0, decide_false]
    exact .val _ rfl
  · simp only [has, ↓amD, amU, Nat.reduceBEq, Nat.reduceAdd, Nat.reduceSub, Nat.reduceMul, Nat.reduceMod, Nat.reducePow, Nat.reduceLT, Nat.reduceDiv, Int.reduceToNat, BitVec.reduceToNat, zipEnv, Int.reduceLE, Int.reduceLT, Int.reduceNeg, BitVec.reduceEq, Int.reduceAdd, Int.reduceSub, Int.reduceMul, Nat.reduceLeDiff, Int.reduceEq]
end Job
end Go.Am
