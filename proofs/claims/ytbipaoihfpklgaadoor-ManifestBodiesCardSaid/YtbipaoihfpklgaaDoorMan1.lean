/- manifests: bodies, and back -/
import Derived.Test.YtbipaoihfpklgaaDoorCom
import Derived.Test.YtbipaoihfpklgaaDoorSha10
namespace Go.Am
set_option linter.unusedSimpArgs false
set_option linter.unusedVariables false
attribute [local congr] bnd_congr kCond_congr kGd_congr kPick_congr kCall_congr kIdx_congr kSlice_congr kLoop_congr cond_congr' aBin_congr aBounds_congr aApp_congr aCopy_congr kFn_congr
namespace Job
open Go.Am.F
set_option maxRecDepth 10000
def numI (n : Nat) : List (BitVec 8) := [BitVec.ofNat 8 (n / 16777216), BitVec.ofNat 8 (n / 65536), BitVec.ofNat 8 (n / 256), BitVec.ofNat 8 n]
theorem numI_len (n : Nat) : (numI n).length = 4 := rfl
theorem b_shri (n : Int) (m : BitVec 64) (k : D → Prop) : aBin .shr (it n) (u64 m) k = k (.raw (it (n.fdiv (2 ^ (min m.toNat 64))))) := by
  simp only [aBin, it, u64, Int.toNat_natCast, IntKind.bits]
  simp
theorem fdiv_nat (n m : Nat) : (n : Int).fdiv (m : Int) = ((n / m : Nat) : Int) := by
  rw [Int.fdiv_eq_ediv_of_nonneg _ (by omega)]; rfl
theorem num4I (n : Nat) (h : n < 18446744073709551616) : numL 4 (BitVec.ofNat 64 n) = numI n := by
  have d1 : ∀ x : BitVec 64, x / 256#64 = x >>> 8 := fun x => by
    apply BitVec.eq_of_toNat_eq
    rw [BitVec.toNat_udiv, BitVec.toNat_ushiftRight, Nat.shiftRight_eq_div_pow]; rfl
  have d2 : ∀ x : BitVec 64, (x % 256#64).setWidth 8 = x.setWidth 8 := fun x => by
    apply BitVec.eq_of_toNat_eq
    rw [BitVec.toNat_setWidth, BitVec.toNat_setWidth, BitVec.toNat_umod]
    simp
  have d3 : ∀ (x : BitVec 64) (i j : Nat), (x >>> i) >>> j = x >>> (i + j) := fun x i j => (BitVec.shiftRight_add x i j).symm
  simp only [numL, d1, d2, d3, List.nil_append, List.cons_append, numI, Nat.reduceAdd, List.cons.injEq, and_true]
  have key : ∀ (i : Nat), (BitVec.ofNat 64 n >>> i).setWidth 8 = BitVec.ofNat 8 (n / 2 ^ i) := fun i => by
    apply BitVec.eq_of_toNat_eq
    rw [BitVec.toNat_setWidth, BitVec.toNat_ushiftRight, Nat.shiftRight_eq_div_pow]
    simp only [BitVec.toNat_ofNat]
    rw [Nat.mod_eq_of_lt (by omega : n < 2 ^ 64)]
  refine ⟨key 24, key 16, key 8, ?_⟩
  simp
theorem kNumS4 (rows : Rows) (k : D → Rows → Prop) (n : Nat) (h : n < 18446744073709551616) : kCall fNumS rows k [.raw (u64 (BitVec.ofInt 64 (n : Int))), .raw (it 4)] = k (.sl L8 (0 + rows.length) [] 0 4 false) (rows ++ [some ⟨L8, bs (numI n)⟩]) := by
  have e : BitVec.ofInt 64 (n : Int) = BitVec.ofNat 64 n := rfl
  rw [e]
  refine (kCall_val rfl (r := outBs (numI n) false) ?_).trans ?_
  · rw [fNumS, fn2_eq (rd64_eq _) (rdI_eq 4) (by decide)]
    show some (outBs (numL 4 (BitVec.ofNat 64 n)) false) = _
    rw [num4I n h]
  · simp [outBs, shift, shiftRows, Sh.pure, numI_len]
def sb (b : ByteArray) : List (BitVec 8) := b.data.toList.map fun x => BitVec.ofNat 8 x.toNat
theorem sb_len (b : ByteArray) : (sb b).length = b.size := by
  rw [sb, List.length_map, Array.length_toList]; rfl
theorem ofBytes_sb (b : ByteArray) : ofBytes b = bs (sb b) := by
  simp only [ofBytes, bs, sb, List.map_map]
  refine List.map_congr_left fun x _ => ?_
  have hx : x.toNat < 256 := x.toNat_lt
  simp only [Function.comp_def, u8, BitVec.toNat_ofNat]
  rw [Nat.mod_eq_of_lt (by omega)]
def rdStr : D → Option ByteArray
  | .raw (.string b) => some b
  | _ => none
theorem rdStr_some {d : D} {b : ByteArray} (h : rdStr d = some b) : d = .raw (.string b) := by
  unfold rdStr at h
  split at h
  · cases h; rfl
  · cases h
def rdBssN : D → Option (List (List (BitVec 8)))
  | .raw (.slice none 0 0) => some []
  | .lst s l _ => bif s == .ref then mapO rdBs l else none
  | _ => none
theorem rdBssN_some {d : D} {ls : List (List (BitVec 8))} (h : rdBssN d = some ls) : ∃ l e, Nrm d (.lst .ref l e) ∧ mapO rdBs l = some ls := by
  unfold rdBssN at h
  split at h
  · cases h; exact ⟨[], false, .nil _ _, rfl⟩
  · rename_i s l e
    cases hb : (s == Sh.ref) with
    | false => rw [hb] at h; cases h
    | true =>
      rw [hb] at h
      have : s = .ref := by simpa using hb
      subst this
      exact ⟨l, e, .refl _, h⟩
  · cases h
def fNum : Fn := fn1 rdBs (fun a => Nat.ble 4 a.length) fun a => (.raw (it (((numS a).toNat : Nat) : Int)), [])
theorem num_ok (C : Ctx) (hC : CtxOK C P) : Meets C.glob P 25 (Fn.run fNum) := by
  refine fn_meets (m_manifest_num C hC) fun ds rows r h => ?_
  obtain ⟨d, a, rfl, rfl, hd, hp, rfl⟩ := fn1_some h
  have ha := rdBs_some hd
  simp only [Nat.ble_eq] at hp
  refine ⟨rfl, afun_mk rfl ?_⟩
  unfold a_manifest_num r_manifest_num
  have e0 : ∀ (k : D → Rows → Prop) rows, kIdx (.leaf (.int .u8)) 0 rows k d = k (.cptr (.raw (u8 (a.getD 0 0#8)))) rows := fun k rows => by have := kIdx_bs (k := k) (rows := rows) (n := 0) ha (by omega); simpa using this
  have e1 : ∀ (k : D → Rows → Prop) rows, kIdx (.leaf (.int .u8)) 1 rows k d = k (.cptr (.raw (u8 (a.getD 1 0#8)))) rows := fun k rows => by have := kIdx_bs (k := k) (rows := rows) (n := 1) ha (by omega); simpa using this
  have e2 : ∀ (k : D → Rows → Prop) rows, kIdx (.leaf (.int .u8)) 2 rows k d = k (.cptr (.raw (u8 (a.getD 2 0#8)))) rows := fun k rows => by have := kIdx_bs (k := k) (rows := rows) (n := 2) ha (by omega); simpa using this
  have e3 : ∀ (k : D → Rows → Prop) rows, kIdx (.leaf (.int .u8)) 3 rows k d = k (.cptr (.raw (u8 (a.getD 3 0#8)))) rows := fun k rows => by have := kIdx_bs (k := k) (rows := rows) (n := 3) ha (by omega); simpa using this
  simp only [↓amD, amU, Nat.reduceBEq, Nat.reduceAdd, Nat.reduceSub, Nat.reduceMul, Nat.reduceMod, Nat.reducePow, Nat.reduceLT, Nat.reduceDiv, Int.reduceToNat, BitVec.reduceToNat, zipEnv, Int.reduceLE, Int.reduceLT, Int.reduceNeg, BitVec.reduceEq, Int.reduceAdd, Int.reduceSub, Int.reduceMul, Nat.reduceLeDiff, Int.reduceEq, e0, e1, e2, e3]
  exact .val _ rfl
def fEqual : Fn := fn2 rdBs rdBs (fun a b => Nat.ble a.length most && Nat.ble b.length most) fun a b => (.raw (.bool (decide (a = b))), [])
theorem equal_ok (C : Ctx) (hC : CtxOK C P) : Meets C.glob P 31 (Fn.run fEqual) := by
  refine fn_meetsN (m_bytes_Equal C hC) fun ds rows r h => ?_
  obtain ⟨d, e, a, b, rfl, rfl, hd, he, hp, rfl⟩ := fn2_some h
  obtain ⟨x, hx⟩ := rdBs_nrm hd
  obtain ⟨y, hy⟩ := rdBs_nrm he
  refine ⟨rfl, _, .cons hx (.cons hy .nil), afun_mk rfl ?_⟩
  unfold a_bytes_Equal r_bytes_Equal
  simp only [↓amD, amU, Nat.reduceBEq, Nat.reduceAdd, Nat.reduceSub, Nat.reduceMul, Nat.reduceMod, Nat.reducePow, Nat.reduceLT, Nat.reduceDiv, Int.reduceToNat, BitVec.reduceToNat, zipEnv, Int.reduceLE, Int.reduceLT, Int.reduceNeg, BitVec.reduceEq, Int.reduceAdd, Int.reduceSub, Int.reduceMul, Nat.reduceLeDiff, Int.reduceEq, amC]
  refine ⟨IsBs.sshape (.inr ⟨x, rfl⟩), ?_⟩
  simp only [byte_bs, ↓amD, amU, Nat.reduceBEq, Nat.reduceAdd, Nat.reduceSub, Nat.reduceMul, Nat.reduceMod, Nat.reducePow, Nat.reduceLT, Nat.reduceDiv, Int.reduceToNat, BitVec.reduceToNat, zipEnv, Int.reduceLE, Int.reduceLT, Int.reduceNeg, BitVec.reduceEq, Int.reduceAdd, Int.reduceSub, Int.reduceMul, Nat.reduceLeDiff, Int.reduceEq]
  refine ⟨IsBs.sshape (.inr ⟨y, rfl⟩), ?_⟩
  simp only [ByteArray.toList_eq, List.toList_toArray, ub_beq]
  exact .val _ rfl
theorem kEqual (rows : Rows) (k : D → Rows → Prop) (d e : D) (p q : List (BitVec 8)) (h : BsIn rows d p) (h' : BsIn rows e q) (hp : p.length ≤ 1099511627776) (hq : q.length ≤ 1099511627776) : kCall fEqual rows k [d, e] = k (.raw (.bool (decide (p = q)))) rows := by
  refine (kCall_bs2 h h' (by simpa [most] using ⟨hp, hq⟩) rfl).trans ?_
  simp [shift, shiftRows]
def fPre : Fn := fn2 rdBs rdBs (fun a b => Nat.ble a.length most && Nat.ble b.length most) fun a b => (.raw (.bool (decide (b.length ≤ a.length) && decide (a.take b.length = b))), [])
theorem pre_ok (C : Ctx) (hC : CtxOK C P) (h20 : C.fn 31 = some fEqual) : Meets C.glob P 24 (Fn.run fPre) := by
  refine fn_meetsN (m_bytes_HasPrefix C hC) fun ds rows r h => ?_
  obtain ⟨d, e, a, b, rfl, rfl, hd, he, hp, rfl⟩ := fn2_some h
  obtain ⟨x, hx⟩ := rdBs_nrm hd
  obtain ⟨y, hy⟩ := rdBs_nrm he
  refine ⟨rfl, _, .cons hx (.cons hy .nil), afun_mk rfl ?_⟩
  simp only [Bool.and_eq_true, Nat.ble_eq] at hp
  unfold most at hp
  clear h hx hy hd he
  unfold a_bytes_HasPrefix r_bytes_HasPrefix
  by_cases hl : b.length ≤ a.length
  · have hl1 : ((b.length : Int) ≤ (a.length : Int)) = True := eq_true (by omega)
    have hl2 : ((0 : Int) ≤ (b.length : Int)) = True := eq_true (by omega)
    simp only [↓amD, amU, Nat.reduceBEq, Nat.reduceAdd, Nat.reduceSub, Nat.reduceMul, Nat.reduceMod, Nat.reducePow, Nat.reduceLT, Nat.reduceDiv, Int.reduceToNat, BitVec.reduceToNat, zipEnv, Int.reduceLE, Int.reduceLT, Int.reduceNeg, BitVec.reduceEq, Int.reduceAdd, Int.reduceSub, Int.reduceMul, Nat.reduceLeDiff, Int.reduceEq, bs_len, hl1, hl2, h20]
    simp only [Nat.sub_zero, bs_take]
    refine Eq.mpr (kEqual _ _ _ _ (a.take b.length) b (IsBs.to (.inr ⟨_, rfl⟩)) (IsBs.to (.inr ⟨_, rfl⟩)) (by rw [List.length_take]; omega) (by omega)) ?_
    simp only [↓amD, amU, Nat.reduceBEq, Nat.reduceAdd, Nat.reduceSub, Nat.reduceMul, Nat.reduceMod, Nat.reducePow, Nat.reduceLT, Nat.reduceDiv, Int.reduceToNat, BitVec.reduceToNat, zipEnv, Int.reduceLE, Int.reduceLT, Int.reduceNeg, BitVec.reduceEq, Int.reduceAdd, Int.reduceSub, Int.reduceMul, Nat.reduceLeDiff, Int.reduceEq]
    simp only [hl, decide_true, Bool.true_and]
    exact .val _ rfl
  · have hl1 : ((b.length : Int) ≤ (a.length : Int)) = False := eq_false (by omega)
    simp only [↓amD, amU, Nat.reduceBEq, Nat.reduceAdd, Nat.reduceSub, Nat.reduceMul, Nat.reduceMod, Nat.reducePow, Nat.reduceLT, Nat.reduceDiv, Int.reduceToNat, BitVec.reduceToNat, zipEnv, Int.reduceLE, Int.reduceLT, Int.reduceNeg, BitVec.reduceEq, Int.reduceAdd, Int.reduceSub, Int.reduceMul, Nat.reduceLeDiff, Int.reduceEq, bs_len, hl1]
    simp only [hl, decide_false, Bool.false_and]
    exact .val _ rfl
theorem kPre (rows : Rows) (k : D → Rows → Prop) (d e : D) (p q : List (BitVec 8)) (h : BsIn rows d p) (h' : BsIn rows e q) (hp : p.length ≤ 1099511627776) (hq : q.length ≤ 1099511627776) : kCall fPre rows k [d, e] = k (.raw (.bool (decide (q.length ≤ p.length) && decide (p.take q.length = q)))) rows := by
  refine (kCall_bs2 h h' (by simpa [most] using ⟨hp, hq⟩) rfl).trans ?_
  simp [shift, shiftRows]
theorem val_q (q : List (BitVec 8)) (h : 4 ≤ q.length) : (valS (q.take 4)).setWidth 32 = numS q ∧ wz ((valS (q.take 4)).toNat : Int) = ((numS q).toNat : Int) := by
  match q, h with
  | a :: b :: c :: d :: l, _ =>
    have h1 : (a :: b :: c :: d :: l).take 4 = [a, b, c, d] := rfl
    have h2 : numS (a :: b :: c :: d :: l) = numS [a, b, c, d] := rfl
    rw [h1, h2]
    refine ⟨val_num a b c d, ?_⟩
    have h3 := val4_nat a b c d
    have h4 := num4_nat a b c d
    have h5 := a.isLt
    have h6 := b.isLt
    have h7 := c.isLt
    have h8 := d.isLt
    rw [wz_id (by omega)]
    omega
structure Man where
  v : Int
  s : Int
  e : Int
  dg : List (BitVec 8)
abbrev SM : Sh := .cons LI (.cons LI (.cons LI (.cons (.ar 32 L8) .nil)))
def manD (m : Man) : D := .agg SM [.raw (it m.v), .raw (it m.s), .raw (it m.e), .agg (.ar 32 L8) (bs m.dg)]
theorem manD_inj (x y : Man) (h : manD x = manD y) : x = y := by
  obtain ⟨v, s, e, d⟩ := x
  obtain ⟨v', s', e', d'⟩ := y
  unfold manD at h
  injection h with _ h
  injection h with h1 h
  injection h with h2 h
  injection h with h3 h
  injection h with h4 _
  injection h4 with _ h4
  injection h1 with h1
  injection h2 with h2
  injection h3 with h3
  cases it_inj.1 h1
  cases it_inj.1 h2
  cases it_inj.1 h3
  cases bs_inj h4
  rfl
def rightS (m : Man) : Bool := decide (0 ≤ m.v) && decide (m.v ≤ 255) && decide (4 ≤ m.s) && decide (m.s ≤ 2048) && decide (m.s.tmod 4 = 0) && decide (0 ≤ m.e) && decide (m.e < m.s) && decide (m.e.tmod 4 = 0)
noncomputable def fRight : Fn := fn1 (rdOf manD) (fun _ => true) fun m => (.raw (.bool (rightS m)), [])
theorem right_ok (C : Ctx) (hC : CtxOK C P) : Meets C.glob P 22 (Fn.run fRight) := by
  refine fn_meets (m_manifest_Manifest_right C hC) fun ds rows r h => ?_
  obtain ⟨d, m, rfl, rfl, hd, hp, rfl⟩ := fn1_some h
  cases rdOf_some hd
  refine ⟨rfl, afun_mk rfl ?_⟩
  clear h hd
  obtain ⟨v, s, e, dg⟩ := m
  unfold a_manifest_Manifest_right r_manifest_Manifest_right
  by_cases c1 : 0 ≤ v
  case pos =>
    by_cases c2 : v ≤ 255
    case pos =>
      by_cases c3 : 4 ≤ s
      case pos =>
        by_cases c4 : s ≤ 2048
        case pos =>
          by_cases c5 : s.tmod 4 = 0
          case pos =>
            by_cases c6 : 0 ≤ e
            case pos =>
              by_cases c7 : e < s
              case pos =>
                by_cases c8 : e.tmod 4 = 0
                case pos =>
                  simp only [↓amD, amU, Nat.reduceBEq, Nat.reduceAdd, Nat.reduceSub, Nat.reduceMul, Nat.reduceMod, Nat.reducePow, Nat.reduceLT, Nat.reduceDiv, Int.reduceToNat, BitVec.reduceToNat, zipEnv, Int.reduceLE, Int.reduceLT, Int.reduceNeg, BitVec.reduceEq, Int.reduceAdd, Int.reduceSub, Int.reduceMul, Nat.reduceLeDiff, Int.reduceEq, rightS, manD, c1, c2, c3, c4, c5, c6, c7, c8, decide_true, decide_false]
                  exact .val _ rfl
                case neg =>
                  simp only [↓amD, amU, Nat.reduceBEq, Nat.reduceAdd, Nat.reduceSub, Nat.reduceMul, Nat.reduceMod, Nat.reducePow, Nat.reduceLT, Nat.reduceDiv, Int.reduceToNat, BitVec.reduceToNat, zipEnv, Int.reduceLE, Int.reduceLT, Int.reduceNeg, BitVec.reduceEq, Int.reduceAdd, Int.reduceSub, Int.reduceMul, Nat.reduceLeDiff, Int.reduceEq, rightS, manD, c1, c2, c3, c4, c5, c6, c7, c8, decide_true, decide_false]
                  exact .val _ rfl
              case neg =>
                simp only [↓amD, amU, Nat.reduceBEq, Nat.reduceAdd, Nat.reduceSub, Nat.reduceMul, Nat.reduceMod, Nat.reducePow, Nat.reduceLT, Nat.reduceDiv, Int.reduceToNat, BitVec.reduceToNat, zipEnv, Int.reduceLE, Int.reduceLT, Int.reduceNeg, BitVec.reduceEq, Int.reduceAdd, Int.reduceSub, Int.reduceMul, Nat.reduceLeDiff, Int.reduceEq, rightS, manD, c1, c2, c3, c4, c5, c6, c7, decide_true, decide_false]
                exact .val _ rfl
            case neg =>
              simp only [↓amD, amU, Nat.reduceBEq, Nat.reduceAdd, Nat.reduceSub, Nat.reduceMul, Nat.reduceMod, Nat.reducePow, Nat.reduceLT, Nat.reduceDiv, Int.reduceToNat, BitVec.reduceToNat, zipEnv, Int.reduceLE, Int.reduceLT, Int.reduceNeg, BitVec.reduceEq, Int.reduceAdd, Int.reduceSub, Int.reduceMul, Nat.reduceLeDiff, Int.reduceEq, rightS, manD, c1, c2, c3, c4, c5, c6, decide_true, decide_false]
              exact .val _ rfl
          case neg =>
            simp only [↓amD, amU, Nat.reduceBEq, Nat.reduceAdd, Nat.reduceSub, Nat.reduceMul, Nat.reduceMod, Nat.reducePow, Nat.reduceLT, Nat.reduceDiv, Int.reduceToNat, BitVec.reduceToNat, zipEnv, Int.reduceLE, Int.reduceLT, Int.reduceNeg, BitVec.reduceEq, Int.reduceAdd, Int.reduceSub, Int.reduceMul, Nat.reduceLeDiff, Int.reduceEq, rightS, manD, c1, c2, c3, c4, c5, decide_true, decide_false]
            exact .val _ rfl
        case neg =>
          simp only [↓amD, amU, Nat.reduceBEq, Nat.reduceAdd, Nat.reduceSub, Nat.reduceMul, Nat.reduceMod, Nat.reducePow, Nat.reduceLT, Nat.reduceDiv, Int.reduceToNat, BitVec.reduceToNat, zipEnv, Int.reduceLE, Int.reduceLT, Int.reduceNeg, BitVec.reduceEq, Int.reduceAdd, Int.reduceSub, Int.reduceMul, Nat.reduceLeDiff, Int.reduceEq, rightS, manD, c1, c2, c3, c4, decide_true, decide_false]
          exact .val _ rfl
      case neg =>
        simp only [↓amD, amU, Nat.reduceBEq, Nat.reduceAdd, Nat.reduceSub, Nat.reduceMul, Nat.reduceMod, Nat.reducePow, Nat.reduceLT, Nat.reduceDiv, Int.reduceToNat, BitVec.reduceToNat, zipEnv, Int.reduceLE, Int.reduceLT, Int.reduceNeg, BitVec.reduceEq, Int.reduceAdd, Int.reduceSub, Int.reduceMul, Nat.reduceLeDiff, Int.reduceEq, rightS, manD, c1, c2, c3, decide_true, decide_false]
        exact .val _ rfl
    case neg =>
      by_cases c3 : 4 ≤ s
      case pos =>
        by_cases c4 : s ≤ 2048
        case pos =>
          by_cases c5 : s.tmod 4 = 0
          case pos =>
            simp only [↓amD, amU, Nat.reduceBEq, Nat.reduceAdd, Nat.reduceSub, Nat.reduceMul, Nat.reduceMod, Nat.reducePow, Nat.reduceLT, Nat.reduceDiv, Int.reduceToNat, BitVec.reduceToNat, zipEnv, Int.reduceLE, Int.reduceLT, Int.reduceNeg, BitVec.reduceEq, Int.reduceAdd, Int.reduceSub, Int.reduceMul, Nat.reduceLeDiff, Int.reduceEq, rightS, manD, c1, c2, c3, c4, c5, decide_true, decide_false]
            exact .val _ rfl
          case neg =>
            simp only [↓amD, amU, Nat.reduceBEq, Nat.reduceAdd, Nat.reduceSub, Nat.reduceMul, Nat.reduceMod, Nat.reducePow, Nat.reduceLT, Nat.reduceDiv, Int.reduceToNat, BitVec.reduceToNat, zipEnv, Int.reduceLE, Int.reduceLT, Int.reduceNeg, BitVec.reduceEq, Int.reduceAdd, Int.reduceSub, Int.reduceMul, Nat.reduceLeDiff, Int.reduceEq, rightS, manD, c1, c2, c3, c4, c5, decide_true, decide_false]
            exact .val _ rfl
        case neg =>
          simp only [↓amD, amU, Nat.reduceBEq, Nat.reduceAdd, Nat.reduceSub, Nat.reduceMul, Nat.reduceMod, Nat.reducePow, Nat.reduceLT, Nat.reduceDiv, Int.reduceToNat, BitVec.reduceToNat, zipEnv, Int.reduceLE, Int.reduceLT, Int.reduceNeg, BitVec.reduceEq, Int.reduceAdd, Int.reduceSub, Int.reduceMul, Nat.reduceLeDiff, Int.reduceEq, rightS, manD, c1, c2, c3, c4, decide_true, decide_false]
          exact .val _ rfl
      case neg =>
        simp only [↓amD, amU, Nat.reduceBEq, Nat.reduceAdd, Nat.reduceSub, Nat.reduceMul, Nat.reduceMod, Nat.reducePow, Nat.reduceLT, Nat.reduceDiv, Int.reduceToNat, BitVec.reduceToNat, zipEnv, Int.reduceLE, Int.reduceLT, Int.reduceNeg, BitVec.reduceEq, Int.reduceAdd, Int.reduceSub, Int.reduceMul, Nat.reduceLeDiff, Int.reduceEq, rightS, manD, c1, c2, c3, decide_true, decide_false]
        exact .val _ rfl
  case neg =>
    by_cases c3 : 4 ≤ s
    case pos =>
      by_cases c4 : s ≤ 2048
      case pos =>
        by_cases c5 : s.tmod 4 = 0
        case pos =>
          simp only [↓amD, amU, Nat.reduceBEq, Nat.reduceAdd, Nat.reduceSub, Nat.reduceMul, Nat.reduceMod, Nat.reducePow, Nat.reduceLT, Nat.reduceDiv, Int.reduceToNat, BitVec.reduceToNat, zipEnv, Int.reduceLE, Int.reduceLT, Int.reduceNeg, BitVec.reduceEq, Int.reduceAdd, Int.reduceSub, Int.reduceMul, Nat.reduceLeDiff, Int.reduceEq, rightS, manD, c1, c3, c4, c5, decide_true, decide_false]
          exact .val _ rfl
        case neg =>
          simp only [↓amD, amU, Nat.reduceBEq, Nat.reduceAdd, Nat.reduceSub, Nat.reduceMul, Nat.reduceMod, Nat.reducePow, Nat.reduceLT, Nat.reduceDiv, Int.reduceToNat, BitVec.reduceToNat, zipEnv, Int.reduceLE, Int.reduceLT, Int.reduceNeg, BitVec.reduceEq, Int.reduceAdd, Int.reduceSub, Int.reduceMul, Nat.reduceLeDiff, Int.reduceEq, rightS, manD, c1, c3, c4, c5, decide_true, decide_false]
          exact .val _ rfl
      case neg =>
        simp only [↓amD, amU, Nat.reduceBEq, Nat.reduceAdd, Nat.reduceSub, Nat.reduceMul, Nat.reduceMod, Nat.reducePow, Nat.reduceLT, Nat.reduceDiv, Int.reduceToNat, BitVec.reduceToNat, zipEnv, Int.reduceLE, Int.reduceLT, Int.reduceNeg, BitVec.reduceEq, Int.reduceAdd, Int.reduceSub, Int.reduceMul, Nat.reduceLeDiff, Int.reduceEq, rightS, manD, c1, c3, c4, decide_true, decide_false]
        exact .val _ rfl
    case neg =>
      simp only [↓amD, amU, Nat.reduceBEq, Nat.reduceAdd, Nat.reduceSub, Nat.reduceMul, Nat.reduceMod, Nat.reducePow, Nat.reduceLT, Nat.reduceDiv, Int.reduceToNat, BitVec.reduceToNat, zipEnv, Int.reduceLE, Int.reduceLT, Int.reduceNeg, BitVec.reduceEq, Int.reduceAdd, Int.reduceSub, Int.reduceMul, Nat.reduceLeDiff, Int.reduceEq, rightS, manD, c1, c3, decide_true, decide_false]
      exact .val _ rfl
theorem rright_ok (C : Ctx) (hC : CtxOK C P) : Meets C.glob P 8 (Fn.run fRight) := by
  refine fn_meets (m_ref08_Right C hC) fun ds rows r h => ?_
  obtain ⟨d, m, rfl, rfl, hd, hp, rfl⟩ := fn1_some h
  cases rdOf_some hd
  refine ⟨rfl, afun_mk rfl ?_⟩
  clear h hd
  obtain ⟨v, s, e, dg⟩ := m
  unfold a_ref08_Right r_ref08_Right
  by_cases c1 : 0 ≤ v
  case pos =>
    by_cases c2 : v ≤ 255
    case pos =>
      by_cases c3 : 4 ≤ s
      case pos =>
        by_cases c4 : s ≤ 2048
        case pos =>
          by_cases c5 : s.tmod 4 = 0
          case pos =>
            by_cases c6 : 0 ≤ e
            case pos =>
              by_cases c8 : e.tmod 4 = 0
              case pos =>
                by_cases c7 : e < s
                case pos =>
                  simp only [↓amD, amU, Nat.reduceBEq, Nat.reduceAdd, Nat.reduceSub, Nat.reduceMul, Nat.reduceMod, Nat.reducePow, Nat.reduceLT, Nat.reduceDiv, Int.reduceToNat, BitVec.reduceToNat, zipEnv, Int.reduceLE, Int.reduceLT, Int.reduceNeg, BitVec.reduceEq, Int.reduceAdd, Int.reduceSub, Int.reduceMul, Nat.reduceLeDiff, Int.reduceEq, rightS, manD, c1, c2, c3, c4, c5, c6, c8, c7, decide_true, decide_false]
                  exact .val _ rfl
                case neg =>
                  simp only [↓amD, amU, Nat.reduceBEq, Nat.reduceAdd, Nat.reduceSub, Nat.reduceMul, Nat.reduceMod, Nat.reducePow, Nat.reduceLT, Nat.reduceDiv, Int.reduceToNat, BitVec.reduceToNat, zipEnv, Int.reduceLE, Int.reduceLT, Int.reduceNeg, BitVec.reduceEq, Int.reduceAdd, Int.reduceSub, Int.reduceMul, Nat.reduceLeDiff, Int.reduceEq, rightS, manD, c1, c2, c3, c4, c5, c6, c8, c7, decide_true, decide_false]
                  exact .val _ rfl
              case neg =>
                simp only [↓amD, amU, Nat.reduceBEq, Nat.reduceAdd, Nat.reduceSub, Nat.reduceMul, Nat.reduceMod, Nat.reducePow, Nat.reduceLT, Nat.reduceDiv, Int.reduceToNat, BitVec.reduceToNat, zipEnv, Int.reduceLE, Int.reduceLT, Int.reduceNeg, BitVec.reduceEq, Int.reduceAdd, Int.reduceSub, Int.reduceMul, Nat.reduceLeDiff, Int.reduceEq, rightS, manD, c1, c2, c3, c4, c5, c6, c8, decide_true, decide_false]
                exact .val _ rfl
            case neg =>
              simp only [↓amD, amU, Nat.reduceBEq, Nat.reduceAdd, Nat.reduceSub, Nat.reduceMul, Nat.reduceMod, Nat.reducePow, Nat.reduceLT, Nat.reduceDiv, Int.reduceToNat, BitVec.reduceToNat, zipEnv, Int.reduceLE, Int.reduceLT, Int.reduceNeg, BitVec.reduceEq, Int.reduceAdd, Int.reduceSub, Int.reduceMul, Nat.reduceLeDiff, Int.reduceEq, rightS, manD, c1, c2, c3, c4, c5, c6, decide_true, decide_false]
              exact .val _ rfl
          case neg =>
            simp only [↓amD, amU, Nat.reduceBEq, Nat.reduceAdd, Nat.reduceSub, Nat.reduceMul, Nat.reduceMod, Nat.reducePow, Nat.reduceLT, Nat.reduceDiv, Int.reduceToNat, BitVec.reduceToNat, zipEnv, Int.reduceLE, Int.reduceLT, Int.reduceNeg, BitVec.reduceEq, Int.reduceAdd, Int.reduceSub, Int.reduceMul, Nat.reduceLeDiff, Int.reduceEq, rightS, manD, c1, c2, c3, c4, c5, decide_true, decide_false]
            exact .val _ rfl
        case neg =>
          simp only [↓amD, amU, Nat.reduceBEq, Nat.reduceAdd, Nat.reduceSub, Nat.reduceMul, Nat.reduceMod, Nat.reducePow, Nat.reduceLT, Nat.reduceDiv, Int.reduceToNat, BitVec.reduceToNat, zipEnv, Int.reduceLE, Int.reduceLT, Int.reduceNeg, BitVec.reduceEq, Int.reduceAdd, Int.reduceSub, Int.reduceMul, Nat.reduceLeDiff, Int.reduceEq, rightS, manD, c1, c2, c3, c4, decide_true, decide_false]
          exact .val _ rfl
      case neg =>
        simp only [↓amD, amU, Nat.reduceBEq, Nat.reduceAdd, Nat.reduceSub, Nat.reduceMul, Nat.reduceMod, Nat.reducePow, Nat.reduceLT, Nat.reduceDiv, Int.reduceToNat, BitVec.reduceToNat, zipEnv, Int.reduceLE, Int.reduceLT, Int.reduceNeg, BitVec.reduceEq, Int.reduceAdd, Int.reduceSub, Int.reduceMul, Nat.reduceLeDiff, Int.reduceEq, rightS, manD, c1, c2, c3, decide_true, decide_false]
        exact .val _ rfl
    case neg =>
      simp only [↓amD, amU, Nat.reduceBEq, Nat.reduceAdd, Nat.reduceSub, Nat.reduceMul, Nat.reduceMod, Nat.reducePow, Nat.reduceLT, Nat.reduceDiv, Int.reduceToNat, BitVec.reduceToNat, zipEnv, Int.reduceLE, Int.reduceLT, Int.reduceNeg, BitVec.reduceEq, Int.reduceAdd, Int.reduceSub, Int.reduceMul, Nat.reduceLeDiff, Int.reduceEq, rightS, manD, c1, c2, decide_true, decide_false]
      exact .val _ rfl
  case neg =>
    simp only [↓amD, amU, Nat.reduceBEq, Nat.reduceAdd, Nat.reduceSub, Nat.reduceMul, Nat.reduceMod, Nat.reducePow, Nat.reduceLT, Nat.reduceDiv, Int.reduceToNat, BitVec.reduceToNat, zipEnv, Int.reduceLE, Int.reduceLT, Int.reduceNeg, BitVec.reduceEq, Int.reduceAdd, Int.reduceSub, Int.reduceMul, Nat.reduceLeDiff, Int.reduceEq, rightS, manD, c1, decide_true, decide_false]
    exact .val _ rfl
theorem manD_ref (m : Man) : hasRef (manD m) = false := by simp [manD, hasRef, hasRefL, Sh.pure]
theorem manD_fits (m : Man) : (manD m).fits SM = true := by simp [manD, D.fits]
theorem manD_shift (n : Nat) (m : Man) : shift n (manD m) = manD m := by simp [manD, shift, Sh.pure]
theorem kRight (rows : Rows) (k : D → Rows → Prop) (m : Man) : kCall fRight rows k [manD m] = k (.raw (.bool (rightS m))) rows := by
  refine (kCall_val (by simp [hasRefL, manD_ref]) (r := (.raw (.bool (rightS m)), [])) ?_).trans ?_
  · rw [fRight, fn1_eq (rdOf_eq manD_inj m) rfl]
  · simp [shift, shiftRows]
def curt : List (BitVec 8) := [67#8, 85#8, 82#8, 84#8]
def bodyL (m : Man) : List (BitVec 8) := curt ++ numI m.v.toNat ++ numI m.s.toNat ++ numI m.e.toNat ++ m.dg
noncomputable def fBodyM : Fn := fn1 (rdOf manD) (fun m => decide (m.dg.length = 32)) fun m => bif rightS m then (.tup [.sl L8 0 [] 0 48 false, .raw (it 0)], [some ⟨L8, bs (bodyL m)⟩]) else (.tup [.raw (.slice none 0 0), .raw (it 1)], [])
def preL (m : Man) : Nat → List (BitVec 8)
  | 0 => curt
  | 1 => curt ++ numI m.v.toNat
  | 2 => curt ++ numI m.v.toNat ++ numI m.s.toNat
  | _ => curt ++ numI m.v.toNat ++ numI m.s.toNat ++ numI m.e.toNat
theorem right_nat {m : Man} (h : rightS m = true) : ∃ v s e : Nat, m.v = v ∧ m.s = s ∧ m.e = e ∧ v ≤ 255 ∧ s ≤ 2048 ∧ 4 ≤ s ∧ e < s ∧ s % 4 = 0 ∧ e % 4 = 0 := by
  simp only [rightS, Bool.and_eq_true, decide_eq_true_eq] at h
  obtain ⟨⟨⟨⟨⟨⟨⟨h1, h2⟩, h3⟩, h4⟩, h5⟩, h6⟩, h7⟩, h8⟩ := h
  obtain ⟨v, hv⟩ := Int.eq_ofNat_of_zero_le h1
  obtain ⟨s, hs⟩ := Int.eq_ofNat_of_zero_le (by omega : 0 ≤ m.s)
  obtain ⟨e, he⟩ := Int.eq_ofNat_of_zero_le h6
  rw [hs] at h5
  rw [he] at h8
  have h5' : (s : Int).tmod 4 = ((s % 4 : Nat) : Int) := rfl
  have h8' : (e : Int).tmod 4 = ((e % 4 : Nat) : Int) := rfl
  rw [h5'] at h5
  rw [h8'] at h8
  exact ⟨v, s, e, hv, hs, he, by omega, by omega, by omega, by omega, by omega, by omega⟩
theorem body_ok (C : Ctx) (hC : CtxOK C P) (hr : C.fn 22 = some fRight) : Meets C.glob P 7 (Fn.run fBodyM) := by
  refine fn_meets (m_manifest_Manifest_Body C hC) fun ds rows r h => ?_
  obtain ⟨d, m, rfl, rfl, hd, hp, rfl⟩ := fn1_some h
  cases rdOf_some hd
  simp only [decide_eq_true_eq] at hp
  refine ⟨rfl, afun_mk rfl ?_⟩
  clear h hd
  unfold a_manifest_Manifest_Body r_manifest_Manifest_Body
  cases hk : rightS m
  · simp only [↓amD, amU, Nat.reduceBEq, Nat.reduceAdd, Nat.reduceSub, Nat.reduceMul, Nat.reduceMod, Nat.reducePow, Nat.reduceLT, Nat.reduceDiv, Int.reduceToNat, BitVec.reduceToNat, zipEnv, Int.reduceLE, Int.reduceLT, Int.reduceNeg, BitVec.reduceEq, Int.reduceAdd, Int.reduceSub, Int.reduceMul, Nat.reduceLeDiff, Int.reduceEq, manD_fits, hr, kRight, hk, cond_false]
    exact .val _ rfl
  · obtain ⟨v, s, e, hv, hs, he, b1, b2, b3, b4, -, -⟩ := right_nat hk
    have e1 : ∀ n : Nat, (n : Int).fdiv (2 ^ (min 24 64)) = ((n / 16777216 : Nat) : Int) := fun n => fdiv_nat n 16777216
    have e2 : ∀ n : Nat, (n : Int).fdiv (2 ^ (min 16 64)) = ((n / 65536 : Nat) : Int) := fun n => fdiv_nat n 65536
    have e3 : ∀ n : Nat, (n : Int).fdiv (2 ^ (min 8 64)) = ((n / 256 : Nat) : Int) := fun n => fdiv_nat n 256
    have e4 : ∀ m : Nat, BitVec.ofInt 8 (m : Int) = BitVec.ofNat 8 m := fun m => rfl
    have hg : manD m = .agg SM [.raw (it (v : Int)), .raw (it (s : Int)), .raw (it (e : Int)), .agg (.ar 32 L8) (bs m.dg)] := by rw [manD, hv, hs, he]
    have hfm := manD_fits m
    have hkm := fun rows k => kRight rows k m
    rw [hk] at hkm
    rw [hg] at hfm hkm ⊢
    simp only [↓amD, amU, Nat.reduceBEq, Nat.reduceAdd, Nat.reduceSub, Nat.reduceMul, Nat.reduceMod, Nat.reducePow, Nat.reduceLT, Nat.reduceDiv, Int.reduceToNat, BitVec.reduceToNat, zipEnv, Int.reduceLE, Int.reduceLT, Int.reduceNeg, BitVec.reduceEq, Int.reduceAdd, Int.reduceSub, Int.reduceMul, Nat.reduceLeDiff, Int.reduceEq, hfm, hr, hkm, cond_true]
    refine kLoop_up 3 (fun i env rows => ∃ x, has env [(1, .ptr SM 0 [0]), (4, x), (18, .sl LI 2 [] 0 3 true), (19, .raw (it 3)), (20, .raw (it (i : Int)))] ∧
      Own L8 x rows (bs (preL m i)) ∧ live rows 0 = some ⟨SM, [.agg SM [.raw (it (v : Int)), .raw (it (s : Int)), .raw (it (e : Int)), .agg (.ar 32 L8) (bs m.dg)]]⟩ ∧ live rows 2 = some ⟨LI, [.raw (it (v : Int)), .raw (it (s : Int)), .raw (it (e : Int))]⟩) ?_ ?_ ⟨.sl L8 1 [] 0 4 true, ?_, .inr ⟨1, true, rfl, rfl⟩, rfl, rfl⟩
    · rintro i hi env rows ⟨x, hh, how, r0, r2⟩ R hR
      simp only [has] at hh
      have hi2 : i = 0 ∨ i = 1 ∨ i = 2 := by omega
      have n0 := own_neA how r0 (by decide)
      have n2 := own_neA how r2 (by decide)
      rcases hi2 with rfl | rfl | rfl
      all_goals
        simp only [↓amD, amU, Nat.reduceBEq, Nat.reduceAdd, Nat.reduceSub, Nat.reduceMul, Nat.reduceMod, Nat.reducePow, Nat.reduceLT, Nat.reduceDiv, Int.reduceToNat, BitVec.reduceToNat, zipEnv, Int.reduceLE, Int.reduceLT, Int.reduceNeg, BitVec.reduceEq, Int.reduceAdd, Int.reduceSub, Int.reduceMul, Nat.reduceLeDiff, Int.reduceEq, lv_app0, lv_appk, set_app0, set_appk, List.append_assoc, List.append_nil, Nat.add_assoc, hh, r0, r2, b_shri, e1, e2, e3, e4]
        refine app_own how.push (by rw [bs_len]; simp [preL, numI, curt, most]) (by rw [bs_len]; simp [preL, numI, curt, most]) ?_
        intro x' r' how' hk' _ _
        simp only [↓amD, amU, Nat.reduceBEq, Nat.reduceAdd, Nat.reduceSub, Nat.reduceMul, Nat.reduceMod, Nat.reducePow, Nat.reduceLT, Nat.reduceDiv, Int.reduceToNat, BitVec.reduceToNat, zipEnv, Int.reduceLE, Int.reduceLT, Int.reduceNeg, BitVec.reduceEq, Int.reduceAdd, Int.reduceSub, Int.reduceMul, Nat.reduceLeDiff, Int.reduceEq, hh]
        refine hR _ _ ⟨x', ?_, ?_, hk' 0 _ (live_app r0 _) (fun ex => n0 ex _), hk' 2 _ (live_app r2 _) (fun ex => n2 ex _)⟩
        · simp only [has, ↓amD, amU, Nat.reduceBEq, Nat.reduceAdd, Nat.reduceSub, Nat.reduceMul, Nat.reduceMod, Nat.reducePow, Nat.reduceLT, Nat.reduceDiv, Int.reduceToNat, BitVec.reduceToNat, zipEnv, Int.reduceLE, Int.reduceLT, Int.reduceNeg, BitVec.reduceEq, Int.reduceAdd, Int.reduceSub, Int.reduceMul, Nat.reduceLeDiff, Int.reduceEq, hh]
        · have hpl : ∀ n l, bs l ++ [.raw (u8 (BitVec.ofNat 8 (n / 16777216))), .raw (u8 (BitVec.ofNat 8 (n / 65536))), .raw (u8 (BitVec.ofNat 8 (n / 256))), .raw (u8 (BitVec.ofNat 8 n))] = bs (l ++ numI n) := fun n l => by rw [← bs_app]; rfl
          rw [hpl] at how'
          simpa only [preL, hv, hs, he, Int.toNat_natCast] using how'
    · rintro env rows ⟨x, hh, how, r0, r2⟩ R
      simp only [has] at hh
      have e16 : (bs m.dg).length = 32 := by rw [bs_len, hp]
      have hE : Am.elems rows (.sl L8 0 [0, 3] 0 32 true) = some (bs m.dg) := by
        simp only [Am.elems, r0]
        show some (List.take 32 ((bs m.dg).drop 0)) = _
        rw [List.drop_zero, List.take_of_length_le (by omega)]
      simp only [↓amD, amU, Nat.reduceBEq, Nat.reduceAdd, Nat.reduceSub, Nat.reduceMul, Nat.reduceMod, Nat.reducePow, Nat.reduceLT, Nat.reduceDiv, Int.reduceToNat, BitVec.reduceToNat, zipEnv, Int.reduceLE, Int.reduceLT, Int.reduceNeg, BitVec.reduceEq, Int.reduceAdd, Int.reduceSub, Int.reduceMul, Nat.reduceLeDiff, Int.reduceEq, lv_app0, lv_appk, set_app0, set_appk, List.append_assoc, List.append_nil, Nat.add_assoc, hh, r0, r2, hE, e16]
      have b16 : (bs (preL m 3)).length = 16 := by rw [bs_len]; simp [preL, numI, curt]
      refine app_own how (by rw [e16, b16]; decide) (by rw [e16, b16]; decide) ?_
      intro x' r' how' _ _ _
      simp only [↓amD, amU, Nat.reduceBEq, Nat.reduceAdd, Nat.reduceSub, Nat.reduceMul, Nat.reduceMod, Nat.reducePow, Nat.reduceLT, Nat.reduceDiv, Int.reduceToNat, BitVec.reduceToNat, zipEnv, Int.reduceLE, Int.reduceLT, Int.reduceNeg, BitVec.reduceEq, Int.reduceAdd, Int.reduceSub, Int.reduceMul, Nat.reduceLeDiff, Int.reduceEq, hh, how'.nTup]
      have hb : bs (preL m 3) ++ bs m.dg = bs (bodyL m) := by rw [bs_app]; rfl
      have hn : (bs (bodyL m)).length = 48 := by rw [← hb, List.length_append, b16, e16]
      rw [hb] at how'
      rcases how' with ⟨h1, -⟩ | ⟨r2, ex2, rfl, hl2⟩
      · rw [h1] at hn; simp at hn
      · rw [hn]
        exact .ownT L8 r2 0 48 ex2 false ⟨L8, _⟩ [.raw (it 0)] hl2 rfl rfl (fun h => by cases h)
    · simp only [has, ↓amD, amU, Nat.reduceBEq, Nat.reduceAdd, Nat.reduceSub, Nat.reduceMul, Nat.reduceMod, Nat.reducePow, Nat.reduceLT, Nat.reduceDiv, Int.reduceToNat, BitVec.reduceToNat, zipEnv, Int.reduceLE, Int.reduceLT, Int.reduceNeg, BitVec.reduceEq, Int.reduceAdd, Int.reduceSub, Int.reduceMul, Nat.reduceLeDiff, Int.reduceEq]
theorem body_len (m : Man) (h : m.dg.length = 32) : (bodyL m).length = 48 := by simp [bodyL, curt, numI, h]
theorem kBodyM (rows : Rows) (k : D → Rows → Prop) (m : Man) (h : m.dg.length = 32) (hk : rightS m = true) : kCall fBodyM rows k [manD m] = k (.tup [.sl L8 (0 + rows.length) [] 0 48 false, .raw (it 0)]) (rows ++ [some ⟨L8, bs (bodyL m)⟩]) := by
  refine (kCall_val (by simp [hasRefL, manD_ref]) (r := (.tup [.sl L8 0 [] 0 48 false, .raw (it 0)], [some ⟨L8, bs (bodyL m)⟩])) ?_).trans ?_
  · rw [fBodyM, fn1_eq (rdOf_eq manD_inj m) (by simp [h]), hk]; rfl
  · simp [shift, shiftL, shiftRows, Sh.pure]
theorem kBodyN (rows : Rows) (k : D → Rows → Prop) (m : Man) (h : m.dg.length = 32) (hk : rightS m = false) : kCall fBodyM rows k [manD m] = k (.tup [.raw (.slice none 0 0), .raw (it 1)]) rows := by
  refine (kCall_val (by simp [hasRefL, manD_ref]) (r := (.tup [.raw (.slice none 0 0), .raw (it 1)], [])) ?_).trans ?_
  · rw [fBodyM, fn1_eq (rdOf_eq manD_inj m) (by simp [h]), hk]; rfl
  · simp [shift, shiftL, shiftRows]
end Job
end Go.Am
