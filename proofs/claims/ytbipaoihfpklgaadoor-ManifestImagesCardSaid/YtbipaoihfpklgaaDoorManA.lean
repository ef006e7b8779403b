/- manifests: bodies, and back -/
import Derived.Test.YtbipaoihfpklgaaDoorCom
import Derived.Test.YtbipaoihfpklgaaDoorSha10
import Derived.Test.YtbipaoihfpklgaaDoorRd
namespace Go.Am
set_option linter.unusedSimpArgs false
set_option linter.unusedVariables false
attribute [local congr] bnd_congr kCond_congr kGd_congr kPick_congr kCall_congr kIdx_congr kSlice_congr kLoop_congr cond_congr' aBin_congr aBounds_congr aApp_congr aCopy_congr kFn_congr
namespace Job
open Go.Am.F
set_option maxRecDepth 10000
def numI (n : Nat) : List (BitVec 8) := [BitVec.ofNat 8 (n / 16777216), BitVec.ofNat 8 (n / 65536), BitVec.ofNat 8 (n / 256), BitVec.ofNat 8 n]
theorem numI_len (n : Nat) : (numI n).length = 4 := rfl
theorem b_shri (n : Int) (m : BitVec 64) (k : D → Prop) : aBin .shr (it n) (u64 m) k = k (.raw (it (n.fdiv (2 ^ (min m.toNat 64))))) := by
  simp only [aBin, it, u64, Int.toNat_natCast, IntKind.bits]
  simp
theorem fdiv_nat (n m : Nat) : (n : Int).fdiv (m : Int) = ((n / m : Nat) : Int) := by
  rw [Int.fdiv_eq_ediv_of_nonneg _ (by omega)]; rfl
theorem num4I (n : Nat) (h : n < 18446744073709551616) : numL 4 (BitVec.ofNat 64 n) = numI n := by
  have d1 : ∀ x : BitVec 64, x / 256#64 = x >>> 8 := fun x => by
    apply BitVec.eq_of_toNat_eq
    rw [BitVec.toNat_udiv, BitVec.toNat_ushiftRight, Nat.shiftRight_eq_div_pow]; rfl
  have d2 : ∀ x : BitVec 64, (x % 256#64).setWidth 8 = x.setWidth 8 := fun x => by
    apply BitVec.eq_of_toNat_eq
    rw [BitVec.toNat_setWidth, BitVec.toNat_setWidth, BitVec.toNat_umod]
    simp
  have d3 : ∀ (x : BitVec 64) (i j : Nat), (x >>> i) >>> j = x >>> (i + j) := fun x i j => (BitVec.shiftRight_add x i j).symm
  simp only [numL, d1, d2, d3, List.nil_append, List.cons_append, numI, Nat.reduceAdd, List.cons.injEq, and_true]
  have key : ∀ (i : Nat), (BitVec.ofNat 64 n >>> i).setWidth 8 = BitVec.ofNat 8 (n / 2 ^ i) := fun i => by
    apply BitVec.eq_of_toNat_eq
    rw [BitVec.toNat_setWidth, BitVec.toNat_ushiftRight, Nat.shiftRight_eq_div_pow]
    simp only [BitVec.toNat_ofNat]
    rw [Nat.mod_eq_of_lt (by omega : n < 2 ^ 64)]
  refine ⟨key 24, key 16, key 8, ?_⟩
  simp
theorem kNumS4 (rows : Rows) (k : D → Rows → Prop) (n : Nat) (h : n < 18446744073709551616) : kCall fNumS rows k [.raw (u64 (BitVec.ofInt 64 (n : Int))), .raw (it 4)] = k (.sl L8 (0 + rows.length) [] 0 4 false) (rows ++ [some ⟨L8, bs (numI n)⟩]) := by
  have e : BitVec.ofInt 64 (n : Int) = BitVec.ofNat 64 n := rfl
  rw [e]
  refine (kCall_val rfl (r := outBs (numI n) false) ?_).trans ?_
  · rw [fNumS, fn2_eq (rd64_eq _) (rdI_eq 4) (by decide)]
    show some (outBs (numL 4 (BitVec.ofNat 64 n)) false) = _
    rw [num4I n h]
  · simp [outBs, shift, shiftRows, Sh.pure, numI_len]
def sb (b : ByteArray) : List (BitVec 8) := b.data.toList.map fun x => BitVec.ofNat 8 x.toNat
theorem sb_len (b : ByteArray) : (sb b).length = b.size := by
  rw [sb, List.length_map, Array.length_toList]; rfl
theorem ofBytes_sb (b : ByteArray) : ofBytes b = bs (sb b) := by
  simp only [ofBytes, bs, sb, List.map_map]
  refine List.map_congr_left fun x _ => ?_
  have hx : x.toNat < 256 := x.toNat_lt
  simp only [Function.comp_def, u8, BitVec.toNat_ofNat]
  rw [Nat.mod_eq_of_lt (by omega)]
def rdStr : D → Option ByteArray
  | .raw (.string b) => some b
  | _ => none
theorem rdStr_some {d : D} {b : ByteArray} (h : rdStr d = some b) : d = .raw (.string b) := by
  unfold rdStr at h
  split at h
  · cases h; rfl
  · cases h
def rdBssN : D → Option (List (List (BitVec 8)))
  | .raw (.slice none 0 0) => some []
  | .lst s l _ => bif s == .ref then mapO rdBs l else none
  | _ => none
theorem rdBssN_some {d : D} {ls : List (List (BitVec 8))} (h : rdBssN d = some ls) : ∃ l e, Nrm d (.lst .ref l e) ∧ mapO rdBs l = some ls := by
  unfold rdBssN at h
  split at h
  · cases h; exact ⟨[], false, .nil _ _, rfl⟩
  · rename_i s l e
    cases hb : (s == Sh.ref) with
    | false => rw [hb] at h; cases h
    | true =>
      rw [hb] at h
      have : s = .ref := by simpa using hb
      subst this
      exact ⟨l, e, .refl _, h⟩
  · cases h
def fNum : Fn := fn1 rdBs (fun a => Nat.ble 4 a.length) fun a => (.raw (it (((numS a).toNat : Nat) : Int)), [])
theorem num_ok (C : Ctx) (hC : CtxOK C P) : Meets C.glob P 25 (Fn.run fNum) := by
  refine fn_meets (m_manifest_num C hC) fun ds rows r h => ?_
  obtain ⟨d, a, rfl, rfl, hd, hp, rfl⟩ := fn1_some h
  have ha := rdBs_some hd
  simp only [Nat.ble_eq] at hp
  refine ⟨rfl, afun_mk rfl ?_⟩
  unfold a_manifest_num r_manifest_num
  have e0 : ∀ (k : D → Rows → Prop) rows, kIdx (.leaf (.int .u8)) 0 rows k d = k (.cptr (.raw (u8 (a.getD 0 0#8)))) rows := fun k rows => by have := kIdx_bs (k := k) (rows := rows) (n := 0) ha (by omega); simpa using this
  have e1 : ∀ (k : D → Rows → Prop) rows, kIdx (.leaf (.int .u8)) 1 rows k d = k (.cptr (.raw (u8 (a.getD 1 0#8)))) rows := fun k rows => by have := kIdx_bs (k := k) (rows := rows) (n := 1) ha (by omega); simpa using this
  have e2 : ∀ (k : D → Rows → Prop) rows, kIdx (.leaf (.int .u8)) 2 rows k d = k (.cptr (.raw (u8 (a.getD 2 0#8)))) rows := fun k rows => by have := kIdx_bs (k := k) (rows := rows) (n := 2) ha (by omega); simpa using this
  have e3 : ∀ (k : D → Rows → Prop) rows, kIdx (.leaf (.int .u8)) 3 rows k d = k (.cptr (.raw (u8 (a.getD 3 0#8)))) rows := fun k rows => by have := kIdx_bs (k := k) (rows := rows) (n := 3) ha (by omega); simpa using this
  simp only [↓amD, amU, Nat.reduceBEq, Nat.reduceAdd, Nat.reduceSub, Nat.reduceMul, Nat.reduceMod, Nat.reducePow, Nat.reduceLT, Nat.reduceDiv, Int.reduceToNat, BitVec.reduceToNat, zipEnv, Int.reduceLE, Int.reduceLT, Int.reduceNeg, BitVec.reduceEq, Int.reduceAdd, Int.reduceSub, Int.reduceMul, Nat.reduceLeDiff, Int.reduceEq, e0, e1, e2, e3]
  exact .val _ rfl
def fEqual : Fn := fn2 rdBs rdBs (fun a b => Nat.ble a.length most && Nat.ble b.length most) fun a b => (.raw (.bool (decide (a = b))), [])
theorem equal_ok (C : Ctx) (hC : CtxOK C P) : Meets C.glob P 31 (Fn.run fEqual) := by
  refine fn_meetsN (m_bytes_Equal C hC) fun ds rows r h => ?_
  obtain ⟨d, e, a, b, rfl, rfl, hd, he, hp, rfl⟩ := fn2_some h
  obtain ⟨x, hx⟩ := rdBs_nrm hd
  obtain ⟨y, hy⟩ := rdBs_nrm he
  refine ⟨rfl, _, .cons hx (.cons hy .nil), afun_mk rfl ?_⟩
  unfold a_bytes_Equal r_bytes_Equal
  simp only [↓amD, amU, Nat.reduceBEq, Nat.reduceAdd, Nat.reduceSub, Nat.reduceMul, Nat.reduceMod, Nat.reducePow, Nat.reduceLT, Nat.reduceDiv, Int.reduceToNat, BitVec.reduceToNat, zipEnv, Int.reduceLE, Int.reduceLT, Int.reduceNeg, BitVec.reduceEq, Int.reduceAdd, Int.reduceSub, Int.reduceMul, Nat.reduceLeDiff, Int.reduceEq, amC]
  refine ⟨IsBs.sshape (.inr ⟨x, rfl⟩), ?_⟩
  simp only [byte_bs, ↓amD, amU, Nat.reduceBEq, Nat.reduceAdd, Nat.reduceSub, Nat.reduceMul, Nat.reduceMod, Nat.reducePow, Nat.reduceLT, Nat.reduceDiv, Int.reduceToNat, BitVec.reduceToNat, zipEnv, Int.reduceLE, Int.reduceLT, Int.reduceNeg, BitVec.reduceEq, Int.reduceAdd, Int.reduceSub, Int.reduceMul, Nat.reduceLeDiff, Int.reduceEq]
  refine ⟨IsBs.sshape (.inr ⟨y, rfl⟩), ?_⟩
  simp only [ByteArray.toList_eq, List.toList_toArray, ub_beq]
  exact .val _ rfl
theorem kEqual (rows : Rows) (k : D → Rows → Prop) (d e : D) (p q : List (BitVec 8)) (h : BsIn rows d p) (h' : BsIn rows e q) (hp : p.length ≤ 1099511627776) (hq : q.length ≤ 1099511627776) : kCall fEqual rows k [d, e] = k (.raw (.bool (decide (p = q)))) rows := by
  refine (kCall_bs2 h h' (by simpa [most] using ⟨hp, hq⟩) rfl).trans ?_
  simp [shift, shiftRows]
def fPre : Fn := fn2 rdBs rdBs (fun a b => Nat.ble a.length most && Nat.ble b.length most) fun a b => (.raw (.bool (decide (b.length ≤ a.length) && decide (a.take b.length = b))), [])
theorem pre_ok (C : Ctx) (hC : CtxOK C P) (h20 : C.fn 31 = some fEqual) : Meets C.glob P 24 (Fn.run fPre) := by
  refine fn_meetsN (m_bytes_HasPrefix C hC) fun ds rows r h => ?_
  obtain ⟨d, e, a, b, rfl, rfl, hd, he, hp, rfl⟩ := fn2_some h
  obtain ⟨x, hx⟩ := rdBs_nrm hd
  obtain ⟨y, hy⟩ := rdBs_nrm he
  refine ⟨rfl, _, .cons hx (.cons hy .nil), afun_mk rfl ?_⟩
  simp only [Bool.and_eq_true, Nat.ble_eq] at hp
  unfold most at hp
  clear h hx hy hd he
  unfold a_bytes_HasPrefix r_bytes_HasPrefix
  by_cases hl : b.length ≤ a.length
  · have hl1 : ((b.length : Int) ≤ (a.length : Int)) = True := eq_true (by omega)
    have hl2 : ((0 : Int) ≤ (b.length : Int)) = True := eq_true (by omega)
    simp only [↓amD, amU, Nat.reduceBEq, Nat.reduceAdd, Nat.reduceSub, Nat.reduceMul, Nat.reduceMod, Nat.reducePow, Nat.reduceLT, Nat.reduceDiv, Int.reduceToNat, BitVec.reduceToNat, zipEnv, Int.reduceLE, Int.reduceLT, Int.reduceNeg, BitVec.reduceEq, Int.reduceAdd, Int.reduceSub, Int.reduceMul, Nat.reduceLeDiff, Int.reduceEq, bs_len, hl1, hl2, h20]
    simp only [Nat.sub_zero, bs_take]
    refine Eq.mpr (kEqual _ _ _ _ (a.take b.length) b (IsBs.to (.inr ⟨_, rfl⟩)) (IsBs.to (.inr ⟨_, rfl⟩)) (by rw [List.length_take]; omega) (by omega)) ?_
    simp only [↓amD, amU, Nat.reduceBEq, Nat.reduceAdd, Nat.reduceSub, Nat.reduceMul, Nat.reduceMod, Nat.reducePow, Nat.reduceLT, Nat.reduceDiv, Int.reduceToNat, BitVec.reduceToNat, zipEnv, Int.reduceLE, Int.reduceLT, Int.reduceNeg, BitVec.reduceEq, Int.reduceAdd, Int.reduceSub, Int.reduceMul, Nat.reduceLeDiff, Int.reduceEq]
    simp only [hl, decide_true, Bool.true_and]
    exact .val _ rfl
  · have hl1 : ((b.length : Int) ≤ (a.length : Int)) = False := eq_false (by omega)
    simp only [↓amD, amU, Nat.reduceBEq, Nat.reduceAdd, Nat.reduceSub, Nat.reduceMul, Nat.reduceMod, Nat.reducePow, Nat.reduceLT, Nat.reduceDiv, Int.reduceToNat, BitVec.reduceToNat, zipEnv, Int.reduceLE, Int.reduceLT, Int.reduceNeg, BitVec.reduceEq, Int.reduceAdd, Int.reduceSub, Int.reduceMul, Nat.reduceLeDiff, Int.reduceEq, bs_len, hl1]
    simp only [hl, decide_false, Bool.false_and]
    exact .val _ rfl
theorem kPre (rows : Rows) (k : D → Rows → Prop) (d e : D) (p q : List (BitVec 8)) (h : BsIn rows d p) (h' : BsIn rows e q) (hp : p.length ≤ 1099511627776) (hq : q.length ≤ 1099511627776) : kCall fPre rows k [d, e] = k (.raw (.bool (decide (q.length ≤ p.length) && decide (p.take q.length = q)))) rows := by
  refine (kCall_bs2 h h' (by simpa [most] using ⟨hp, hq⟩) rfl).trans ?_
  simp [shift, shiftRows]
theorem val_q (q : List (BitVec 8)) (h : 4 ≤ q.length) : (valS (q.take 4)).setWidth 32 = numS q ∧ wz ((valS (q.take 4)).toNat : Int) = ((numS q).toNat : Int) := by
  match q, h with
  | a :: b :: c :: d :: l, _ =>
    have h1 : (a :: b :: c :: d :: l).take 4 = [a, b, c, d] := rfl
    have h2 : numS (a :: b :: c :: d :: l) = numS [a, b, c, d] := rfl
    rw [h1, h2]
    refine ⟨val_num a b c d, ?_⟩
    have h3 := val4_nat a b c d
    have h4 := num4_nat a b c d
    have h5 := a.isLt
    have h6 := b.isLt
    have h7 := c.isLt
    have h8 := d.isLt
    rw [wz_id (by omega)]
    omega
structure Man where
  v : Int
  s : Int
  e : Int
  dg : List (BitVec 8)
abbrev SM : Sh := .cons LI (.cons LI (.cons LI (.cons (.ar 32 L8) .nil)))
def manD (m : Man) : D := .agg SM [.raw (it m.v), .raw (it m.s), .raw (it m.e), .agg (.ar 32 L8) (bs m.dg)]
theorem manD_inj (x y : Man) (h : manD x = manD y) : x = y := by
  obtain ⟨v, s, e, d⟩ := x
  obtain ⟨v', s', e', d'⟩ := y
  unfold manD at h
  injection h with _ h
  injection h with h1 h
  injection h with h2 h
  injection h with h3 h
  injection h with h4 _
  injection h4 with _ h4
  injection h1 with h1
  injection h2 with h2
  injection h3 with h3
  cases it_inj.1 h1
  cases it_inj.1 h2
  cases it_inj.1 h3
  cases bs_inj h4
  rfl
def rightS (m : Man) : Bool := decide (0 ≤ m.v) && decide (m.v ≤ 255) && decide (4 ≤ m.s) && decide (m.s ≤ 2048) && decide (m.s.tmod 4 = 0) && decide (0 ≤ m.e) && decide (m.e < m.s) && decide (m.e.tmod 4 = 0)
noncomputable def fRight : Fn := fn1 (rdOf manD) (fun _ => true) fun m => (.raw (.bool (rightS m)), [])
theorem right_ok (C : Ctx) (hC : CtxOK C P) : Meets C.glob P 22 (Fn.run fRight) := by
  refine fn_meets (m_manifest_Manifest_right C hC) fun ds rows r h => ?_
  obtain ⟨d, m, rfl, rfl, hd, hp, rfl⟩ := fn1_some h
  cases rdOf_some hd
  refine ⟨rfl, afun_mk rfl ?_⟩
  clear h hd
  obtain ⟨v, s, e, dg⟩ := m
  unfold a_manifest_Manifest_right r_manifest_Manifest_right
  by_cases c1 : 0 ≤ v
  case pos =>
    by_cases c2 : v ≤ 255
    case pos =>
      by_cases c3 : 4 ≤ s
      case pos =>
        by_cases c4 : s ≤ 2048
        case pos =>
          by_cases c5 : s.tmod 4 = 0
          case pos =>
            by_cases c6 : 0 ≤ e
            case pos =>
              by_cases c7 : e < s
              case pos =>
                by_cases c8 : e.tmod 4 = 0
                case pos =>
                  simp only [↓amD, amU, Nat.reduceBEq, Nat.reduceAdd, Nat.reduceSub, Nat.reduceMul, Nat.reduceMod, Nat.reducePow, Nat.reduceLT, Nat.reduceDiv, Int.reduceToNat, BitVec.reduceToNat, zipEnv, Int.reduceLE, Int.reduceLT, Int.reduceNeg, BitVec.reduceEq, Int.reduceAdd, Int.reduceSub, Int.reduceMul, Nat.reduceLeDiff, Int.reduceEq, rightS, manD, c1, c2, c3, c4, c5, c6, c7, c8, decide_true, decide_false]
                  exact .val _ rfl
                case neg =>
                  simp only [↓amD, amU, Nat.reduceBEq, Nat.reduceAdd, Nat.reduceSub, Nat.reduceMul, Nat.reduceMod, Nat.reducePow, Nat.reduceLT, Nat.reduceDiv, Int.reduceToNat, BitVec.reduceToNat, zipEnv, Int.reduceLE, Int.reduceLT, Int.reduceNeg, BitVec.reduceEq, Int.reduceAdd, Int.reduceSub, Int.reduceMul, Nat.reduceLeDiff, Int.reduceEq, rightS, manD, c1, c2, c3, c4, c5, c6, c7, c8, decide_true, decide_false]
                  exact .val _ rfl
              case neg =>
                simp only [↓amD, amU, Nat.reduceBEq, Nat.reduceAdd, Nat.reduceSub, Nat.reduceMul, Nat.reduceMod, Nat.reducePow, Nat.reduceLT, Nat.reduceDiv, Int.reduceToNat, BitVec.reduceToNat, zipEnv, Int.reduceLE, Int.reduceLT, Int.reduceNeg, BitVec.reduceEq, Int.reduceAdd, Int.reduceSub, Int.reduceMul, Nat.reduceLeDiff, Int.reduceEq, rightS, manD, c1, c2, c3, c4, c5, c6, c7, decide_true, decide_false]
                exact .val _ rfl
            case neg =>
              simp only [↓amD, amU, Nat.reduceBEq, Nat.reduceAdd, Nat.reduceSub, Nat.reduceMul, Nat.reduceMod, Nat.reducePow, Nat.reduceLT, Nat.reduceDiv, Int.reduceToNat, BitVec.reduceToNat, zipEnv, Int.reduceLE, Int.reduceLT, Int.reduceNeg, BitVec.reduceEq, Int.reduceAdd, Int.reduceSub, Int.reduceMul, Nat.reduceLeDiff, Int.reduceEq, rightS, manD, c1, c2, c3, c4, c5, c6, decide_true, decide_false]
              exact .val _ rfl
          case neg =>
            simp only [↓amD, amU, Nat.reduceBEq, Nat.reduceAdd, Nat.reduceSub, Nat.reduceMul, Nat.reduceMod, Nat.reducePow, Nat.reduceLT, Nat.reduceDiv, Int.reduceToNat, BitVec.reduceToNat, zipEnv, Int.reduceLE, Int.reduceLT, Int.reduceNeg, BitVec.reduceEq, Int.reduceAdd, Int.reduceSub, Int.reduceMul, Nat.reduceLeDiff, Int.reduceEq, rightS, manD, c1, c2, c3, c4, c5, decide_true, decide_false]
            exact .val _ rfl
        case neg =>
          simp only [↓amD, amU, Nat.reduceBEq, Nat.reduceAdd, Nat.reduceSub, Nat.reduceMul, Nat.reduceMod, Nat.reducePow, Nat.reduceLT, Nat.reduceDiv, Int.reduceToNat, BitVec.reduceToNat, zipEnv, Int.reduceLE, Int.reduceLT, Int.reduceNeg, BitVec.reduceEq, Int.reduceAdd, Int.reduceSub, Int.reduceMul, Nat.reduceLeDiff, Int.reduceEq, rightS, manD, c1, c2, c3, c4, decide_true, decide_false]
          exact .val _ rfl
      case neg =>
        simp only [↓amD, amU, Nat.reduceBEq, Nat.reduceAdd, Nat.reduceSub, Nat.reduceMul, Nat.reduceMod, Nat.reducePow, Nat.reduceLT, Nat.reduceDiv, Int.reduceToNat, BitVec.reduceToNat, zipEnv, Int.reduceLE, Int.reduceLT, Int.reduceNeg, BitVec.reduceEq, Int.reduceAdd, Int.reduceSub, Int.reduceMul, Nat.reduceLeDiff, Int.reduceEq, rightS, manD, c1, c2, c3, decide_true, decide_false]
        exact .val _ rfl
    case neg =>
      by_cases c3 : 4 ≤ s
      case pos =>
        by_cases c4 : s ≤ 2048
        case pos =>
          by_cases c5 : s.tmod 4 = 0
          case pos =>
            simp only [↓amD, amU, Nat.reduceBEq, Nat.reduceAdd, Nat.reduceSub, Nat.reduceMul, Nat.reduceMod, Nat.reducePow, Nat.reduceLT, Nat.reduceDiv, Int.reduceToNat, BitVec.reduceToNat, zipEnv, Int.reduceLE, Int.reduceLT, Int.reduceNeg, BitVec.reduceEq, Int.reduceAdd, Int.reduceSub, Int.reduceMul, Nat.reduceLeDiff, Int.reduceEq, rightS, manD, c1, c2, c3, c4, c5, decide_true, decide_false]
            exact .val _ rfl
          case neg =>
            simp only [↓amD, amU, Nat.reduceBEq, Nat.reduceAdd, Nat.reduceSub, Nat.reduceMul, Nat.reduceMod, Nat.reducePow, Nat.reduceLT, Nat.reduceDiv, Int.reduceToNat, BitVec.reduceToNat, zipEnv, Int.reduceLE, Int.reduceLT, Int.reduceNeg, BitVec.reduceEq, Int.reduceAdd, Int.reduceSub, Int.reduceMul, Nat.reduceLeDiff, Int.reduceEq, rightS, manD, c1, c2, c3, c4, c5, decide_true, decide_false]
            exact .val _ rfl
        case neg =>
          simp only [↓amD, amU, Nat.reduceBEq, Nat.reduceAdd, Nat.reduceSub, Nat.reduceMul, Nat.reduceMod, Nat.reducePow, Nat.reduceLT, Nat.reduceDiv, Int.reduceToNat, BitVec.reduceToNat, zipEnv, Int.reduceLE, Int.reduceLT, Int.reduceNeg, BitVec.reduceEq, Int.reduceAdd, Int.reduceSub, Int.reduceMul, Nat.reduceLeDiff, Int.reduceEq, rightS, manD, c1, c2, c3, c4, decide_true, decide_false]
          exact .val _ rfl
      case neg =>
        simp only [↓amD, amU, Nat.reduceBEq, Nat.reduceAdd, Nat.reduceSub, Nat.reduceMul, Nat.reduceMod, Nat.reducePow, Nat.reduceLT, Nat.reduceDiv, Int.reduceToNat, BitVec.reduceToNat, zipEnv, Int.reduceLE, Int.reduceLT, Int.reduceNeg, BitVec.reduceEq, Int.reduceAdd, Int.reduceSub, Int.reduceMul, Nat.reduceLeDiff, Int.reduceEq, rightS, manD, c1, c2, c3, decide_true, decide_false]
        exact .val _ rfl
  case neg =>
    by_cases c3 : 4 ≤ s
    case pos =>
      by_cases c4 : s ≤ 2048
      case pos =>
        by_cases c5 : s.tmod 4 = 0
        case pos =>
          simp only [↓amD, amU, Nat.reduceBEq, Nat.reduceAdd, Nat.reduceSub, Nat.reduceMul, Nat.reduceMod, Nat.reducePow, Nat.reduceLT, Nat.reduceDiv, Int.reduceToNat, BitVec.reduceToNat, zipEnv, Int.reduceLE, Int.reduceLT, Int.reduceNeg, BitVec.reduceEq, Int.reduceAdd, Int.reduceSub, Int.reduceMul, Nat.reduceLeDiff, Int.reduceEq, rightS, manD, c1, c3, c4, c5, decide_true, decide_false]
          exact .val _ rfl
        case neg =>
          simp only [↓amD, amU, Nat.reduceBEq, Nat.reduceAdd, Nat.reduceSub, Nat.reduceMul, Nat.reduceMod, Nat.reducePow, Nat.reduceLT, Nat.reduceDiv, Int.reduceToNat, BitVec.reduceToNat, zipEnv, Int.reduceLE, Int.reduceLT, Int.reduceNeg, BitVec.reduceEq, Int.reduceAdd, Int.reduceSub, Int.reduceMul, Nat.reduceLeDiff, Int.reduceEq, rightS, manD, c1, c3, c4, c5, decide_true, decide_false]
          exact .val _ rfl
      case neg =>
        simp only [↓amD, amU, Nat.reduceBEq, Nat.reduceAdd, Nat.reduceSub, Nat.reduceMul, Nat.reduceMod, Nat.reducePow, Nat.reduceLT, Nat.reduceDiv, Int.reduceToNat, BitVec.reduceToNat, zipEnv, Int.reduceLE, Int.reduceLT, Int.reduceNeg, BitVec.reduceEq, Int.reduceAdd, Int.reduceSub, Int.reduceMul, Nat.reduceLeDiff, Int.reduceEq, rightS, manD, c1, c3, c4, decide_true, decide_false]
        exact .val _ rfl
    case neg =>
      simp only [↓amD, amU, Nat.reduceBEq, Nat.reduceAdd, Nat.reduceSub, Nat.reduceMul, Nat.reduceMod, Nat.reducePow, Nat.reduceLT, Nat.reduceDiv, Int.reduceToNat, BitVec.reduceToNat, zipEnv, Int.reduceLE, Int.reduceLT, Int.reduceNeg, BitVec.reduceEq, Int.reduceAdd, Int.reduceSub, Int.reduceMul, Nat.reduceLeDiff, Int.reduceEq, rightS, manD, c1, c3, decide_true, decide_false]
      exact .val _ rfl
theorem rright_ok (C : Ctx) (hC : CtxOK C P) : Meets C.glob P 8 (Fn.run fRight) := by
  refine fn_meets (m_ref08_Right C hC) fun ds rows r h => ?_
  obtain ⟨d, m, rfl, rfl, hd, hp, rfl⟩ := fn1_some h
  cases rdOf_some hd
  refine ⟨rfl, afun_mk rfl ?_⟩
  clear h hd
  obtain ⟨v, s, e, dg⟩ := m
  unfold a_ref08_Right r_ref08_Right
  by_cases c1 : 0 ≤ v
  case pos =>
    by_cases c2 : v ≤ 255
    case pos =>
      by_cases c3 : 4 ≤ s
      case pos =>
        by_cases c4 : s ≤ 2048
        case pos =>
          by_cases c5 : s.tmod 4 = 0
          case pos =>
            by_cases c6 : 0 ≤ e
            case pos =>
              by_cases c8 : e.tmod 4 = 0
              case pos =>
                by_cases c7 : e < s
                case pos =>
                  simp only [↓amD, amU, Nat.reduceBEq, Nat.reduceAdd, Nat.reduceSub, Nat.reduceMul, Nat.reduceMod, Nat.reducePow, Nat.reduceLT, Nat.reduceDiv, Int.reduceToNat, BitVec.reduceToNat, zipEnv, Int.reduceLE, Int.reduceLT, Int.reduceNeg, BitVec.reduceEq, Int.reduceAdd, Int.reduceSub, Int.reduceMul, Nat.reduceLeDiff, Int.reduceEq, rightS, manD, c1, c2, c3, c4, c5, c6, c8, c7, decide_true, decide_false]
                  exact .val _ rfl
                case neg =>
                  simp only [↓amD, amU, Nat.reduceBEq, Nat.reduceAdd, Nat.reduceSub, Nat.reduceMul, Nat.reduceMod, Nat.reducePow, Nat.reduceLT, Nat.reduceDiv, Int.reduceToNat, BitVec.reduceToNat, zipEnv, Int.reduceLE, Int.reduceLT, Int.reduceNeg, BitVec.reduceEq, Int.reduceAdd, Int.reduceSub, Int.reduceMul, Nat.reduceLeDiff, Int.reduceEq, rightS, manD, c1, c2, c3, c4, c5, c6, c8, c7, decide_true, decide_false]
                  exact .val _ rfl
              case neg =>
                simp only [↓amD, amU, Nat.reduceBEq, Nat.reduceAdd, Nat.reduceSub, Nat.reduceMul, Nat.reduceMod, Nat.reducePow, Nat.reduceLT, Nat.reduceDiv, Int.reduceToNat, BitVec.reduceToNat, zipEnv, Int.reduceLE, Int.reduceLT, Int.reduceNeg, BitVec.reduceEq, Int.reduceAdd, Int.reduceSub, Int.reduceMul, Nat.reduceLeDiff, Int.reduceEq, rightS, manD, c1, c2, c3, c4, c5, c6, c8, decide_true, decide_false]
                exact .val _ rfl
            case neg =>
              simp only [↓amD, amU, Nat.reduceBEq, Nat.reduceAdd, Nat.reduceSub, Nat.reduceMul, Nat.reduceMod, Nat.reducePow, Nat.reduceLT, Nat.reduceDiv, Int.reduceToNat, BitVec.reduceToNat, zipEnv, Int.reduceLE, Int.reduceLT, Int.reduceNeg, BitVec.reduceEq, Int.reduceAdd, Int.reduceSub, Int.reduceMul, Nat.reduceLeDiff, Int.reduceEq, rightS, manD, c1, c2, c3, c4, c5, c6, decide_true, decide_false]
              exact .val _ rfl
          case neg =>
            simp only [↓amD, amU, Nat.reduceBEq, Nat.reduceAdd, Nat.reduceSub, Nat.reduceMul, Nat.reduceMod, Nat.reducePow, Nat.reduceLT, Nat.reduceDiv, Int.reduceToNat, BitVec.reduceToNat, zipEnv, Int.reduceLE, Int.reduceLT, Int.reduceNeg, BitVec.reduceEq, Int.reduceAdd, Int.reduceSub, Int.reduceMul, Nat.reduceLeDiff, Int.reduceEq, rightS, manD, c1, c2, c3, c4, c5, decide_true, decide_false]
            exact .val _ rfl
        case neg =>
          simp only [↓amD, amU, Nat.reduceBEq, Nat.reduceAdd, Nat.reduceSub, Nat.reduceMul, Nat.reduceMod, Nat.reducePow, Nat.reduceLT, Nat.reduceDiv, Int.reduceToNat, BitVec.reduceToNat, zipEnv, Int.reduceLE, Int.reduceLT, Int.reduceNeg, BitVec.reduceEq, Int.reduceAdd, Int.reduceSub, Int.reduceMul, Nat.reduceLeDiff, Int.reduceEq, rightS, manD, c1, c2, c3, c4, decide_true, decide_false]
          exact .val _ rfl
      case neg =>
        simp only [↓amD, amU, Nat.reduceBEq, Nat.reduceAdd, Nat.reduceSub, Nat.reduceMul, Nat.reduceMod, Nat.reducePow, Nat.reduceLT, Nat.reduceDiv, Int.reduceToNat, BitVec.reduceToNat, zipEnv, Int.reduceLE, Int.reduceLT, Int.reduceNeg, BitVec.reduceEq, Int.reduceAdd, Int.reduceSub, Int.reduceMul, Nat.reduceLeDiff, Int.reduceEq, rightS, manD, c1, c2, c3, decide_true, decide_false]
        exact .val _ rfl
    case neg =>
      simp only [↓amD, amU, Nat.reduceBEq, Nat.reduceAdd, Nat.reduceSub, Nat.reduceMul, Nat.reduceMod, Nat.reducePow, Nat.reduceLT, Nat.reduceDiv, Int.reduceToNat, BitVec.reduceToNat, zipEnv, Int.reduceLE, Int.reduceLT, Int.reduceNeg, BitVec.reduceEq, Int.reduceAdd, Int.reduceSub, Int.reduceMul, Nat.reduceLeDiff, Int.reduceEq, rightS, manD, c1, c2, decide_true, decide_false]
      exact .val _ rfl
  case neg =>
    simp only [↓amD, amU, Nat.reduceBEq, Nat.reduceAdd, Nat.reduceSub, Nat.reduceMul, Nat.reduceMod, Nat.reducePow, Nat.reduceLT, Nat.reduceDiv, Int.reduceToNat, BitVec.reduceToNat, zipEnv, Int.reduceLE, Int.reduceLT, Int.reduceNeg, BitVec.reduceEq, Int.reduceAdd, Int.reduceSub, Int.reduceMul, Nat.reduceLeDiff, Int.reduceEq, rightS, manD, c1, decide_true, decide_false]
    exact .val _ rfl
theorem manD_ref (m : Man) : hasRef (manD m) = false := by simp [manD, hasRef, hasRefL, Sh.pure]
theorem manD_fits (m : Man) : (manD m).fits SM = true := by simp [manD, D.fits]
theorem manD_shift (n : Nat) (m : Man) : shift n (manD m) = manD m := by simp [manD, shift, Sh.pure]
theorem kRight (rows : Rows) (k : D → Rows → Prop) (m : Man) : kCall fRight rows k [manD m] = k (.raw (.bool (rightS m))) rows := by
  refine (kCall_val (by simp [hasRefL, manD_ref]) (r := (.raw (.bool (rightS m)), [])) ?_).trans ?_
  · rw [fRight, fn1_eq (rdOf_eq manD_inj m) rfl]
  · simp [shift, shiftRows]
def curt : List (BitVec 8) := [67#8, 85#8, 82#8, 84#8]
def bodyL (m : Man) : List (BitVec 8) := curt ++ numI m.v.toNat ++ numI m.s.toNat ++ numI m.e.toNat ++ m.dg
noncomputable def fBodyM : Fn := fn1 (rdOf manD) (fun m => decide (m.dg.length = 32)) fun m => bif rightS m then (.tup [.sl L8 0 [] 0 48 false, .raw (it 0)], [some ⟨L8, bs (bodyL m)⟩]) else (.tup [.raw (.slice none 0 0), .raw (it 1)], [])
def preL (m : Man) : Nat → List (BitVec 8)
  | 0 => curt
  | 1 => curt ++ numI m.v.toNat
  | 2 => curt ++ numI m.v.toNat ++ numI m.s.toNat
  | _ => curt ++ numI m.v.toNat ++ numI m.s.toNat ++ numI m.e.toNat
theorem right_nat {m : Man} (h : rightS m = true) : ∃ v s e : Nat, m.v = v ∧ m.s = s ∧ m.e = e ∧ v ≤ 255 ∧ s ≤ 2048 ∧ 4 ≤ s ∧ e < s ∧ s % 4 = 0 ∧ e % 4 = 0 := by
  simp only [rightS, Bool.and_eq_true, decide_eq_true_eq] at h
  obtain ⟨⟨⟨⟨⟨⟨⟨h1, h2⟩, h3⟩, h4⟩, h5⟩, h6⟩, h7⟩, h8⟩ := h
  obtain ⟨v, hv⟩ := Int.eq_ofNat_of_zero_le h1
  obtain ⟨s, hs⟩ := Int.eq_ofNat_of_zero_le (by omega : 0 ≤ m.s)
  obtain ⟨e, he⟩ := Int.eq_ofNat_of_zero_le h6
  rw [hs] at h5
  rw [he] at h8
  have h5' : (s : Int).tmod 4 = ((s % 4 : Nat) : Int) := rfl
  have h8' : (e : Int).tmod 4 = ((e % 4 : Nat) : Int) := rfl
  rw [h5'] at h5
  rw [h8'] at h8
  exact ⟨v, s, e, hv, hs, he, by omega, by omega, by omega, by omega, by omega, by omega⟩
theorem body_ok (C : Ctx) (hC : CtxOK C P) (hr : C.fn 22 = some fRight) : Meets C.glob P 7 (Fn.run fBodyM) := by
  refine fn_meets (m_manifest_Manifest_Body C hC) fun ds rows r h => ?_
  obtain ⟨d, m, rfl, rfl, hd, hp, rfl⟩ := fn1_some h
  cases rdOf_some hd
  simp only [decide_eq_true_eq] at hp
  refine ⟨rfl, afun_mk rfl ?_⟩
  clear h hd
  unfold a_manifest_Manifest_Body r_manifest_Manifest_Body
  cases hk : rightS m
  · simp only [↓amD, amU, Nat.reduceBEq, Nat.reduceAdd, Nat.reduceSub, Nat.reduceMul, Nat.reduceMod, Nat.reducePow, Nat.reduceLT, Nat.reduceDiv, Int.reduceToNat, BitVec.reduceToNat, zipEnv, Int.reduceLE, Int.reduceLT, Int.reduceNeg, BitVec.reduceEq, Int.reduceAdd, Int.reduceSub, Int.reduceMul, Nat.reduceLeDiff, Int.reduceEq, manD_fits, hr, kRight, hk, cond_false]
    exact .val _ rfl
  · obtain ⟨v, s, e, hv, hs, he, b1, b2, b3, b4, -, -⟩ := right_nat hk
    have e1 : ∀ n : Nat, (n : Int).fdiv (2 ^ (min 24 64)) = ((n / 16777216 : Nat) : Int) := fun n => fdiv_nat n 16777216
    have e2 : ∀ n : Nat, (n : Int).fdiv (2 ^ (min 16 64)) = ((n / 65536 : Nat) : Int) := fun n => fdiv_nat n 65536
    have e3 : ∀ n : Nat, (n : Int).fdiv (2 ^ (min 8 64)) = ((n / 256 : Nat) : Int) := fun n => fdiv_nat n 256
    have e4 : ∀ m : Nat, BitVec.ofInt 8 (m : Int) = BitVec.ofNat 8 m := fun m => rfl
    have hg : manD m = .agg SM [.raw (it (v : Int)), .raw (it (s : Int)), .raw (it (e : Int)), .agg (.ar 32 L8) (bs m.dg)] := by rw [manD, hv, hs, he]
    have hfm := manD_fits m
    have hkm := fun rows k => kRight rows k m
    rw [hk] at hkm
    rw [hg] at hfm hkm ⊢
    simp only [↓amD, amU, Nat.reduceBEq, Nat.reduceAdd, Nat.reduceSub, Nat.reduceMul, Nat.reduceMod, Nat.reducePow, Nat.reduceLT, Nat.reduceDiv, Int.reduceToNat, BitVec.reduceToNat, zipEnv, Int.reduceLE, Int.reduceLT, Int.reduceNeg, BitVec.reduceEq, Int.reduceAdd, Int.reduceSub, Int.reduceMul, Nat.reduceLeDiff, Int.reduceEq, hfm, hr, hkm, cond_true]
    refine kLoop_up 3 (fun i env rows => ∃ x, has env [(1, .ptr SM 0 [0]), (4, x), (18, .sl LI 2 [] 0 3 true), (19, .raw (it 3)), (20, .raw (it (i : Int)))] ∧
      Own L8 x rows (bs (preL m i)) ∧ live rows 0 = some ⟨SM, [.agg SM [.raw (it (v : Int)), .raw (it (s : Int)), .raw (it (e : Int)), .agg (.ar 32 L8) (bs m.dg)]]⟩ ∧ live rows 2 = some ⟨LI, [.raw (it (v : Int)), .raw (it (s : Int)), .raw (it (e : Int))]⟩) ?_ ?_ ⟨.sl L8 1 [] 0 4 true, ?_, .inr ⟨1, true, rfl, rfl⟩, rfl, rfl⟩
    · rintro i hi env rows ⟨x, hh, how, r0, r2⟩ R hR
      simp only [has] at hh
      have hi2 : i = 0 ∨ i = 1 ∨ i = 2 := by omega
      have n0 := own_neA how r0 (by decide)
      have n2 := own_neA how r2 (by decide)
      rcases hi2 with rfl | rfl | rfl
      all_goals
        simp only [↓amD, amU, Nat.reduceBEq, Nat.reduceAdd, Nat.reduceSub, Nat.reduceMul, Nat.reduceMod, Nat.reducePow, Nat.reduceLT, Nat.reduceDiv, Int.reduceToNat, BitVec.reduceToNat, zipEnv, Int.reduceLE, Int.reduceLT, Int.reduceNeg, BitVec.reduceEq, Int.reduceAdd, Int.reduceSub, Int.reduceMul, Nat.reduceLeDiff, Int.reduceEq, lv_app0, lv_appk, set_app0, set_appk, List.append_assoc, List.append_nil, Nat.add_assoc, hh, r0, r2, b_shri, e1, e2, e3, e4]
        refine app_own how.push (by rw [bs_len]; simp [preL, numI, curt, most]) (by rw [bs_len]; simp [preL, numI, curt, most]) ?_
        intro x' r' how' hk' _ _
        simp only [↓amD, amU, Nat.reduceBEq, Nat.reduceAdd, Nat.reduceSub, Nat.reduceMul, Nat.reduceMod, Nat.reducePow, Nat.reduceLT, Nat.reduceDiv, Int.reduceToNat, BitVec.reduceToNat, zipEnv, Int.reduceLE, Int.reduceLT, Int.reduceNeg, BitVec.reduceEq, Int.reduceAdd, Int.reduceSub, Int.reduceMul, Nat.reduceLeDiff, Int.reduceEq, hh]
        refine hR _ _ ⟨x', ?_, ?_, hk' 0 _ (live_app r0 _) (fun ex => n0 ex _), hk' 2 _ (live_app r2 _) (fun ex => n2 ex _)⟩
        · simp only [has, ↓amD, amU, Nat.reduceBEq, Nat.reduceAdd, Nat.reduceSub, Nat.reduceMul, Nat.reduceMod, Nat.reducePow, Nat.reduceLT, Nat.reduceDiv, Int.reduceToNat, BitVec.reduceToNat, zipEnv, Int.reduceLE, Int.reduceLT, Int.reduceNeg, BitVec.reduceEq, Int.reduceAdd, Int.reduceSub, Int.reduceMul, Nat.reduceLeDiff, Int.reduceEq, hh]
        · have hpl : ∀ n l, bs l ++ [.raw (u8 (BitVec.ofNat 8 (n / 16777216))), .raw (u8 (BitVec.ofNat 8 (n / 65536))), .raw (u8 (BitVec.ofNat 8 (n / 256))), .raw (u8 (BitVec.ofNat 8 n))] = bs (l ++ numI n) := fun n l => by rw [← bs_app]; rfl
          rw [hpl] at how'
          simpa only [preL, hv, hs, he, Int.toNat_natCast] using how'
    · rintro env rows ⟨x, hh, how, r0, r2⟩ R
      simp only [has] at hh
      have e16 : (bs m.dg).length = 32 := by rw [bs_len, hp]
      have hE : Am.elems rows (.sl L8 0 [0, 3] 0 32 true) = some (bs m.dg) := by
        simp only [Am.elems, r0]
        show some (List.take 32 ((bs m.dg).drop 0)) = _
        rw [List.drop_zero, List.take_of_length_le (by omega)]
      simp only [↓amD, amU, Nat.reduceBEq, Nat.reduceAdd, Nat.reduceSub, Nat.reduceMul, Nat.reduceMod, Nat.reducePow, Nat.reduceLT, Nat.reduceDiv, Int.reduceToNat, BitVec.reduceToNat, zipEnv, Int.reduceLE, Int.reduceLT, Int.reduceNeg, BitVec.reduceEq, Int.reduceAdd, Int.reduceSub, Int.reduceMul, Nat.reduceLeDiff, Int.reduceEq, lv_app0, lv_appk, set_app0, set_appk, List.append_assoc, List.append_nil, Nat.add_assoc, hh, r0, r2, hE, e16]
      have b16 : (bs (preL m 3)).length = 16 := by rw [bs_len]; simp [preL, numI, curt]
      refine app_own how (by rw [e16, b16]; decide) (by rw [e16, b16]; decide) ?_
      intro x' r' how' _ _ _
      simp only [↓amD, amU, Nat.reduceBEq, Nat.reduceAdd, Nat.reduceSub, Nat.reduceMul, Nat.reduceMod, Nat.reducePow, Nat.reduceLT, Nat.reduceDiv, Int.reduceToNat, BitVec.reduceToNat, zipEnv, Int.reduceLE, Int.reduceLT, Int.reduceNeg, BitVec.reduceEq, Int.reduceAdd, Int.reduceSub, Int.reduceMul, Nat.reduceLeDiff, Int.reduceEq, hh, how'.nTup]
      have hb : bs (preL m 3) ++ bs m.dg = bs (bodyL m) := by rw [bs_app]; rfl
      have hn : (bs (bodyL m)).length = 48 := by rw [← hb, List.length_append, b16, e16]
      rw [hb] at how'
      rcases how' with ⟨h1, -⟩ | ⟨r2, ex2, rfl, hl2⟩
      · rw [h1] at hn; simp at hn
      · rw [hn]
        exact .ownT L8 r2 0 48 ex2 false ⟨L8, _⟩ [.raw (it 0)] hl2 rfl rfl (fun h => by cases h)
    · simp only [has, ↓amD, amU, Nat.reduceBEq, Nat.reduceAdd, Nat.reduceSub, Nat.reduceMul, Nat.reduceMod, Nat.reducePow, Nat.reduceLT, Nat.reduceDiv, Int.reduceToNat, BitVec.reduceToNat, zipEnv, Int.reduceLE, Int.reduceLT, Int.reduceNeg, BitVec.reduceEq, Int.reduceAdd, Int.reduceSub, Int.reduceMul, Nat.reduceLeDiff, Int.reduceEq]
theorem body_len (m : Man) (h : m.dg.length = 32) : (bodyL m).length = 48 := by simp [bodyL, curt, numI, h]
theorem kBodyM (rows : Rows) (k : D → Rows → Prop) (m : Man) (h : m.dg.length = 32) (hk : rightS m = true) : kCall fBodyM rows k [manD m] = k (.tup [.sl L8 (0 + rows.length) [] 0 48 false, .raw (it 0)]) (rows ++ [some ⟨L8, bs (bodyL m)⟩]) := by
  refine (kCall_val (by simp [hasRefL, manD_ref]) (r := (.tup [.sl L8 0 [] 0 48 false, .raw (it 0)], [some ⟨L8, bs (bodyL m)⟩])) ?_).trans ?_
  · rw [fBodyM, fn1_eq (rdOf_eq manD_inj m) (by simp [h]), hk]; rfl
  · simp [shift, shiftL, shiftRows, Sh.pure]
theorem kBodyN (rows : Rows) (k : D → Rows → Prop) (m : Man) (h : m.dg.length = 32) (hk : rightS m = false) : kCall fBodyM rows k [manD m] = k (.tup [.raw (.slice none 0 0), .raw (it 1)]) rows := by
  refine (kCall_val (by simp [hasRefL, manD_ref]) (r := (.tup [.raw (.slice none 0 0), .raw (it 1)], [])) ?_).trans ?_
  · rw [fBodyM, fn1_eq (rdOf_eq manD_inj m) (by simp [h]), hk]; rfl
  · simp [shift, shiftL, shiftRows]
end Job
end Go.Am
namespace Go.Am
set_option linter.unusedSimpArgs false
set_option linter.unusedVariables false
attribute [local congr] bnd_congr kCond_congr kGd_congr kPick_congr kCall_congr kIdx_congr kSlice_congr kLoop_congr cond_congr' aBin_congr aBounds_congr aApp_congr aCopy_congr kFn_congr
namespace Job
open Go.Am.F
set_option maxRecDepth 10000
noncomputable def fOwn : Fn := fn1 (rdOf manD) (fun _ => true) fun m => (manD m, [])
theorem own_ok (C : Ctx) (hC : CtxOK C P) : Meets C.glob P 9 (Fn.run fOwn) := by
  refine fn_meets (m_law08_own C hC) fun ds rows r h => ?_
  obtain ⟨d, m, rfl, rfl, hd, hp, rfl⟩ := fn1_some h
  cases rdOf_some hd
  refine ⟨rfl, afun_mk rfl ?_⟩
  clear h hd
  unfold a_law08_own r_law08_own
  simp only [↓amD, amU, Nat.reduceBEq, Nat.reduceAdd, Nat.reduceSub, Nat.reduceMul, Nat.reduceMod, Nat.reducePow, Nat.reduceLT, Nat.reduceDiv, Int.reduceToNat, BitVec.reduceToNat, zipEnv, Int.reduceLE, Int.reduceLT, Int.reduceNeg, BitVec.reduceEq, Int.reduceAdd, Int.reduceSub, Int.reduceMul, Nat.reduceLeDiff, Int.reduceEq, manD_fits]
  exact .val _ (manD_ref m)
theorem kOwn (rows : Rows) (k : D → Rows → Prop) (m : Man) : kCall fOwn rows k [manD m] = k (manD m) rows := by
  refine (kCall_val (by simp [hasRefL, manD_ref]) (r := (manD m, [])) ?_).trans ?_
  · rw [fOwn, fn1_eq (rdOf_eq manD_inj m) rfl]
  · simp [manD_shift, shiftRows]
noncomputable def fRefBodyM : Fn := fn1 (rdOf manD) (fun m => decide (m.dg.length = 32) && rightS m) fun m => outBs (bodyL m) false
theorem refBody_ok (C : Ctx) (hC : CtxOK C P) (h10 : C.fn 12 = some fJoin) (h16 : C.fn 23 = some fNumS) : Meets C.glob P 11 (Fn.run fRefBodyM) := by
  refine fn_meets (m_ref08_Body C hC) fun ds rows r h => ?_
  obtain ⟨d, m, rfl, rfl, hd, hp, rfl⟩ := fn1_some h
  cases rdOf_some hd
  refine ⟨rfl, afun_mk rfl ?_⟩
  clear h hd
  unfold a_ref08_Body r_ref08_Body
  simp only [Bool.and_eq_true, decide_eq_true_eq] at hp
  obtain ⟨hl, hk⟩ := hp
  obtain ⟨v, s, e, hv, hs, he, b1, b2, b3, b4, -, -⟩ := right_nat hk
  have hg : manD m = .agg SM [.raw (it (v : Int)), .raw (it (s : Int)), .raw (it (e : Int)), .agg (.ar 32 L8) (bs m.dg)] := by rw [manD, hv, hs, he]
  have hfm := manD_fits m
  rw [hg] at hfm ⊢
  have hT : [D.raw (u8 67#8), D.raw (u8 85#8), D.raw (u8 82#8), D.raw (u8 84#8)] = bs curt := rfl
  have l1 : ∀ n, (numI n).length = 4 := fun n => rfl
  have l2 : curt.length = 4 := rfl
  have kn := fun (rows : Rows) (k : D → Rows → Prop) (n : Nat) (h : n ≤ 2048) => kNumS4 rows k n (by omega)
  simp only [↓amD, amU, Nat.reduceBEq, Nat.reduceAdd, Nat.reduceSub, Nat.reduceMul, Nat.reduceMod, Nat.reducePow, Nat.reduceLT, Nat.reduceDiv, Int.reduceToNat, BitVec.reduceToNat, zipEnv, Int.reduceLE, Int.reduceLT, Int.reduceNeg, BitVec.reduceEq, Int.reduceAdd, Int.reduceSub, Int.reduceMul, Nat.reduceLeDiff, Int.reduceEq, hfm, h16, kn _ _ v (by omega), kn _ _ s (by omega), kn _ _ e (by omega), h10, hT]
  have e1 : (bs m.dg).length = 32 := by rw [bs_len, hl]
  have e2 : ∀ l : List (BitVec 8), l.length = 4 → (bs l).take 4 = bs l := fun l h => List.take_of_length_le (by rw [bs_len, h]; exact Nat.le_refl _)
  have e3 : (bs m.dg).take 32 = bs m.dg := List.take_of_length_le (by rw [e1]; exact Nat.le_refl _)
  simp only [↓amD, amU, Nat.reduceBEq, Nat.reduceAdd, Nat.reduceSub, Nat.reduceMul, Nat.reduceMod, Nat.reducePow, Nat.reduceLT, Nat.reduceDiv, Int.reduceToNat, BitVec.reduceToNat, zipEnv, Int.reduceLE, Int.reduceLT, Int.reduceNeg, BitVec.reduceEq, Int.reduceAdd, Int.reduceSub, Int.reduceMul, Nat.reduceLeDiff, Int.reduceEq, amC, fJoin, rdBss, el_sp, aggO_agg, e1, e2 _ l2, e2 _ (l1 _), e3, l1, l2, beq_self_eq_true, outBs, List.flatten_cons, List.flatten_nil, List.append_nil, List.drop_zero]
  have hb : curt ++ (numI v ++ (numI s ++ (numI e ++ m.dg))) = bodyL m := by
    simp only [bodyL, List.append_assoc, hv, hs, he, Int.toNat_natCast]
  have hn : (bodyL m).length = 48 := body_len m hl
  have hss : decide (4 + (4 + (4 + (4 + m.dg.length))) ≤ 1099511627776) = true := by rw [hl]; rfl
  rw [hss, hb, hl]
  simp only [↓amD, amU, Nat.reduceBEq, Nat.reduceAdd, Nat.reduceSub, Nat.reduceMul, Nat.reduceMod, Nat.reducePow, Nat.reduceLT, Nat.reduceDiv, Int.reduceToNat, BitVec.reduceToNat, zipEnv, Int.reduceLE, Int.reduceLT, Int.reduceNeg, BitVec.reduceEq, Int.reduceAdd, Int.reduceSub, Int.reduceMul, Nat.reduceLeDiff, Int.reduceEq, amC]
  rw [hn]
  exact .own L8 6 0 48 false false _ rfl rfl id
theorem kRefBodyM (rows : Rows) (k : D → Rows → Prop) (m : Man) (h : m.dg.length = 32) (hk : rightS m = true) : kCall fRefBodyM rows k [manD m] = k (.sl L8 (0 + rows.length) [] 0 48 false) (rows ++ [some ⟨L8, bs (bodyL m)⟩]) := by
  refine (kCall_val (by simp [hasRefL, manD_ref]) (r := outBs (bodyL m) false) ?_).trans ?_
  · rw [fRefBodyM, fn1_eq (rdOf_eq manD_inj m) (by simp [h, hk])]
  · simp [outBs, shift, shiftL, shiftRows, Sh.pure, body_len m h]
def z32 : List (BitVec 8) := List.replicate 32 0#8
def zeroM : Man := ⟨0, 0, 0, z32⟩
def manOf (p : List (BitVec 8)) : Man := ⟨(numS (p.drop 4)).toNat, (numS (p.drop 8)).toNat, (numS (p.drop 12)).toNat, p.drop 16⟩
def parseS (p : List (BitVec 8)) : Man × Int :=
  bif decide (p.length = 48) && decide (p.take 4 = curt) then
    (bif rightS (manOf p) then (manOf p, 0) else (zeroM, 1))
  else (zeroM, 2)
noncomputable def fParse : Fn := fn1 rdBs (fun a => Nat.ble a.length most) fun p => (.tup [manD (parseS p).1, .raw (it (parseS p).2)], [])
theorem kNum32 (rows : Rows) (k : D → Rows → Prop) (x : List (BitVec 8)) (e : Bool) (h : 4 ≤ x.length) : kCall fNum rows k [.lst L8 (bs x) e] = k (.raw (it (((numS x).toNat : Nat) : Int))) rows := by
  refine (kCall_val rfl (fn1_eq (rdBs_lst x e) (by simpa using h))).trans ?_
  simp [shift, shiftRows]
theorem manD_mk (a b c : Int) (l : List (BitVec 8)) : D.agg SM [.raw (it a), .raw (it b), .raw (it c), .agg (.ar 32 L8) (bs l)] = manD ⟨a, b, c, l⟩ := rfl
theorem manD_z : D.agg SM [.raw (it 0), .raw (it 0), .raw (it 0), .agg (.ar 32 L8) (List.replicate 32 (.raw (u8 0#8)))] = manD zeroM := by rw [manD, zeroM, z32, bs_rep]
set_option maxHeartbeats 2000000 in
theorem parse_ok (C : Ctx) (hC : CtxOK C P) (h15 : C.fn 22 = some fRight) (h17 : C.fn 24 = some fPre) (h18 : C.fn 25 = some fNum) : Meets C.glob P 13 (Fn.run fParse) := by
  refine fn_meetsN (m_manifest_Parse C hC) fun ds rows r h => ?_
  obtain ⟨d, p, rfl, rfl, hd, hp, rfl⟩ := fn1_some h
  obtain ⟨x, hx⟩ := rdBs_nrm hd
  refine ⟨rfl, _, .cons hx .nil, afun_mk rfl ?_⟩
  simp only [Nat.ble_eq] at hp
  unfold most at hp
  clear h hx hd
  unfold a_manifest_Parse r_manifest_Parse
  have hz := manD_z
  have hfz := manD_fits zeroM
  have hT : [D.raw (u8 67#8), D.raw (u8 85#8), D.raw (u8 82#8), D.raw (u8 84#8)] = bs curt := rfl
  by_cases hl : p.length = 48
  · have hq : parseS p = if p.take 4 = curt then (if rightS (manOf p) then (manOf p, 0) else (zeroM, 1)) else (zeroM, 2) := by
      simp only [parseS, hl, decide_true, Bool.true_and]
      by_cases h1 : p.take 4 = curt <;> cases h2 : rightS (manOf p) <;> simp [h1]
    have h4 : (4 : Nat) ≤ curt.length := by decide
    simp only [↓amD, amU, Nat.reduceBEq, Nat.reduceAdd, Nat.reduceSub, Nat.reduceMul, Nat.reduceMod, Nat.reducePow, Nat.reduceLT, Nat.reduceDiv, Int.reduceToNat, BitVec.reduceToNat, zipEnv, Int.reduceLE, Int.reduceLT, Int.reduceNeg, BitVec.reduceEq, Int.reduceAdd, Int.reduceSub, Int.reduceMul, Nat.reduceLeDiff, Int.reduceEq, bs_len, hl, h17, hT, hz, hfz]
    refine ⟨h4, Eq.mpr (kPre _ _ _ _ p curt (IsBs.to (.inr ⟨x, rfl⟩)) (Own.to (.inr ⟨1, true, rfl, rfl⟩)) (by omega) (by decide)) ?_⟩
    have t4 : curt.length = 4 := rfl
    have hl2 : ((4 : Nat) ≤ p.length) = True := eq_true (by omega)
    have d4 : 4 ≤ (p.drop 4).length := by rw [List.length_drop]; omega
    have d8 : 4 ≤ (p.drop 8).length := by rw [List.length_drop]; omega
    have d12 : 4 ≤ (p.drop 12).length := by rw [List.length_drop]; omega
    have tk4 : (bs (p.drop 4)).take 44 = bs (p.drop 4) := List.take_of_length_le (by rw [bs_len, List.length_drop]; omega)
    have tk8 : (bs (p.drop 8)).take 40 = bs (p.drop 8) := List.take_of_length_le (by rw [bs_len, List.length_drop]; omega)
    have tk12 : (bs (p.drop 12)).take 36 = bs (p.drop 12) := List.take_of_length_le (by rw [bs_len, List.length_drop]; omega)
    have tk16 : (bs (p.drop 16)).take 32 = bs (p.drop 16) := List.take_of_length_le (by rw [bs_len, List.length_drop]; omega)
    simp only [t4, hl2, decide_true, Bool.true_and]
    by_cases ht : p.take 4 = curt
    · have hmo : ∀ l, D.agg SM [.raw (it ((numS (p.drop 4)).toNat : Int)), .raw (it ((numS (p.drop 8)).toNat : Int)), .raw (it ((numS (p.drop 12)).toNat : Int)), .agg (.ar 32 L8) (bs l)] = manD ⟨(numS (p.drop 4)).toNat, (numS (p.drop 8)).toNat, (numS (p.drop 12)).toNat, l⟩ := fun l => rfl
      have hmf : manD ⟨(numS (p.drop 4)).toNat, (numS (p.drop 8)).toNat, (numS (p.drop 12)).toNat, p.drop 16⟩ = manD (manOf p) := rfl
      have hfm := manD_fits (manOf p)
      simp only [hq, ht, if_true, decide_true]
      simp only [↓amD, amU, Nat.reduceBEq, Nat.reduceAdd, Nat.reduceSub, Nat.reduceMul, Nat.reduceMod, Nat.reducePow, Nat.reduceLT, Nat.reduceDiv, Int.reduceToNat, BitVec.reduceToNat, zipEnv, Int.reduceLE, Int.reduceLT, Int.reduceNeg, BitVec.reduceEq, Int.reduceAdd, Int.reduceSub, Int.reduceMul, Nat.reduceLeDiff, Int.reduceEq, bs_len, hl, h18, bs_drop, tk4, tk8, tk12, tk16, kNum32 _ _ _ _ d4, kNum32 _ _ _ _ d8, kNum32 _ _ _ _ d12, List.length_drop, hmo, hmf, hfm, h15, kRight]
      cases hk : rightS (manOf p)
      · simp only [↓amD, amU, Nat.reduceBEq, Nat.reduceAdd, Nat.reduceSub, Nat.reduceMul, Nat.reduceMod, Nat.reducePow, Nat.reduceLT, Nat.reduceDiv, Int.reduceToNat, BitVec.reduceToNat, zipEnv, Int.reduceLE, Int.reduceLT, Int.reduceNeg, BitVec.reduceEq, Int.reduceAdd, Int.reduceSub, Int.reduceMul, Nat.reduceLeDiff, Int.reduceEq, hz, hfz]
        exact .val _ rfl
      · simp only [↓amD, amU, Nat.reduceBEq, Nat.reduceAdd, Nat.reduceSub, Nat.reduceMul, Nat.reduceMod, Nat.reducePow, Nat.reduceLT, Nat.reduceDiv, Int.reduceToNat, BitVec.reduceToNat, zipEnv, Int.reduceLE, Int.reduceLT, Int.reduceNeg, BitVec.reduceEq, Int.reduceAdd, Int.reduceSub, Int.reduceMul, Nat.reduceLeDiff, Int.reduceEq, hfm]
        exact .val _ rfl
    · simp only [hq, ht, if_false, decide_false]
      simp only [↓amD, amU, Nat.reduceBEq, Nat.reduceAdd, Nat.reduceSub, Nat.reduceMul, Nat.reduceMod, Nat.reducePow, Nat.reduceLT, Nat.reduceDiv, Int.reduceToNat, BitVec.reduceToNat, zipEnv, Int.reduceLE, Int.reduceLT, Int.reduceNeg, BitVec.reduceEq, Int.reduceAdd, Int.reduceSub, Int.reduceMul, Nat.reduceLeDiff, Int.reduceEq, hz, hfz]
      exact .val _ rfl
  · have hl1 : ((p.length : Int) = 48) = False := eq_false (by omega)
    have hq : parseS p = (zeroM, 2) := by simp [parseS, hl]
    rw [hq]
    simp only [↓amD, amU, Nat.reduceBEq, Nat.reduceAdd, Nat.reduceSub, Nat.reduceMul, Nat.reduceMod, Nat.reducePow, Nat.reduceLT, Nat.reduceDiv, Int.reduceToNat, BitVec.reduceToNat, zipEnv, Int.reduceLE, Int.reduceLT, Int.reduceNeg, BitVec.reduceEq, Int.reduceAdd, Int.reduceSub, Int.reduceMul, Nat.reduceLeDiff, Int.reduceEq, bs_len, hl1, hz, hfz]
    exact .val _ rfl
set_option maxHeartbeats 2000000 in
theorem refParse_ok (C : Ctx) (hC : CtxOK C P) (h15 : C.fn 8 = some fRight) (h19 : C.fn 26 = some fValue) : Meets C.glob P 14 (Fn.run fParse) := by
  refine fn_meetsN (m_ref08_Parse C hC) fun ds rows r h => ?_
  obtain ⟨d, p, rfl, rfl, hd, hp, rfl⟩ := fn1_some h
  obtain ⟨x, hx⟩ := rdBs_nrm hd
  refine ⟨rfl, _, .cons hx .nil, afun_mk rfl ?_⟩
  simp only [Nat.ble_eq] at hp
  unfold most at hp
  clear h hx hd
  unfold a_ref08_Parse r_ref08_Parse
  have hz := manD_z
  have hfz := manD_fits zeroM
  by_cases hl : p.length = 48
  · have hq : parseS p = if p.take 4 = curt then (if rightS (manOf p) then (manOf p, 0) else (zeroM, 1)) else (zeroM, 2) := by
      simp only [parseS, hl, decide_true, Bool.true_and]
      by_cases h1 : p.take 4 = curt <;> cases h2 : rightS (manOf p) <;> simp [h1]
    have d4 : ((p.drop 4).take 4).length ≤ 64 := by rw [List.length_take]; omega
    have d8 : ((p.drop 8).take 4).length ≤ 64 := by rw [List.length_take]; omega
    have d12 : ((p.drop 12).take 4).length ≤ 64 := by rw [List.length_take]; omega
    have tk16 : (bs (p.drop 16)).take 32 = bs (p.drop 16) := List.take_of_length_le (by rw [bs_len, List.length_drop]; omega)
    have hsh : ∀ l e, sshape L8 (.lst L8 (bs l) e) = true := fun l e => IsBs.sshape (.inr ⟨e, rfl⟩)
    have hst : (⟨(ub (p.take 4)).toArray⟩ : ByteArray).toList = ub (p.take 4) := by rw [ByteArray.toList_eq]
    have hst2 : (⟨#[67, 85, 82, 84]⟩ : ByteArray).toList = ub curt := by rw [ByteArray.toList_eq]; rfl
    simp only [↓amD, amU, Nat.reduceBEq, Nat.reduceAdd, Nat.reduceSub, Nat.reduceMul, Nat.reduceMod, Nat.reducePow, Nat.reduceLT, Nat.reduceDiv, Int.reduceToNat, BitVec.reduceToNat, zipEnv, Int.reduceLE, Int.reduceLT, Int.reduceNeg, BitVec.reduceEq, Int.reduceAdd, Int.reduceSub, Int.reduceMul, Nat.reduceLeDiff, Int.reduceEq, bs_len, hl, bs_take, bs_drop, hsh, byte_bs, hst, hst2, ub_beq, h19, hz, hfz]
    by_cases ht : p.take 4 = curt
    · obtain ⟨-, v1⟩ := val_q (p.drop 4) (by rw [List.length_drop]; omega)
      obtain ⟨-, v2⟩ := val_q (p.drop 8) (by rw [List.length_drop]; omega)
      obtain ⟨-, v3⟩ := val_q (p.drop 12) (by rw [List.length_drop]; omega)
      have hmo : ∀ l, D.agg SM [.raw (it ((numS (p.drop 4)).toNat : Int)), .raw (it ((numS (p.drop 8)).toNat : Int)), .raw (it ((numS (p.drop 12)).toNat : Int)), .agg (.ar 32 L8) (bs l)] = manD ⟨(numS (p.drop 4)).toNat, (numS (p.drop 8)).toNat, (numS (p.drop 12)).toNat, l⟩ := fun l => rfl
      have hmf : manD ⟨(numS (p.drop 4)).toNat, (numS (p.drop 8)).toNat, (numS (p.drop 12)).toNat, p.drop 16⟩ = manD (manOf p) := rfl
      have hfm := manD_fits (manOf p)
      simp only [hq, ht, if_true, decide_true]
      simp only [↓amD, amU, Nat.reduceBEq, Nat.reduceAdd, Nat.reduceSub, Nat.reduceMul, Nat.reduceMod, Nat.reducePow, Nat.reduceLT, Nat.reduceDiv, Int.reduceToNat, BitVec.reduceToNat, zipEnv, Int.reduceLE, Int.reduceLT, Int.reduceNeg, BitVec.reduceEq, Int.reduceAdd, Int.reduceSub, Int.reduceMul, Nat.reduceLeDiff, Int.reduceEq, bs_len, hl, h19, bs_drop, bs_take, tk16, kVal _ _ _ _ d4, kVal _ _ _ _ d8, kVal _ _ _ _ d12, List.length_drop, v1, v2, v3, hmo, hmf, hfm, h15, kRight]
      cases hk : rightS (manOf p)
      · simp only [↓amD, amU, Nat.reduceBEq, Nat.reduceAdd, Nat.reduceSub, Nat.reduceMul, Nat.reduceMod, Nat.reducePow, Nat.reduceLT, Nat.reduceDiv, Int.reduceToNat, BitVec.reduceToNat, zipEnv, Int.reduceLE, Int.reduceLT, Int.reduceNeg, BitVec.reduceEq, Int.reduceAdd, Int.reduceSub, Int.reduceMul, Nat.reduceLeDiff, Int.reduceEq, hz, hfz]
        exact .val _ rfl
      · simp only [↓amD, amU, Nat.reduceBEq, Nat.reduceAdd, Nat.reduceSub, Nat.reduceMul, Nat.reduceMod, Nat.reducePow, Nat.reduceLT, Nat.reduceDiv, Int.reduceToNat, BitVec.reduceToNat, zipEnv, Int.reduceLE, Int.reduceLT, Int.reduceNeg, BitVec.reduceEq, Int.reduceAdd, Int.reduceSub, Int.reduceMul, Nat.reduceLeDiff, Int.reduceEq, hfm]
        exact .val _ rfl
    · simp only [hq, ht, if_false, decide_false]
      simp only [↓amD, amU, Nat.reduceBEq, Nat.reduceAdd, Nat.reduceSub, Nat.reduceMul, Nat.reduceMod, Nat.reducePow, Nat.reduceLT, Nat.reduceDiv, Int.reduceToNat, BitVec.reduceToNat, zipEnv, Int.reduceLE, Int.reduceLT, Int.reduceNeg, BitVec.reduceEq, Int.reduceAdd, Int.reduceSub, Int.reduceMul, Nat.reduceLeDiff, Int.reduceEq, hz, hfz]
      exact .val _ rfl
  · have hl1 : ((p.length : Int) = 48) = False := eq_false (by omega)
    have hq : parseS p = (zeroM, 2) := by simp [parseS, hl]
    rw [hq]
    simp only [↓amD, amU, Nat.reduceBEq, Nat.reduceAdd, Nat.reduceSub, Nat.reduceMul, Nat.reduceMod, Nat.reducePow, Nat.reduceLT, Nat.reduceDiv, Int.reduceToNat, BitVec.reduceToNat, zipEnv, Int.reduceLE, Int.reduceLT, Int.reduceNeg, BitVec.reduceEq, Int.reduceAdd, Int.reduceSub, Int.reduceMul, Nat.reduceLeDiff, Int.reduceEq, bs_len, hl1, hz, hfz]
    exact .val _ rfl
theorem kParse (rows : Rows) (k : D → Rows → Prop) (d : D) (p : List (BitVec 8)) (h : BsIn rows d p) (hp : p.length ≤ 1099511627776) : kCall fParse rows k [d] = k (.tup [manD (parseS p).1, .raw (it (parseS p).2)]) rows := by
  refine (kCall_bs1 h (by simpa [most] using hp) ?_).trans ?_
  · simp [manD, noLst, noLstL, noLstRows, Sh.pure]
  · simp [shift, shiftL, manD_shift, shiftRows]
end Job
end Go.Am
namespace Go.Am
set_option linter.unusedSimpArgs false
set_option linter.unusedVariables false
attribute [local congr] bnd_congr kCond_congr kGd_congr kPick_congr kCall_congr kIdx_congr kSlice_congr kLoop_congr cond_congr' aBin_congr aBounds_congr aApp_congr aCopy_congr kFn_congr
namespace Job
open Go.Am.F
set_option maxRecDepth 10000
def ofS (v e : Int) (p : List (BitVec 8)) : Man := ⟨v, p.length, e, sumS p⟩
noncomputable def fOf : Fn := fn3 rdI rdI rdBs (fun _ _ p => Nat.ble p.length 1099511627000) fun v e p => (manD (ofS v e p), [])
theorem of_ok (C : Ctx) (hC : CtxOK C P) (hs : C.fn 27 = some fSum) : Meets C.glob P 16 (Fn.run fOf) := by
  refine fn_meetsN (m_manifest_Of C hC) fun ds rows r h => ?_
  obtain ⟨d, e, f, v, en, p, rfl, rfl, hd, he, hf, hp, rfl⟩ := fn3_some h
  cases rdI_some hd
  cases rdI_some he
  obtain ⟨x, hx⟩ := rdBs_nrm hf
  refine ⟨rfl, _, .cons (.refl _) (.cons (.refl _) (.cons hx .nil)), afun_mk rfl ?_⟩
  simp only [Nat.ble_eq] at hp
  clear h hd he hf hx
  unfold a_manifest_Of r_manifest_Of
  have ks := fun k => kSum [some ⟨SM, [manD zeroM]⟩, some ⟨.ref, [.lst L8 (bs p) x]⟩] k 1 1 true [.lst L8 (bs p) x] [p] rfl rfl (.cons (IsBs.to (.inr ⟨x, rfl⟩)) .nil) (by simp) (by simp; omega)
  simp only [List.flatten_cons, List.flatten_nil, List.append_nil] at ks
  have hz := manD_z
  have hfz := manD_fits zeroM
  have hmo := manD_mk
  have hfm := manD_fits (ofS v en p)
  have hmf : manD ⟨v, p.length, en, sumS p⟩ = manD (ofS v en p) := rfl
  simp only [-List.reduceReplicate, manD_z]
  simp only [↓amD, amU, Nat.reduceBEq, Nat.reduceAdd, Nat.reduceSub, Nat.reduceMul, Nat.reduceMod, Nat.reducePow, Nat.reduceLT, Nat.reduceDiv, Int.reduceToNat, BitVec.reduceToNat, zipEnv, Int.reduceLE, Int.reduceLT, Int.reduceNeg, BitVec.reduceEq, Int.reduceAdd, Int.reduceSub, Int.reduceMul, Nat.reduceLeDiff, Int.reduceEq, bs_len, hz, hfz, hs, ks, hmo, hmf, hfm]
  exact .val _ (manD_ref _)
theorem kOf (rows : Rows) (k : D → Rows → Prop) (v e : Int) (d : D) (p : List (BitVec 8)) (h : BsIn rows d p) (hp : p.length ≤ 1099511627000) : kCall fOf rows k [.raw (it v), .raw (it e), d] = k (manD (ofS v e p)) rows := by
  refine (kCall_rd3 (.int v) (.int e) (.bs h) (by simpa using hp) ?_ k).trans ?_
  · simp [manD, noLst, noLstL, noLstRows, Sh.pure]
  · simp [manD_shift, shiftRows]
theorem num_back (n : Nat) (h : n < 4294967296) (l : List (BitVec 8)) : (numS (numI n ++ l)).toNat = n := by
  have e : numS (numI n ++ l) = numS [BitVec.ofNat 8 (n / 16777216), BitVec.ofNat 8 (n / 65536), BitVec.ofNat 8 (n / 256), BitVec.ofNat 8 n] := rfl
  rw [e, num4_nat]
  simp only [BitVec.toNat_ofNat]
  omega
theorem parse_body (m : Man) (hl : m.dg.length = 32) (hk : rightS m = true) : parseS (bodyL m) = (m, 0) := by
  obtain ⟨v, s, e, hv, hs, he, b1, b2, b3, b4, -, -⟩ := right_nat hk
  have d4 : (bodyL m).drop 4 = numI m.v.toNat ++ (numI m.s.toNat ++ (numI m.e.toNat ++ m.dg)) := by
    simp only [bodyL, List.append_assoc]; rfl
  have d8 : (bodyL m).drop 8 = numI m.s.toNat ++ (numI m.e.toNat ++ m.dg) := by
    simp only [bodyL, List.append_assoc]; rfl
  have d12 : (bodyL m).drop 12 = numI m.e.toNat ++ m.dg := by
    simp only [bodyL, List.append_assoc]; rfl
  have d16 : (bodyL m).drop 16 = m.dg := by
    simp only [bodyL, List.append_assoc]; rfl
  have t4 : (bodyL m).take 4 = curt := by
    simp only [bodyL, List.append_assoc]; rfl
  have hm : manOf (bodyL m) = m := by
    obtain ⟨v', s', e', dg⟩ := m
    simp only at hv hs he
    subst hv hs he
    simp only [manOf, d4, d8, d12, d16, Int.toNat_natCast]
    rw [num_back v (by omega), num_back s (by omega), num_back e (by omega)]
  simp only [parseS, body_len m hl, t4, hm, hk, decide_true, Bool.and_self, cond_true]
theorem eqA_man (m : Man) : eqA SM (manD m) (manD m) = some true := by
  simp [manD, eqA, eqL, eqD, eqLeaf, it, eqL_bs]
theorem parse_dg (p : List (BitVec 8)) : (parseS p).1.dg.length = 32 := by
  unfold parseS
  cases h1 : decide (p.length = 48) <;> cases h2 : decide (p.take 4 = curt) <;> simp only [Bool.and_self, Bool.and_true, Bool.and_false, Bool.false_and, cond_false, cond_true] <;> try rfl
  cases rightS (manOf p) <;> simp only [cond_false, cond_true]
  · rfl
  · have := of_decide_eq_true h1
    simp only [manOf, List.length_drop]; omega
def fAwakeM : Fn
  | [], [] => some (.raw (.bool true), [])
  | _, _ => none
theorem awakeM_ok (C : Ctx) (hC : CtxOK C P) (h16 : C.fn 16 = some fOf) (h7 : C.fn 7 = some fBodyM) (h13 : C.fn 13 = some fParse) (h21 : C.fn 21 = some fHex) : Meets C.glob P 5 (Fn.run fAwakeM) := by
  refine fn_meets (m_law08_awake C hC) fun ds rows r h => ?_
  unfold fAwakeM at h
  split at h
  · cases h
    refine ⟨rfl, afun_mk rfl ?_⟩
    unfold a_law08_awake r_law08_awake
    have ko := fun k => kOf [some ⟨L8, [D.raw (u8 0#8), D.raw (u8 0#8), D.raw (u8 0#8), D.raw (u8 0#8), D.raw (u8 0#8), D.raw (u8 0#8), D.raw (u8 0#8), D.raw (u8 0#8)]⟩] k 3 4 (.sl L8 0 [] 0 8 true) (List.replicate 8 0#8) (BsIn.own rfl 8 rfl) (by decide)
    generalize hm : ofS 3 4 (List.replicate 8 0#8) = m at ko
    have hml : m.dg.length = 32 := by rw [← hm]; exact sumS_len _
    have hmk : rightS m = true := by rw [← hm]; rfl
    have hp0 := parse_body m hml hmk
    have hb8 : (bodyL m).take 8 = curt ++ numI 3 := by rw [← hm]; rfl
    have hz := manD_z
    have hfz := manD_fits zeroM
    have hfm := manD_fits m
    have hr8 : List.replicate 8 (D.raw (u8 0#8)) = bs (List.replicate 8 0#8) := bs_rep _ _
    have kb := fun rows k => kBodyM rows k m hml hmk
    simp only [-List.reduceReplicate, manD_z]
    generalize hm0 : manD zeroM = z0 at hfz ⊢
    simp only [↓amD, amU, Nat.reduceBEq, Nat.reduceAdd, Nat.reduceSub, Nat.reduceMul, Nat.reduceMod, Nat.reducePow, Nat.reduceLT, Nat.reduceDiv, Int.reduceToNat, BitVec.reduceToNat, zipEnv, Int.reduceLE, Int.reduceLT, Int.reduceNeg, BitVec.reduceEq, Int.reduceAdd, Int.reduceSub, Int.reduceMul, Nat.reduceLeDiff, Int.reduceEq, hr8, h16, ko, h7, kb, hz, hfz, hfm, h13]
    refine Eq.mpr (kParse _ _ _ (bodyL m) (BsIn.own rfl 48 (body_len m hml).symm) (by rw [body_len m hml]; decide)) ?_
    have hE := eqA_man m
    simp only [hp0]
    simp only [↓amD, amU, Nat.reduceBEq, Nat.reduceAdd, Nat.reduceSub, Nat.reduceMul, Nat.reduceMod, Nat.reducePow, Nat.reduceLT, Nat.reduceDiv, Int.reduceToNat, BitVec.reduceToNat, zipEnv, Int.reduceLE, Int.reduceLT, Int.reduceNeg, BitVec.reduceEq, Int.reduceAdd, Int.reduceSub, Int.reduceMul, Nat.reduceLeDiff, Int.reduceEq, hz, hfz, hfm, hE, h21]
    refine Eq.mpr (kHex _ _ _ (curt ++ numI 3) ?_ (by decide)) ?_
    · rw [← hb8]
      exact BsIn.sub (off := 0) (len := 8) (l := bodyL m) rfl (by rw [body_len m hml]; decide)
    · have hx : hexB (curt ++ numI 3) = ⟨#[52, 51, 53, 53, 53, 50, 53, 52, 48, 48, 48, 48, 48, 48, 48, 51]⟩ := by kernel_rfl
      simp only [↓amD, amU, Nat.reduceBEq, Nat.reduceAdd, Nat.reduceSub, Nat.reduceMul, Nat.reduceMod, Nat.reducePow, Nat.reduceLT, Nat.reduceDiv, Int.reduceToNat, BitVec.reduceToNat, zipEnv, Int.reduceLE, Int.reduceLT, Int.reduceNeg, BitVec.reduceEq, Int.reduceAdd, Int.reduceSub, Int.reduceMul, Nat.reduceLeDiff, Int.reduceEq, hx, beq_self_eq_true]
      exact .val _ rfl
  · cases h
theorem kAwakeM (rows : Rows) (k : D → Rows → Prop) : kCall fAwakeM rows k [] = k (.raw (.bool true)) rows := by
  refine (kCall_val rfl (r := (.raw (.bool true), [])) rfl).trans ?_
  simp [shift, shiftRows]
end Job
end Go.Am
