/- AES: the example; the keys of the laws -/
import Derived.Test.YtloclegkilgglaaAes5
namespace Go.Am
set_option linter.unusedSimpArgs false
set_option linter.unusedVariables false
attribute [local congr] bnd_congr kCond_congr kGd_congr kPick_congr kCall_congr kIdx_congr kSlice_congr kLoop_congr cond_congr' aBin_congr aBounds_congr aApp_congr aCopy_congr kFn_congr
namespace Job
open Go.Am.F
set_option maxRecDepth 10000
theorem eqL_dec : ∀ (a b : List (BitVec 8)), a.length = b.length → eqL (bs a) (bs b) = some (decide (a = b))
  | [], [], _ => rfl
  | x :: a, y :: b, h => by
    have e : eqD (.raw (u8 x)) (.raw (u8 y)) = some (decide (x = y)) := by
      simp only [eqD, eqLeaf, u8, if_true]
      congr 1
      rw [decide_eq_decide]
      exact ⟨fun h => BitVec.eq_of_toNat_eq (by omega), fun h => by rw [h]⟩
    show eqL (.raw (u8 x) :: bs a) (.raw (u8 y) :: bs b) = _
    rw [eL_c, e, eqL_dec a b (by simpa using h)]
    simp
  | [], _ :: _, h => by simp at h
  | _ :: _, [], h => by simp at h
theorem eq16 (a b : List (BitVec 8)) (ha : a.length = 16) (hb : b.length = 16) : eqA (.ar 16 L8) (b16D a) (b16D b) = some (decide (a = b)) := by
  rw [b16D, b16D, ea_agg, eqL_dec a b (by omega)]
theorem encS_len (w t b : List _) (n : Nat) (hb : b.length = 16) : (encS (keyR w) t n b).length = 16 := add_len _ _ (keyR_len _ _) (mov_len _ _ _)
theorem decS_len (w u b : List _) (n : Nat) (hb : b.length = 16) : (decS (keyR w) u n b).length = 16 := decR_len _ _ (keyR_len _) _ _ (mov_len _ _ _)
theorem dec_enc_K (w : List (BitVec 32)) (n : Nat) (b : List (BitVec 8)) (hb : b.length = 16) : decS (keyR w) backL n (encS (keyR w) boxL n b) = b := decS_encS _ _ _ (keyR_len _) back_box n b hb
theorem enc_dec_K (w : List (BitVec 32)) (n : Nat) (b : List (BitVec 8)) (hb : b.length = 16) : encS (keyR w) boxL n (decS (keyR w) backL n b) = b := encS_decS _ _ _ (keyR_len _) box_back n b hb
/-- a key's functions, to be called or run -/
structure AesC (C : Ctx) : Prop where
  n9 : C.fn 9 = none
  r9 : C.fnr 9 = some (afun C0 1 r_aes_New a_aes_New)
  enc : C.fn 12 = some fEnc
  dec : C.fn 11 = some fDec
  box : C.fn 15 = some fBox
  hex : C.fn 27 = some fHex
  cut : C.fn 24 = some fCut
def exK : List (BitVec 8) := pf 16 (BitVec.ofNat 8) 16
def exB : List (BitVec 8) := pf 16 (fun i => BitVec.ofNat 8 (17 * i)) 16
theorem exK_len : exK.length = 16 := pf_len _ _ _
theorem exB_len : exB.length = 16 := pf_len _ _ _
theorem box_0 : box8 0#8 = 99#8 := by rw [← box_tab]; decide +kernel
def fAwakeA : Fn
  | [], [] => some (.raw (.bool true), [])
  | _, _ => none
theorem kAwakeA (rows : Rows) (k : D → Rows → Prop) : kCall fAwakeA rows k [] = k (.raw (.bool true)) rows := by
  refine (kCall_val rfl (r := (.raw (.bool true), [])) rfl).trans ?_
  simp [shift, shiftRows]
theorem kA_set (d : D) (d' : D) : (kA d).set [] d' = some d' := rfl
theorem ex_hex : hexB (encS (keyR (sched exK)) boxL ((sched exK).length / 4 - 1) exB) = ⟨#[54, 57, 99, 52, 101, 48, 100, 56, 54, 97, 55, 98, 48, 52, 51, 48, 100, 56, 99, 100, 98, 55, 56, 48, 55, 48, 98, 52, 99, 53, 53, 97]⟩ := by
  kernel_rfl
theorem awakeA_ok (C : Ctx) (hC : CtxOK C P) (h : AesC C) : Meets C.glob P 8 (Fn.run fAwakeA) := by
  refine fn_meets (m_law03_awake C hC) fun ds rows r hh => ?_
  unfold fAwakeA at hh
  split at hh
  · cases hh
    refine ⟨rfl, afun_mk rfl ?_⟩
    unfold a_law03_awake r_law03_awake
    simp only [rep_z, rep_z16]
    simp only [↓amD, amU, Nat.reduceBEq, Nat.reduceAdd, Nat.reduceSub, Nat.reduceMul, Nat.reduceMod, Nat.reducePow, Nat.reduceLT, Nat.reduceDiv, Int.reduceToNat, BitVec.reduceToNat, zipEnv, Int.reduceLE, Int.reduceLT, Int.reduceNeg, BitVec.reduceEq, Int.reduceAdd, Int.reduceSub, Int.reduceMul, Nat.reduceLeDiff, Int.reduceEq]
    refine kLoop_up 16 (fun i env rows => has env [(10, .raw (it (i : Int))), (9, .raw (it 16)), (1, .sl L8 0 [] 0 16 true), (2, .ptr (.ar 16 L8) 1 [0])] ∧
      rows = [some ⟨L8, bs (pf 16 (BitVec.ofNat 8) i)⟩, some ⟨.ar 16 L8, [.agg (.ar 16 L8) (bs (pf 16 (fun i => BitVec.ofNat 8 (17 * i)) i))]⟩]) ?_ ?_ ⟨?_, ?_⟩
    · rintro i hi env rows ⟨hh, rfl⟩ R hR
      simp only [has] at hh
      obtain ⟨h10, h9, h1, h2, -⟩ := hh
      have e0 : ((i : Int) < 16) = True := eq_true (by omega)
      have e1 : ((0 : Int) ≤ (i : Int)) = True := eq_true (by omega)
      have e2 := wz_succ i (by omega)
      have e3 : wz (17 * (i : Int)) = ((17 * i : Nat) : Int) := by rw [wz_id (by omega)]; omega
      have e4 : BitVec.ofInt 8 (i : Int) = BitVec.ofNat 8 i := by simp
      have e5 : BitVec.ofInt 8 ((17 * i : Nat) : Int) = BitVec.ofNat 8 (17 * i) := BitVec.ofInt_natCast ..
      have g1 : (bs (pf 16 (BitVec.ofNat 8) i))[i]? = some (.raw (u8 ((pf 16 (BitVec.ofNat 8) i).getD i 0#8))) := bs_get (by rw [pf_len]; omega)
      have g2 : (bs (pf 16 (fun i => BitVec.ofNat 8 (17 * i)) i))[i]? = some (.raw (u8 ((pf 16 (fun i => BitVec.ofNat 8 (17 * i)) i).getD i 0#8))) := bs_get (by rw [pf_len]; omega)
      have s1 := pf_set (f := fun i => BitVec.ofNat 8 (17 * i)) hi
      simp only [↓amD, amU, Nat.reduceBEq, Nat.reduceAdd, Nat.reduceSub, Nat.reduceMul, Nat.reduceMod, Nat.reducePow, Nat.reduceLT, Nat.reduceDiv, Int.reduceToNat, BitVec.reduceToNat, zipEnv, Int.reduceLE, Int.reduceLT, Int.reduceNeg, BitVec.reduceEq, Int.reduceAdd, Int.reduceSub, Int.reduceMul, Nat.reduceLeDiff, Int.reduceEq, h10, h9, h1, h2, e0, e1, e2, e3, e4, e5, g1, g2, bs_set, pf_set (f := BitVec.ofNat 8) hi, s1, decide_true]
      exact hR _ _ ⟨by simp only [has, ↓amD, amU, Nat.reduceBEq, Nat.reduceAdd, Nat.reduceSub, Nat.reduceMul, Nat.reduceMod, Nat.reducePow, Nat.reduceLT, Nat.reduceDiv, Int.reduceToNat, BitVec.reduceToNat, zipEnv, Int.reduceLE, Int.reduceLT, Int.reduceNeg, BitVec.reduceEq, Int.reduceAdd, Int.reduceSub, Int.reduceMul, Nat.reduceLeDiff, Int.reduceEq, h9, h1, h2], rfl⟩
    · rintro env rows ⟨hh, rfl⟩ R
      simp only [has] at hh
      obtain ⟨h10, h9, h1, h2, -⟩ := hh
      simp only [↓amD, amU, Nat.reduceBEq, Nat.reduceAdd, Nat.reduceSub, Nat.reduceMul, Nat.reduceMod, Nat.reducePow, Nat.reduceLT, Nat.reduceDiv, Int.reduceToNat, BitVec.reduceToNat, zipEnv, Int.reduceLE, Int.reduceLT, Int.reduceNeg, BitVec.reduceEq, Int.reduceAdd, Int.reduceSub, Int.reduceMul, Nat.reduceLeDiff, Int.reduceEq, h10, h9, h1, h2, h.box, kBox, box_0, h.n9, h.r9]
      refine new_run (kb := exK) rfl (.inl exK_len) fun d rows' hK => ?_
      have l1 := hK.frame 1 _ rfl
      have l1 : live rows' 1 = some ⟨.ar 16 L8, [b16D exB]⟩ := l1
      have hw : (sched exK).length = 44 := by rw [sched_len, exK_len]
      have ke := fun more k => kEnc (rows := rows' ++ more) hK.own.push (by omega) (by omega) k exB exB_len
      have hel := encS_len (sched exK) boxL exB ((sched exK).length / 4 - 1) exB_len
      have kd := fun more k => kDec (rows := rows' ++ more) hK.own.push (by omega) (by omega) k _ hel
      have kh : ∀ k, kCall fHex (rows' ++ [some ⟨S1, [kA d]⟩, some ⟨.ar 16 L8, [b16D (encS (keyR (sched exK)) boxL ((sched exK).length / 4 - 1) exB)]⟩]) k [.sl L8 (rows'.length + 1) [0] 0 16 true] = k (.raw (.string ⟨#[54, 57, 99, 52, 101, 48, 100, 56, 54, 97, 55, 98, 48, 52, 51, 48, 100, 56, 99, 100, 98, 55, 56, 48, 55, 48, 98, 52, 99, 53, 53, 97]⟩)) (rows' ++ [some ⟨S1, [kA d]⟩, some ⟨.ar 16 L8, [b16D (encS (keyR (sched exK)) boxL ((sched exK).length / 4 - 1) exB)]⟩]) := by
        intro k
        rw [kHex _ _ _ _ (BsIn.arr (l := encS (keyR (sched exK)) boxL ((sched exK).length / 4 - 1) exB) (by rw [lv_appk]; rfl) (by omega)) (by rw [List.length_take]; omega), List.drop_zero, List.take_of_length_le (by omega), ex_hex]
      simp only [↓amD, amU, Nat.reduceBEq, Nat.reduceAdd, Nat.reduceSub, Nat.reduceMul, Nat.reduceMod, Nat.reducePow, Nat.reduceLT, Nat.reduceDiv, Int.reduceToNat, BitVec.reduceToNat, zipEnv, Int.reduceLE, Int.reduceLT, Int.reduceNeg, BitVec.reduceEq, Int.reduceAdd, Int.reduceSub, Int.reduceMul, Nat.reduceLeDiff, Int.reduceEq, lv_app0, lv_appk, set_app0, set_appk, List.append_assoc, List.append_nil, Nat.add_assoc, h2, live_app l1, kA_fits, b16_fits, h.enc, ke, h.hex, kh, h.dec, kd, dec_enc_K _ _ _ exB_len, eq16 _ _ exB_len exB_len, beq_self_eq_true, decide_true]
      exact .val _ rfl
    · simp only [has, ↓amD, amU, Nat.reduceBEq, Nat.reduceAdd, Nat.reduceSub, Nat.reduceMul, Nat.reduceMod, Nat.reducePow, Nat.reduceLT, Nat.reduceDiv, Int.reduceToNat, BitVec.reduceToNat, zipEnv, Int.reduceLE, Int.reduceLT, Int.reduceNeg, BitVec.reduceEq, Int.reduceAdd, Int.reduceSub, Int.reduceMul, Nat.reduceLeDiff, Int.reduceEq]
    · rw [pf_0, pf_0]; rfl
  · cases hh
end Job
end Go.Am
