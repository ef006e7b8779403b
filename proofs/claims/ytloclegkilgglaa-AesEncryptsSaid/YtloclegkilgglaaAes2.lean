/- AES: the tables, and a block's steps -/
import Derived.Test.YtloclegkilgglaaAes1
namespace Go.Am
set_option linter.unusedSimpArgs false
set_option linter.unusedVariables false
attribute [local congr] bnd_congr kCond_congr kGd_congr kPick_congr kCall_congr kIdx_congr kSlice_congr kLoop_congr cond_congr' aBin_congr aBounds_congr aApp_congr aCopy_congr kFn_congr
namespace Job
open Go.Am.F
set_option maxRecDepth 10000
def t256 (l : List (BitVec 8)) : D := .agg (.ar 256 L8) (bs l)
def b16D (l : List (BitVec 8)) : D := .agg (.ar 16 L8) (bs l)
def f4D (l : List (BitVec 8)) : D := .agg (.ar 4 L8) (bs l)
theorem t256_inj (x y : List (BitVec 8)) (h : t256 x = t256 y) : x = y := by unfold t256 at h; injection h with _ h; exact bs_inj h
theorem b16D_inj (x y : List (BitVec 8)) (h : b16D x = b16D y) : x = y := by unfold b16D at h; injection h with _ h; exact bs_inj h
theorem f4D_inj (x y : List (BitVec 8)) (h : f4D x = f4D y) : x = y := by unfold f4D at h; injection h with _ h; exact bs_inj h
def z256 : List (BitVec 8) := List.replicate 256 0#8
theorem rep_z : List.replicate 256 (D.raw (u8 0#8)) = bs z256 := bs_rep 256 0#8
theorem z256_len : z256.length = 256 := List.length_replicate
theorem box_len : boxL.length = 256 := by decide +kernel
theorem back_len : backL.length = 256 := by decide +kernel
/-- the tables, as they are made -/
def qN (q : BitVec 8) : BitVec 8 :=
  let a := q ^^^ q <<< 1
  let b := a ^^^ a <<< 2
  let c := b ^^^ b <<< 4
  c ^^^ c >>> 7 * 9#8
structure Bst where
  p : BitVec 8
  q : BitVec 8
  l : List (BitVec 8)
def bstN : Nat → Bst
  | 0 => ⟨1#8, 1#8, z256⟩
  | n + 1 => ⟨(bstN n).p ^^^ xt (bstN n).p, qN (bstN n).q, (bstN n).l.set ((bstN n).p ^^^ xt (bstN n).p).toNat (affN (qN (bstN n).q) 5)⟩
def stepB (s : Bst) : Bst := ⟨s.p ^^^ xt s.p, qN s.q, s.l.set (s.p ^^^ xt s.p).toNat (affN (qN s.q) 5)⟩
def itB : Nat → Bst → Bst
  | 0, s => s
  | n + 1, s => itB n (stepB s)
theorem itB_succ : ∀ (n : Nat) (s : Bst), itB (n + 1) s = stepB (itB n s)
  | 0, _ => rfl
  | n + 1, s => by rw [itB, itB_succ n]; rfl
theorem bst_it (n : Nat) : bstN n = itB n ⟨1#8, 1#8, z256⟩ := by
  induction n with
  | zero => rfl
  | succ n ih => rw [itB_succ, ← ih]; rfl
theorem bst_len : ∀ n, (bstN n).l.length = 256
  | 0 => z256_len
  | n + 1 => by rw [bstN]; simp only [List.length_set]; exact bst_len n
theorem bst_end : (bstN 255).l.set 0 99#8 = boxL := by
  rw [bst_it]; decide +kernel
def bkN (l : List (BitVec 8)) : Nat → List (BitVec 8)
  | 0 => z256
  | n + 1 => (bkN l n).set (l.getD n 0#8).toNat (BitVec.ofNat 8 n)
theorem bk_len (l : List (BitVec 8)) : ∀ n, (bkN l n).length = 256
  | 0 => z256_len
  | n + 1 => by rw [bkN, List.length_set]; exact bk_len l n
theorem bk_end : bkN boxL 256 = backL := by decide +kernel
theorem t256_set (l : List (BitVec 8)) (i : Nat) (x : BitVec 8) (h : i < l.length) : (t256 l).set [i] (.raw (u8 x)) = some (t256 (l.set i x)) := by
  have : (bs l)[i]? = some (.raw (u8 (l.getD i 0#8))) := bs_get h
  simp only [t256, D.set, this, bs_set]
theorem u8_lt (x : BitVec 8) : ((x.toNat : Int) < 256) = True := eq_true (by have := x.isLt; omega)
theorem u8_ge (x : BitVec 8) : ((0 : Int) ≤ (x.toNat : Int)) = True := eq_true (by omega)
theorem set_set' {α : Type} (l : List α) (i : Nat) (a b : α) : (l.set i a).set i b = l.set i b := List.set_set ..
def fBoxes : Fn
  | [], [] => some (.tup [t256 boxL, t256 backL], [])
  | _, _ => none
theorem boxes_ok (C : Ctx) (hC : CtxOK C P) (ht : C.fn 31 = some fTwice) (hr : C.fn 36 = some fRot8) : Meets C.glob P 28 (Fn.run fBoxes) := by
  refine fn_meets (m_aes_boxes C hC) fun ds rows r h => ?_
  unfold fBoxes at h
  split at h
  · cases h
    refine ⟨rfl, afun_mk rfl ?_⟩
    unfold a_aes_boxes r_aes_boxes
    simp only [rep_z]
    simp only [↓amD, amU, Nat.reduceBEq, Nat.reduceAdd, Nat.reduceSub, Nat.reduceMul, Nat.reduceMod, Nat.reducePow, Nat.reduceLT, Nat.reduceDiv, Int.reduceToNat, BitVec.reduceToNat, zipEnv, Int.reduceLE, Int.reduceLT, Int.reduceNeg, BitVec.reduceEq, Int.reduceAdd, Int.reduceSub, Int.reduceMul, Nat.reduceLeDiff, Int.reduceEq]
    refine kLoop_up 255 (fun i env rows => has env [(9, .raw (it (i : Int))), (0, .ptr (.ar 256 L8) 0 [0]), (1, .ptr (.ar 256 L8) 1 [0]), (2, .ptr (.ar 256 L8) 2 [0]), (3, .ptr (.ar 256 L8) 3 [0]), (4, .raw (u8 (bstN i).p)), (5, .raw (u8 (bstN i).q))] ∧
      ∃ z0 z1, rows = [some ⟨.ar 256 L8, [z0]⟩, some ⟨.ar 256 L8, [z1]⟩, some ⟨.ar 256 L8, [.agg (.ar 256 L8) (bs (bstN i).l)]⟩, some ⟨.ar 256 L8, [.agg (.ar 256 L8) (bs (z256))]⟩]) ?_ ?_ ⟨?_, .agg (.ar 256 L8) (bs (z256)), .agg (.ar 256 L8) (bs (z256)), ?_⟩
    · rintro i hi env rows ⟨hh, z0, z1, rfl⟩ R hR
      simp only [has] at hh
      obtain ⟨h9, h0, h1, h2, h3, h4, h5, -⟩ := hh
      have e0 : ((i : Int) < 255) = True := eq_true (by omega)
      have e11 := wz_succ i (by omega)
      have hl := bst_len i
      have hp := ((bstN i).p ^^^ xt (bstN i).p).isLt
      have g1 : (bs (bstN i).l)[((bstN i).p ^^^ xt (bstN i).p).toNat]? = some (.raw (u8 ((bstN i).l.getD ((bstN i).p ^^^ xt (bstN i).p).toNat 0#8))) := bs_get (by omega)
      simp only [↓amD, amU, Nat.reduceBEq, Nat.reduceAdd, Nat.reduceSub, Nat.reduceMul, Nat.reduceMod, Nat.reducePow, Nat.reduceLT, Nat.reduceDiv, Int.reduceToNat, BitVec.reduceToNat, zipEnv, Int.reduceLE, Int.reduceLT, Int.reduceNeg, BitVec.reduceEq, Int.reduceAdd, Int.reduceSub, Int.reduceMul, Nat.reduceLeDiff, Int.reduceEq, h9, h0, h1, h2, h3, h4, h5, ht, kTwice, e0, e11, u8_lt, u8_ge, g1, bs_set, decide_true]
      refine kLoop_up 5 (fun j env rows => has env [(34, .raw (it (j : Int))), (9, .raw (it (i : Int))), (0, .ptr (.ar 256 L8) 0 [0]), (1, .ptr (.ar 256 L8) 1 [0]), (2, .ptr (.ar 256 L8) 2 [0]), (3, .ptr (.ar 256 L8) 3 [0]), (4, .raw (u8 (bstN (i + 1)).p)), (5, .raw (u8 (bstN (i + 1)).q))] ∧
        rows = [some ⟨.ar 256 L8, [z0]⟩, some ⟨.ar 256 L8, [z1]⟩, some ⟨.ar 256 L8, [.agg (.ar 256 L8) (bs ((bstN i).l.set (bstN (i + 1)).p.toNat (affN (bstN (i + 1)).q j)))]⟩, some ⟨.ar 256 L8, [.agg (.ar 256 L8) (bs (z256))]⟩]) ?_ ?_ ⟨?_, rfl⟩
      · rintro j hj env rows ⟨hh, rfl⟩ R hR
        simp only [has] at hh
        obtain ⟨h34, h9, h0, h1, h2, h3, h4, h5, -⟩ := hh
        have e0 : ((j : Int) < 5) = True := eq_true (by omega)
        have e12 := wz_succ j (by omega)
        have kr := fun rows k x => kRot8 rows k x j (by omega)
        have hp := (bstN (i + 1)).p.isLt
        have g1 : (bs ((bstN i).l.set (bstN (i + 1)).p.toNat (affN (bstN (i + 1)).q j)))[(bstN (i + 1)).p.toNat]? = some (.raw (u8 (affN (bstN (i + 1)).q j))) := by
          rw [bs_get (by rw [List.length_set]; omega)]
          have hq : (bstN (i + 1)).p.toNat < (bstN i).l.length := by omega
          simp [List.getD, hq]
        simp only [↓amD, amU, Nat.reduceBEq, Nat.reduceAdd, Nat.reduceSub, Nat.reduceMul, Nat.reduceMod, Nat.reducePow, Nat.reduceLT, Nat.reduceDiv, Int.reduceToNat, BitVec.reduceToNat, zipEnv, Int.reduceLE, Int.reduceLT, Int.reduceNeg, BitVec.reduceEq, Int.reduceAdd, Int.reduceSub, Int.reduceMul, Nat.reduceLeDiff, Int.reduceEq, h34, h9, h0, h1, h2, h3, h4, h5, hr, kr, e0, e12, u8_lt, u8_ge, g1, bs_set, set_set', decide_true]
        exact hR _ _ ⟨by simp only [has, ↓amD, amU, Nat.reduceBEq, Nat.reduceAdd, Nat.reduceSub, Nat.reduceMul, Nat.reduceMod, Nat.reducePow, Nat.reduceLT, Nat.reduceDiv, Int.reduceToNat, BitVec.reduceToNat, zipEnv, Int.reduceLE, Int.reduceLT, Int.reduceNeg, BitVec.reduceEq, Int.reduceAdd, Int.reduceSub, Int.reduceMul, Nat.reduceLeDiff, Int.reduceEq, h9, h0, h1, h2, h3, h4, h5], rfl⟩
      · rintro env rows ⟨hh, rfl⟩ R
        simp only [has] at hh
        obtain ⟨h34, h9, h0, h1, h2, h3, h4, h5, -⟩ := hh
        simp only [↓amD, amU, Nat.reduceBEq, Nat.reduceAdd, Nat.reduceSub, Nat.reduceMul, Nat.reduceMod, Nat.reducePow, Nat.reduceLT, Nat.reduceDiv, Int.reduceToNat, BitVec.reduceToNat, zipEnv, Int.reduceLE, Int.reduceLT, Int.reduceNeg, BitVec.reduceEq, Int.reduceAdd, Int.reduceSub, Int.reduceMul, Nat.reduceLeDiff, Int.reduceEq, h34, h9, h0, h1, h2, h3, h4, h5, e11]
        exact hR _ _ ⟨by simp only [has, ↓amD, amU, Nat.reduceBEq, Nat.reduceAdd, Nat.reduceSub, Nat.reduceMul, Nat.reduceMod, Nat.reducePow, Nat.reduceLT, Nat.reduceDiv, Int.reduceToNat, BitVec.reduceToNat, zipEnv, Int.reduceLE, Int.reduceLT, Int.reduceNeg, BitVec.reduceEq, Int.reduceAdd, Int.reduceSub, Int.reduceMul, Nat.reduceLeDiff, Int.reduceEq, h0, h1, h2, h3, h4, h5], z0, z1, rfl⟩
      · simp only [has, ↓amD, amU, Nat.reduceBEq, Nat.reduceAdd, Nat.reduceSub, Nat.reduceMul, Nat.reduceMod, Nat.reducePow, Nat.reduceLT, Nat.reduceDiv, Int.reduceToNat, BitVec.reduceToNat, zipEnv, Int.reduceLE, Int.reduceLT, Int.reduceNeg, BitVec.reduceEq, Int.reduceAdd, Int.reduceSub, Int.reduceMul, Nat.reduceLeDiff, Int.reduceEq, h9, h0, h1, h2, h3, h4, h5]
        exact ⟨rfl, rfl⟩
    · rintro env rows ⟨hh, z0, z1, rfl⟩ R
      simp only [has] at hh
      obtain ⟨h9, h0, h1, h2, h3, h4, h5, -⟩ := hh
      have g0 : (bs (bstN 255).l)[0]? = some (.raw (u8 ((bstN 255).l.getD 0 0#8))) := bs_get (by rw [bst_len]; omega)
      simp only [↓amD, amU, Nat.reduceBEq, Nat.reduceAdd, Nat.reduceSub, Nat.reduceMul, Nat.reduceMod, Nat.reducePow, Nat.reduceLT, Nat.reduceDiv, Int.reduceToNat, BitVec.reduceToNat, zipEnv, Int.reduceLE, Int.reduceLT, Int.reduceNeg, BitVec.reduceEq, Int.reduceAdd, Int.reduceSub, Int.reduceMul, Nat.reduceLeDiff, Int.reduceEq, h9, h0, h1, h2, h3, h4, h5, g0, bs_set, bst_end]
      refine kLoop_up 256 (fun i env rows => has env [(49, .raw (it (i : Int))), (48, .agg (.ar 256 L8) (bs boxL)), (0, .ptr (.ar 256 L8) 0 [0]), (1, .ptr (.ar 256 L8) 1 [0]), (2, .ptr (.ar 256 L8) 2 [0]), (3, .ptr (.ar 256 L8) 3 [0])] ∧
        rows = [some ⟨.ar 256 L8, [z0]⟩, some ⟨.ar 256 L8, [z1]⟩, some ⟨.ar 256 L8, [.agg (.ar 256 L8) (bs boxL)]⟩, some ⟨.ar 256 L8, [.agg (.ar 256 L8) (bs (bkN boxL i))]⟩]) ?_ ?_ ⟨?_, rfl⟩
      · rintro i hi env rows ⟨hh, rfl⟩ R hR
        simp only [has] at hh
        obtain ⟨h49, h48, h0, h1, h2, h3, -⟩ := hh
        have e0 : ((i : Int) < 256) = True := eq_true (by omega)
        have e1 : ((0 : Int) ≤ (i : Int)) = True := eq_true (by omega)
        have e12 := wz_succ i (by omega)
        have g1 : (bs boxL)[i]? = some (.raw (u8 (boxL.getD i 0#8))) := bs_get (by rw [box_len]; omega)
        have hp := (boxL.getD i 0#8).isLt
        have g2 : (bs (bkN boxL i))[(boxL.getD i 0#8).toNat]? = some (.raw (u8 ((bkN boxL i).getD (boxL.getD i 0#8).toNat 0#8))) := bs_get (by rw [bk_len]; omega)
        have ev : BitVec.ofInt 8 (i : Int) = BitVec.ofNat 8 i := by simp
        simp only [↓amD, amU, Nat.reduceBEq, Nat.reduceAdd, Nat.reduceSub, Nat.reduceMul, Nat.reduceMod, Nat.reducePow, Nat.reduceLT, Nat.reduceDiv, Int.reduceToNat, BitVec.reduceToNat, zipEnv, Int.reduceLE, Int.reduceLT, Int.reduceNeg, BitVec.reduceEq, Int.reduceAdd, Int.reduceSub, Int.reduceMul, Nat.reduceLeDiff, Int.reduceEq, h49, h48, h0, h1, h2, h3, e0, e1, e12, u8_lt, u8_ge, g1, g2, bs_set, ev, decide_true]
        exact hR _ _ ⟨by simp only [has, ↓amD, amU, Nat.reduceBEq, Nat.reduceAdd, Nat.reduceSub, Nat.reduceMul, Nat.reduceMod, Nat.reducePow, Nat.reduceLT, Nat.reduceDiv, Int.reduceToNat, BitVec.reduceToNat, zipEnv, Int.reduceLE, Int.reduceLT, Int.reduceNeg, BitVec.reduceEq, Int.reduceAdd, Int.reduceSub, Int.reduceMul, Nat.reduceLeDiff, Int.reduceEq, h48, h0, h1, h2, h3], rfl⟩
      · rintro env rows ⟨hh, rfl⟩ R
        simp only [has] at hh
        obtain ⟨h49, h48, h0, h1, h2, h3, -⟩ := hh
        simp only [↓amD, amU, Nat.reduceBEq, Nat.reduceAdd, Nat.reduceSub, Nat.reduceMul, Nat.reduceMod, Nat.reducePow, Nat.reduceLT, Nat.reduceDiv, Int.reduceToNat, BitVec.reduceToNat, zipEnv, Int.reduceLE, Int.reduceLT, Int.reduceNeg, BitVec.reduceEq, Int.reduceAdd, Int.reduceSub, Int.reduceMul, Nat.reduceLeDiff, Int.reduceEq, h49, h48, h0, h1, h2, h3, bk_end]
        exact .val _ rfl
      · simp only [has, ↓amD, amU, Nat.reduceBEq, Nat.reduceAdd, Nat.reduceSub, Nat.reduceMul, Nat.reduceMod, Nat.reducePow, Nat.reduceLT, Nat.reduceDiv, Int.reduceToNat, BitVec.reduceToNat, zipEnv, Int.reduceLE, Int.reduceLT, Int.reduceNeg, BitVec.reduceEq, Int.reduceAdd, Int.reduceSub, Int.reduceMul, Nat.reduceLeDiff, Int.reduceEq, h0, h1, h2, h3]
    · simp only [has, ↓amD, amU, Nat.reduceBEq, Nat.reduceAdd, Nat.reduceSub, Nat.reduceMul, Nat.reduceMod, Nat.reducePow, Nat.reduceLT, Nat.reduceDiv, Int.reduceToNat, BitVec.reduceToNat, zipEnv, Int.reduceLE, Int.reduceLT, Int.reduceNeg, BitVec.reduceEq, Int.reduceAdd, Int.reduceSub, Int.reduceMul, Nat.reduceLeDiff, Int.reduceEq]
      exact ⟨rfl, rfl⟩
    · rfl
  · cases h
theorem kBoxes (rows : Rows) (k : D → Rows → Prop) : kCall fBoxes rows k [] = k (.tup [t256 boxL, t256 backL]) rows := by
  refine (kCall_val rfl (r := (.tup [t256 boxL, t256 backL], [])) rfl).trans ?_
  simp [shift, shiftL, shiftRows, t256, Sh.pure]
/-- a key, as it is seen -/
def kD : Option (List (BitVec 32) × Bool) → D
  | none => .agg S1 [.raw (.slice none 0 0), t256 (z256), t256 (z256)]
  | some (w, e) => .agg S1 [.lst L32 (us w) e, t256 boxL, t256 backL]
theorem kD_inj (x y : Option (List (BitVec 32) × Bool)) (h : kD x = kD y) : x = y := by
  cases x with
  | none =>
    cases y with
    | none => rfl
    | some y => unfold kD at h; injection h with _ h; injection h with h _; cases h
  | some x =>
    cases y with
    | none => unfold kD at h; injection h with _ h; injection h with h _; cases h
    | some y =>
      unfold kD at h; injection h with _ h; injection h with h _; injection h with _ h h'
      rcases x with ⟨x, e⟩
      rcases y with ⟨y, f⟩
      cases us_inj h
      cases h'
      rfl
/-- four bytes of a word, each by a table -/
def subW (t : List (BitVec 8)) (x : BitVec 32) : BitVec 32 :=
  (bx t ((x >>> 24).setWidth 8)).setWidth 32 <<< 24 ||| (bx t ((x >>> 16).setWidth 8)).setWidth 32 <<< 16 ||| (bx t ((x >>> 8).setWidth 8)).setWidth 32 <<< 8 ||| (bx t (x.setWidth 8)).setWidth 32
noncomputable def fSub : Fn := fn2 (rdOf fun x => .cptr (kD (some x))) rd32 (fun _ _ => true) fun _ x => (.raw (u32 (subW boxL x)), [])
theorem box_get (x : BitVec 8) : (bs boxL)[x.toNat]? = some (.raw (u8 (bx boxL x))) := bs_get (by rw [box_len]; exact x.isLt)
theorem sub_ok (C : Ctx) (hC : CtxOK C P) : Meets C.glob P 29 (Fn.run fSub) := by
  refine fn_meets (m_aes_Key_sub C hC) fun ds rows r h => ?_
  obtain ⟨d, e, ⟨w, f⟩, x, rfl, rfl, hd, he, hp, rfl⟩ := fn2_some h
  cases rdOf_some hd
  cases rd32_some he
  refine ⟨rfl, afun_mk rfl ?_⟩
  clear h hd he
  unfold a_aes_Key_sub r_aes_Key_sub
  simp only [↓amD, amU, Nat.reduceBEq, Nat.reduceAdd, Nat.reduceSub, Nat.reduceMul, Nat.reduceMod, Nat.reducePow, Nat.reduceLT, Nat.reduceDiv, Int.reduceToNat, BitVec.reduceToNat, zipEnv, Int.reduceLE, Int.reduceLT, Int.reduceNeg, BitVec.reduceEq, Int.reduceAdd, Int.reduceSub, Int.reduceMul, Nat.reduceLeDiff, Int.reduceEq, kD, t256, u8_lt, u8_ge, box_get]
  exact .val _ rfl
end Job
end Go.Am
