/- SHA-256: words and digests, padding -/
import Derived.Test.YtbipaoihfpklgaaDoorSha4
namespace Go.Am
set_option linter.unusedSimpArgs false
set_option linter.unusedVariables false
attribute [local congr] bnd_congr kCond_congr kGd_congr kPick_congr kCall_congr kIdx_congr kSlice_congr kLoop_congr cond_congr' aBin_congr aBounds_congr aApp_congr aCopy_congr kFn_congr
namespace Job
open Go.Am.F
set_option maxRecDepth 10000
noncomputable def fWords : Fn := fn1 (rdOf d32D) (fun b => decide (b.length = 32)) fun b => (h8D (words 8 b), [])
theorem kWords (rows : Rows) (k : D → Rows → Prop) (b : List (BitVec 8)) (h : b.length = 32) : kCall fWords rows k [.agg (.ar 32 L8) (bs b)] = k (.agg (.ar 8 L32) (us (words 8 b))) rows := by
  refine (kCall_val (by simp [hasRefL, hasRef, Sh.pure]) (r := (h8D (words 8 b), [])) ?_).trans ?_
  · exact fn1_eq (rdOf_eq d32D_inj b) (by simp [h])
  · simp [shift, shiftRows, h8D, Sh.pure]
theorem bs_splice (l x : List (BitVec 8)) (off : Nat) : splice (bs l) off (bs x) = bs (splice l off x) := by
  simp [splice, bs]
theorem copy_arr {rows : Rows} {r i off len : Nat} {p : List Nat} {ex : Bool} {row : Row} {l src : List (BitVec 8)} {u : Sh} {els : List D} {k : D → Rows → Prop} (hl : live rows r = some row) (hg : rowGet row.els (i :: p) = some (.agg u (bs l))) (hn : off + len ≤ l.length)
    (hs : rowSet row.els (i :: p) (.agg u (bs (splice l off (src.take (min src.length len))))) = some els) : aCopy rows L8 (.sl L8 r (i :: p) off len ex) (bs src) k = k (.raw (it ((min src.length len : Nat) : Int))) (rows.set r (some ⟨row.sh, els⟩)) := by
  unfold aCopy
  simp only [hl, hg, bnd, bs_len, bs_take, bs_splice, hs, hn, true_and]
  rfl
theorem copy_arr0 {rows : Rows} {r n off len : Nat} {ex : Bool} {l src : List (BitVec 8)} {k : D → Rows → Prop} (hl : live rows r = some ⟨.ar n L8, [.agg (.ar n L8) (bs l)]⟩) (hn : off + len ≤ l.length) :
    aCopy rows L8 (.sl L8 r [0] off len ex) (bs src) k = k (.raw (it ((min src.length len : Nat) : Int))) (rows.set r (some ⟨.ar n L8, [.agg (.ar n L8) (bs (splice l off (src.take (min src.length len))))]⟩)) :=
  copy_arr hl rfl hn rfl
def digS (w : List (BitVec 32)) : List (BitVec 8) := (w.map wordB).flatten
theorem wordB_len (x : BitVec 32) : (wordB x).length = 4 := rfl
theorem digS_len (w : List (BitVec 32)) : (digS w).length = 4 * w.length := by
  induction w with
  | nil => rfl
  | cons x w ih => simp only [digS, List.map_cons, List.flatten_cons, List.length_append, List.length_cons] at ih ⊢; rw [ih, wordB_len]; omega
theorem digS_app (a b : List (BitVec 32)) : digS (a ++ b) = digS a ++ digS b := by simp [digS]
def fill8 (l : List (BitVec 8)) (n : Nat) : List (BitVec 8) := l ++ List.replicate (n - l.length) 0#8
theorem fill8_len {l : List (BitVec 8)} {n : Nat} (h : l.length ≤ n) : (fill8 l n).length = n := by simp [fill8]; omega
theorem fill8_splice {l x : List (BitVec 8)} {n : Nat} (h : l.length + x.length ≤ n) : splice (fill8 l n) l.length x = fill8 (l ++ x) n := by
  unfold splice fill8
  have h1 : (l ++ List.replicate (n - l.length) 0#8).take l.length = l := by simp
  have h2 : (l ++ List.replicate (n - l.length) 0#8).drop (l.length + x.length) = List.replicate (n - (l ++ x).length) 0#8 := by
    rw [List.drop_append, List.drop_eq_nil_of_le (by omega), List.nil_append, List.drop_replicate]
    congr 1; simp; omega
  rw [h1, h2]
theorem fill8_full {l : List (BitVec 8)} {n : Nat} (h : l.length = n) : fill8 l n = l := by simp [fill8, h]
noncomputable def fDigest : Fn := fn1 (rdOf h8D) (fun b => decide (b.length = 8)) fun b => (d32D (digS b), [])
theorem digest_ok (C : Ctx) (hC : CtxOK C P) : Meets C.glob P 39 (Fn.run fDigest) := by
  refine fn_meets (m_sha_Digest C hC) fun ds rows r h => ?_
  obtain ⟨d, w, rfl, rfl, hd, hp, rfl⟩ := fn1_some h
  cases rdOf_some hd
  simp only [decide_eq_true_eq] at hp
  refine ⟨rfl, afun_mk rfl ?_⟩
  clear h hd
  unfold a_sha_Digest r_sha_Digest
  simp only [h8D, ↓amD, amU, Nat.reduceBEq, Nat.reduceAdd, Nat.reduceSub, Nat.reduceMul, Nat.reduceMod, Nat.reducePow, Nat.reduceLT, Nat.reduceDiv, Int.reduceToNat, BitVec.reduceToNat, zipEnv, Int.reduceLE, Int.reduceLT, Int.reduceNeg, BitVec.reduceEq, Int.reduceAdd, Int.reduceSub, Int.reduceMul, Nat.reduceLeDiff, Int.reduceEq]
  refine kLoop_up 8 (fun i env rows => has env [(7, .raw (it (i : Int))), (6, .agg (.ar 8 L32) (us w)), (1, .ptr (.ar 8 L32) 0 [0]), (2, .ptr (.ar 32 L8) 1 [0]), (3, .ptr (.ar 32 L8) 2 [0])] ∧
    (∃ z, live rows 1 = some ⟨.ar 32 L8, [z]⟩) ∧ live rows 2 = some ⟨.ar 32 L8, [.agg (.ar 32 L8) (bs (fill8 (digS (w.take i)) 32))]⟩) ?_ ?_ ⟨?_, ⟨_, rfl⟩, ?_⟩
  · rintro i hi env rows ⟨hh, ⟨z, r1⟩, r2⟩ R hR
    simp only [has] at hh
    obtain ⟨h7, h6, h1, h2, h3, -⟩ := hh
    have e0 : ((i : Int) < 8) = True := eq_true (by omega)
    have e1 : ((0 : Int) ≤ 4 * (i : Int)) = True := eq_true (by omega)
    have e2 : wz (4 * (i : Int)) = 4 * (i : Int) := wz_id (by omega)
    have e5 : (4 * (i : Int) ≤ 32) = True := eq_true (by omega)
    have e6 : (4 * (i : Int)).toNat = 4 * i := by omega
    have e9 : ((0 : Int) ≤ (i : Int)) = True := eq_true (by omega)
    have e11 := wz_succ i (by omega)
    have eg : (us w)[i]? = some (.raw (u32 (w.getD i 0#32))) := us_get (by omega)
    have hl : (digS (w.take i)).length = 4 * i := by rw [digS_len, List.length_take]; omega
    have hsp : splice (fill8 (digS (w.take i)) 32) (4 * i) ((wordB (w.getD i 0#32)).take (min 4 (32 - 4 * i))) = fill8 (digS (w.take (i + 1))) 32 := by
      have := fill8_splice (l := digS (w.take i)) (x := wordB (w.getD i 0#32)) (n := 32) (by rw [hl, wordB_len]; omega)
      rw [hl] at this
      have ht : (wordB (w.getD i 0#32)).take (min 4 (32 - 4 * i)) = wordB (w.getD i 0#32) := List.take_of_length_le (by rw [wordB_len]; omega)
      rw [ht, this, take_snoc (by omega), digS_app]
      simp [digS]
    simp only [↓amD, amU, Nat.reduceBEq, Nat.reduceAdd, Nat.reduceSub, Nat.reduceMul, Nat.reduceMod, Nat.reducePow, Nat.reduceLT, Nat.reduceDiv, Int.reduceToNat, BitVec.reduceToNat, zipEnv, Int.reduceLE, Int.reduceLT, Int.reduceNeg, BitVec.reduceEq, Int.reduceAdd, Int.reduceSub, Int.reduceMul, Nat.reduceLeDiff, Int.reduceEq, lv_app0, lv_appk, set_app0, set_appk, List.append_assoc, List.append_nil, Nat.add_assoc, h7, h6, h1, h2, h3, e0, e1, e2, e5, e6, e9, e11, eg, decide_true]
    refine Eq.mpr (copy_arr0 (src := wordB (w.getD i 0#32)) (live_push r2) (by rw [fill8_len (by omega)]; omega)) ?_
    rw [wordB_len, hsp]
    have hr1 : ∀ x y : Rows, live ((rows ++ x).set 2 (some ⟨.ar 32 L8, [.agg (.ar 32 L8) (bs (fill8 (digS (w.take (i + 1))) 32))]⟩)) 1 = some ⟨.ar 32 L8, [z]⟩ := fun x y => (live_set_ne (by decide)).trans (live_push r1)
    simp only [↓amD, amU, Nat.reduceBEq, Nat.reduceAdd, Nat.reduceSub, Nat.reduceMul, Nat.reduceMod, Nat.reducePow, Nat.reduceLT, Nat.reduceDiv, Int.reduceToNat, BitVec.reduceToNat, zipEnv, Int.reduceLE, Int.reduceLT, Int.reduceNeg, BitVec.reduceEq, Int.reduceAdd, Int.reduceSub, Int.reduceMul, Nat.reduceLeDiff, Int.reduceEq, h7, h6, h1, h2, h3, e11]
    exact hR _ _ ⟨by simp only [has, ↓amD, amU, Nat.reduceBEq, Nat.reduceAdd, Nat.reduceSub, Nat.reduceMul, Nat.reduceMod, Nat.reducePow, Nat.reduceLT, Nat.reduceDiv, Int.reduceToNat, BitVec.reduceToNat, zipEnv, Int.reduceLE, Int.reduceLT, Int.reduceNeg, BitVec.reduceEq, Int.reduceAdd, Int.reduceSub, Int.reduceMul, Nat.reduceLeDiff, Int.reduceEq, h6, h1, h2, h3], ⟨z, hr1 _ []⟩, live_set_same (live_push r2)⟩
  · rintro env rows ⟨hh, ⟨z, r1⟩, r2⟩ R
    simp only [has] at hh
    obtain ⟨h7, h6, h1, h2, h3, -⟩ := hh
    have s1 : ∀ x, live (rows.set 1 (some x)) 1 = some x := fun x => live_set_same r1
    simp only [↓amD, amU, Nat.reduceBEq, Nat.reduceAdd, Nat.reduceSub, Nat.reduceMul, Nat.reduceMod, Nat.reducePow, Nat.reduceLT, Nat.reduceDiv, Int.reduceToNat, BitVec.reduceToNat, zipEnv, Int.reduceLE, Int.reduceLT, Int.reduceNeg, BitVec.reduceEq, Int.reduceAdd, Int.reduceSub, Int.reduceMul, Nat.reduceLeDiff, Int.reduceEq, h7, h6, h1, h2, h3, r1, r2, s1]
    have : fill8 (digS (w.take 8)) 32 = digS w := by rw [List.take_of_length_le (by omega), fill8_full (by rw [digS_len]; omega)]
    rw [this]
    exact .val _ rfl
  · simp only [has, ↓amD, amU, Nat.reduceBEq, Nat.reduceAdd, Nat.reduceSub, Nat.reduceMul, Nat.reduceMod, Nat.reducePow, Nat.reduceLT, Nat.reduceDiv, Int.reduceToNat, BitVec.reduceToNat, zipEnv, Int.reduceLE, Int.reduceLT, Int.reduceNeg, BitVec.reduceEq, Int.reduceAdd, Int.reduceSub, Int.reduceMul, Nat.reduceLeDiff, Int.reduceEq]
  · rfl
theorem kDigest (rows : Rows) (k : D → Rows → Prop) (w : List (BitVec 32)) (h : w.length = 8) : kCall fDigest rows k [.agg (.ar 8 L32) (us w)] = k (.agg (.ar 32 L8) (bs (digS w))) rows := by
  refine (kCall_val (by simp [hasRefL, hasRef, Sh.pure]) (r := (d32D (digS w), [])) ?_).trans ?_
  · exact fn1_eq (rdOf_eq h8D_inj w) (by simp [h])
  · simp [shift, shiftRows, d32D, Sh.pure]
/-- what stands behind n bytes -/
def zerosN (n : BitVec 64) : Nat := ((119#64 - n % 64#64) % 64#64).toNat
def be8 (m : BitVec 64) (i : Nat) : List (BitVec 8) := (List.range i).map fun j => (m >>> (56 - 8 * j)).setWidth 8
theorem be8_succ (m : BitVec 64) (i : Nat) : be8 m (i + 1) = be8 m i ++ [(m >>> (56 - 8 * i)).setWidth 8] := by simp [be8, List.range_succ]
theorem be8_len (m : BitVec 64) (i : Nat) : (be8 m i).length = i := by simp [be8]
def padS (n : BitVec 64) : List (BitVec 8) := [128#8] ++ List.replicate (zerosN n) 0#8 ++ be8 (n <<< 3) 8
theorem zerosN_lt (n : BitVec 64) : zerosN n < 64 := by
  unfold zerosN; rw [BitVec.toNat_umod]; exact Nat.mod_lt _ (by decide)
def fPad : Fn := fn1 rd64 (fun _ => true) fun n => outBs (padS n) false
theorem pad_ok (C : Ctx) (hC : CtxOK C P) : Meets C.glob P 40 (Fn.run fPad) := by
  refine fn_meets (m_sha_Pad C hC) fun ds rows r h => ?_
  obtain ⟨d, n, rfl, rfl, hd, hp, rfl⟩ := fn1_some h
  cases rd64_some hd
  refine ⟨rfl, afun_mk rfl ?_⟩
  clear h hd
  have hz := zerosN_lt n
  have h0 : ((0 : Int) ≤ ((((119#64 - n % 64#64) % 64#64).toNat : Nat) : Int)) = True := eq_true (by omega)
  have hzn : ((119#64 - n % 64#64) % 64#64).toNat = zerosN n := rfl
  rw [hzn] at h0
  unfold a_sha_Pad r_sha_Pad
  simp only [↓amD, amU, Nat.reduceBEq, Nat.reduceAdd, Nat.reduceSub, Nat.reduceMul, Nat.reduceMod, Nat.reducePow, Nat.reduceLT, Nat.reduceDiv, Int.reduceToNat, BitVec.reduceToNat, zipEnv, Int.reduceLE, Int.reduceLT, Int.reduceNeg, BitVec.reduceEq, Int.reduceAdd, Int.reduceSub, Int.reduceMul, Nat.reduceLeDiff, Int.reduceEq, hzn, h0, List.length_replicate]
  refine ⟨by omega, by omega, ?_⟩
  have e : bs ([128#8] ++ List.replicate (zerosN n) 0#8 ++ be8 (n <<< 3) 0) = .raw (u8 128#8) :: List.replicate (zerosN n) (.raw (u8 0#8)) := by
    simp [be8, bs]
  have how0 : Own L8 (.sl L8 1 [] 0 (1 + zerosN n) false) [none, some ⟨L8, .raw (u8 128#8) :: List.replicate (zerosN n) (.raw (u8 0#8))⟩] (bs ([128#8] ++ List.replicate (zerosN n) 0#8 ++ be8 (n <<< 3) 0)) := by
    rw [e]
    refine .inr ⟨1, false, ?_, rfl⟩
    rw [List.length_cons, List.length_replicate, Nat.add_comm]
  refine kLoop_up 8 (fun i env rows => ∃ x, has env [(0, .raw (u64 n)), (3, x), (4, .raw (it (56 - 8 * (i : Int))))] ∧ Own L8 x rows (bs ([128#8] ++ List.replicate (zerosN n) 0#8 ++ be8 (n <<< 3) i))) ?_ ?_ ⟨_, ?_, how0⟩
  · rintro i hi env rows ⟨x, hh, how⟩ R hR
    simp only [has] at hh
    obtain ⟨h0, h3, h4, -⟩ := hh
    have e0 : ((0 : Int) ≤ 56 - 8 * (i : Int)) = True := eq_true (by omega)
    have e1 : (56 - 8 * (i : Int)).toNat = 56 - 8 * i := by omega
    have e2 : wz (56 - 8 * (i : Int) - 8) = 56 - 8 * ((i + 1 : Nat) : Int) := by rw [wz_id (by omega)]; omega
    have hl : (bs ([128#8] ++ List.replicate (zerosN n) 0#8 ++ be8 (n <<< 3) i)).length ≤ 100 := by
      rw [bs_len, List.length_append, List.length_append, be8_len, List.length_replicate]; simp only [List.length_cons, List.length_nil]; omega
    simp only [↓amD, amU, Nat.reduceBEq, Nat.reduceAdd, Nat.reduceSub, Nat.reduceMul, Nat.reduceMod, Nat.reducePow, Nat.reduceLT, Nat.reduceDiv, Int.reduceToNat, BitVec.reduceToNat, zipEnv, Int.reduceLE, Int.reduceLT, Int.reduceNeg, BitVec.reduceEq, Int.reduceAdd, Int.reduceSub, Int.reduceMul, Nat.reduceLeDiff, Int.reduceEq, h0, h3, h4, e0, e1, decide_true]
    refine app_own how.push (by simp only [List.length_cons, List.length_nil]; unfold most; omega) (by simp only [List.length_cons, List.length_nil]; unfold most; omega) ?_
    intro x' rows' how' _ _ _
    simp only [↓amD, amU, Nat.reduceBEq, Nat.reduceAdd, Nat.reduceSub, Nat.reduceMul, Nat.reduceMod, Nat.reducePow, Nat.reduceLT, Nat.reduceDiv, Int.reduceToNat, BitVec.reduceToNat, zipEnv, Int.reduceLE, Int.reduceLT, Int.reduceNeg, BitVec.reduceEq, Int.reduceAdd, Int.reduceSub, Int.reduceMul, Nat.reduceLeDiff, Int.reduceEq, h0, h3, h4, e2]
    refine hR _ _ ⟨x', by simp only [has, ↓amD, amU, Nat.reduceBEq, Nat.reduceAdd, Nat.reduceSub, Nat.reduceMul, Nat.reduceMod, Nat.reducePow, Nat.reduceLT, Nat.reduceDiv, Int.reduceToNat, BitVec.reduceToNat, zipEnv, Int.reduceLE, Int.reduceLT, Int.reduceNeg, BitVec.reduceEq, Int.reduceAdd, Int.reduceSub, Int.reduceMul, Nat.reduceLeDiff, Int.reduceEq, h0], ?_⟩
    rw [be8_succ, ← List.append_assoc, bs_snoc]
    exact how'
  · rintro env rows ⟨x, hh, how⟩ R
    simp only [has] at hh
    obtain ⟨h0, h3, h4, -⟩ := hh
    have e0 : ((0 : Int) ≤ 56 - 8 * ((8 : Nat) : Int)) = False := eq_false (by omega)
    simp only [↓amD, amU, Nat.reduceBEq, Nat.reduceAdd, Nat.reduceSub, Nat.reduceMul, Nat.reduceMod, Nat.reducePow, Nat.reduceLT, Nat.reduceDiv, Int.reduceToNat, BitVec.reduceToNat, zipEnv, Int.reduceLE, Int.reduceLT, Int.reduceNeg, BitVec.reduceEq, Int.reduceAdd, Int.reduceSub, Int.reduceMul, Nat.reduceLeDiff, Int.reduceEq, h0, h3, h4, e0, decide_false, how.nTup]
    exact how.expo
  · simp only [has, ↓amD, amU, Nat.reduceBEq, Nat.reduceAdd, Nat.reduceSub, Nat.reduceMul, Nat.reduceMod, Nat.reducePow, Nat.reduceLT, Nat.reduceDiv, Int.reduceToNat, BitVec.reduceToNat, zipEnv, Int.reduceLE, Int.reduceLT, Int.reduceNeg, BitVec.reduceEq, Int.reduceAdd, Int.reduceSub, Int.reduceMul, Nat.reduceLeDiff, Int.reduceEq]
theorem padS_len (n : BitVec 64) : (padS n).length = 9 + zerosN n := by
  simp only [padS, List.length_append, be8_len, List.length_replicate, List.length_cons, List.length_nil]; omega
theorem kPad (rows : Rows) (k : D → Rows → Prop) (n : BitVec 64) : kCall fPad rows k [.raw (u64 n)] = k (.sl L8 (0 + rows.length) [] 0 (padS n).length false) (rows ++ [some ⟨L8, bs (padS n)⟩]) := by
  refine (kCall_val rfl (r := outBs (padS n) false) ?_).trans ?_
  · exact fn1_eq (rd64_eq n) rfl
  · simp [outBs, shift, shiftRows, Sh.pure]
end Job
end Go.Am
