/- AES: the words of a key; the law of the schedules -/
import Derived.Test.YtloclegkilgglaaAes9
namespace Go.Am
set_option linter.unusedSimpArgs false
set_option linter.unusedVariables false
attribute [local congr] bnd_congr kCond_congr kGd_congr kPick_congr kCall_congr kIdx_congr kSlice_congr kLoop_congr cond_congr' aBin_congr aBounds_congr aApp_congr aCopy_congr kFn_congr
namespace Job
open Go.Am.F
set_option maxRecDepth 10000
theorem kValB (rows : Rows) (k : D → Rows → Prop) (d : D) (a : List (BitVec 8)) (h : BsIn rows d a) (hl : a.length ≤ 1099511627776) : kCall fValue rows k [d] = k (.raw (u64 (valS a))) rows := by
  refine (kCall_bs1 h (by simpa [most] using hl) rfl).trans ?_
  simp [shift, shiftRows, valS]
noncomputable def fClone32 : Fn := fn1 (rdLst L32 fun x : BitVec 32 => .raw (u32 x)) (fun a => decide (a.length * 4 ≤ 1099511627776)) fun a => (.sl L32 0 [] 0 a.length false, [some ⟨L32, us a⟩])
theorem clone32_ok (C : Ctx) (hC : CtxOK C P) : Meets C.glob P 38 (Fn.run fClone32) := by
  refine fn_meetsN (m_slices_Clone_uint32_uint32 C hC) fun ds rows r h => ?_
  obtain ⟨d, a, rfl, rfl, hd, hp, rfl⟩ := fn1_some h
  obtain ⟨x, hx⟩ := rdLst_nrm hd
  refine ⟨rfl, _, .cons hx .nil, afun_mk rfl ?_⟩
  simp only [decide_eq_true_eq] at hp
  clear h hx hd
  have e : (a.map fun x : BitVec 32 => D.raw (u32 x)) = us a := rfl
  rw [e]
  unfold a_slices_Clone_uint32_uint32 r_slices_Clone_uint32_uint32
  simp only [↓amD, amU, Nat.reduceBEq, Nat.reduceAdd, Nat.reduceSub, Nat.reduceMul, Nat.reduceMod, Nat.reducePow, Nat.reduceLT, Nat.reduceDiv, Int.reduceToNat, BitVec.reduceToNat, zipEnv, Int.reduceLE, Int.reduceLT, Int.reduceNeg, BitVec.reduceEq, Int.reduceAdd, Int.reduceSub, Int.reduceMul, Nat.reduceLeDiff, Int.reduceEq, us_len]
  refine ⟨fun h0 => ?_, by omega, by omega, .own L32 1 0 a.length false false _ rfl rfl id⟩
  cases a with
  | nil => exact .nil0 L32
  | cons b l => simp at h0
def kW : Option (List (BitVec 32) × Bool) → List (BitVec 32)
  | none => []
  | some (w, _) => w
theorem kClone32 (rows : Rows) (k : D → Rows → Prop) (w : List (BitVec 32)) (e : Bool) (hw : w.length ≤ 64) : kCall fClone32 rows k [.lst L32 (us w) e] = k (.sl L32 (0 + rows.length) [] 0 w.length false) (rows ++ [some ⟨L32, us w⟩]) := by
  refine (kCall_val (by simp [hasRefL, hasRef, Sh.pure]) (r := (.sl L32 0 [] 0 w.length false, [some ⟨L32, us w⟩])) ?_).trans ?_
  · have := rdLst_eq (s := L32) (mk := fun x : BitVec 32 => D.raw (u32 x)) (fun x y h => u32_inj.1 (D.raw.inj h)) w e
    exact fn1_eq this (by simp; omega)
  · simp [shift, shiftRows, Sh.pure]
theorem kClone32n (rows : Rows) (k : D → Rows → Prop) : kCall fClone32 rows k [.raw (.slice none 0 0)] = k (.sl L32 (0 + rows.length) [] 0 0 false) (rows ++ [some ⟨L32, []⟩]) := by
  refine (kCall_val rfl (r := (.sl L32 0 [] 0 0 false, [some ⟨L32, []⟩])) rfl).trans ?_
  simp [shift, shiftRows, Sh.pure]
noncomputable def fWordsK : Fn := fn1 (rdOf kD) (fun K => decide (kLen K ≤ 64)) fun K => (.sl L32 0 [] 0 (kW K).length false, [some ⟨L32, us (kW K)⟩])
theorem wordsK_ok (C : Ctx) (hC : CtxOK C P) (hc : C.fn 38 = some fClone32) : Meets C.glob P 20 (Fn.run fWordsK) := by
  refine fn_meets (m_aes_Key_Words C hC) fun ds rows r h => ?_
  obtain ⟨d, K, rfl, rfl, hd, hp, rfl⟩ := fn1_some h
  cases rdOf_some hd
  simp only [decide_eq_true_eq] at hp
  refine ⟨rfl, afun_mk rfl ?_⟩
  clear h hd
  unfold a_aes_Key_Words r_aes_Key_Words
  rcases K with _ | ⟨w, x⟩
  · simp only [kD, t256, ↓amD, amU, Nat.reduceBEq, Nat.reduceAdd, Nat.reduceSub, Nat.reduceMul, Nat.reduceMod, Nat.reducePow, Nat.reduceLT, Nat.reduceDiv, Int.reduceToNat, BitVec.reduceToNat, zipEnv, Int.reduceLE, Int.reduceLT, Int.reduceNeg, BitVec.reduceEq, Int.reduceAdd, Int.reduceSub, Int.reduceMul, Nat.reduceLeDiff, Int.reduceEq, hc, kClone32n]
    exact .own L32 1 0 0 false false _ rfl rfl id
  · simp only [kLen] at hp
    have kc := fun rows k => kClone32 rows k w x hp
    simp only [kD, t256, ↓amD, amU, Nat.reduceBEq, Nat.reduceAdd, Nat.reduceSub, Nat.reduceMul, Nat.reduceMod, Nat.reducePow, Nat.reduceLT, Nat.reduceDiv, Int.reduceToNat, BitVec.reduceToNat, zipEnv, Int.reduceLE, Int.reduceLT, Int.reduceNeg, BitVec.reduceEq, Int.reduceAdd, Int.reduceSub, Int.reduceMul, Nat.reduceLeDiff, Int.reduceEq, hc, kc]
    exact .own L32 1 0 w.length false false _ rfl rfl id
theorem kWordsA {d : D} {rows : Rows} {w : List (BitVec 32)} (h : Own L32 d rows (us w)) (h1 : w ≠ []) (h2 : w.length ≤ 64) (k : D → Rows → Prop) :
    kCall fWordsK rows k [kA d] = k (.sl L32 (0 + rows.length) [] 0 w.length false) (rows ++ [some ⟨L32, us w⟩]) := by
  obtain ⟨hr, e, hv⟩ := kA_view h h1 7
  have hf : fWordsK [kD (some (w, e))] [] = some (.sl L32 0 [] 0 w.length false, [some ⟨L32, us w⟩]) := by
    rw [fWordsK, fn1_eq (rdOf_eq kD_inj _) (by simp [kLen, h2])]; rfl
  unfold kCall
  simp [hasRefL, hr, mapO, hv, hf, bnd, shift, noLst, shiftRows, noLstRows, Sh.pure]
theorem kWords0 (rows : Rows) (k : D → Rows → Prop) : kCall fWordsK rows k [kD none] = k (.sl L32 (0 + rows.length) [] 0 0 false) (rows ++ [some ⟨L32, []⟩]) := by
  refine (kCall_val (by simp [hasRefL, kD0_ref]) (r := (.sl L32 0 [] 0 0 false, [some ⟨L32, []⟩])) ?_).trans ?_
  · rw [fWordsK, fn1_eq (rdOf_eq kD_inj _) (by simp [kLen])]; rfl
  · simp [shift, shiftRows, Sh.pure]
/-- the schedule, place by place -/
theorem scN_pre (n : Nat) (w : List (BitVec 32)) (k : Nat) : ∀ j, ∃ t, (scN n w (k + j)).w = (scN n w k).w ++ t
  | 0 => ⟨[], by simp⟩
  | j + 1 => by
    obtain ⟨t, ht⟩ := scN_pre n w k j
    refine ⟨t ++ [tmpS n (scN n w (k + j)) ^^^ (scN n w (k + j)).w.getD ((scN n w (k + j)).w.length - n) 0#32], ?_⟩
    rw [← Nat.add_assoc, scN, nxS, ht, List.append_assoc]
theorem scN_lo (n : Nat) (w : List (BitVec 32)) (k j i : Nat) (h : i < w.length + k) : (scN n w (k + j)).w.getD i 0#32 = (scN n w k).w.getD i 0#32 := by
  obtain ⟨t, ht⟩ := scN_pre n w k j
  rw [ht]
  have : i < (scN n w k).w.length := by rw [scN_len]; exact h
  simp [List.getD, List.getElem?_append_left this]
theorem scN_at (n : Nat) (w : List (BitVec 32)) (k j : Nat) : (scN n w (k + 1 + j)).w.getD (w.length + k) 0#32 = tmpS n (scN n w k) ^^^ (scN n w k).w.getD (w.length + k - n) 0#32 := by
  rw [scN_lo n w (k + 1) j _ (by omega)]
  have : (scN n w k).w.length = w.length + k := scN_len n w k
  rw [scN, nxS, this]
  simp [List.getD, this]
theorem sched_lo (kb : List (BitVec 8)) (n i : Nat) (hn : kb.length = 4 * n) (h : i < n) : (sched kb).getD i 0#32 = numS ((kb.drop (4 * i)).take 4) := by
  have e : kb.length / 4 = n := by omega
  rw [sched, e]
  have := scN_lo n (words n kb) 0 (3 * n + 28) i (by rw [words_len]; omega)
  rw [Nat.zero_add] at this
  rw [this, scN]
  simp [words, List.getD, h]
theorem sched_hi (kb : List (BitVec 8)) (n i : Nat) (hn : kb.length = 4 * n) (h : n ≤ i) (hi : i < 4 * n + 28) (hn0 : 0 < n) (h0 : i % n ≠ 0) (h4 : ¬ (6 < n ∧ i % n = 4)) :
    (sched kb).getD i 0#32 = (sched kb).getD (i - n) 0#32 ^^^ (sched kb).getD (i - 1) 0#32 := by
  have e : kb.length / 4 = n := by omega
  rw [sched, e]
  obtain ⟨k, rfl⟩ := Nat.exists_eq_add_of_le h
  have hk : 3 * n + 28 = k + 1 + (3 * n + 27 - k) := by omega
  have h1 := scN_at n (words n kb) k (3 * n + 27 - k)
  have h2 := scN_lo n (words n kb) k (1 + (3 * n + 27 - k)) (n + k - n) (by rw [words_len]; omega)
  have h3 := scN_lo n (words n kb) k (1 + (3 * n + 27 - k)) (n + k - 1) (by rw [words_len]; omega)
  rw [← Nat.add_assoc, ← hk] at h2 h3
  rw [words_len, ← hk] at h1
  rw [h1, h2, h3]
  have hl : (scN n (words n kb) k).w.length = n + k := by rw [scN_len, words_len]
  rw [tmpS, hl, if_neg h0, if_neg h4, BitVec.xor_comm]
theorem four4 {v : List (BitVec 8)} (h : v.length = 4) : ∃ a b c d, v = [a, b, c, d] := by
  match v, h with
  | [a, b, c, d], _ => exact ⟨a, b, c, d, rfl⟩
theorem words_inj (n : Nat) (a b : List (BitVec 8)) (ha : a.length = 4 * n) (hb : b.length = 4 * n) (h : ∀ i, i < n → numS ((a.drop (4 * i)).take 4) = numS ((b.drop (4 * i)).take 4)) : a = b := by
  have hp : ∀ i, i < n → (a.drop (4 * i)).take 4 = (b.drop (4 * i)).take 4 := fun i hi => by
    obtain ⟨x0, x1, x2, x3, hx⟩ := four4 (v := (a.drop (4 * i)).take 4) (by rw [List.length_take, List.length_drop]; omega)
    obtain ⟨y0, y1, y2, y3, hy⟩ := four4 (v := (b.drop (4 * i)).take 4) (by rw [List.length_take, List.length_drop]; omega)
    have := h i hi
    rw [hx, hy] at this ⊢
    rw [← word_num x0 x1 x2 x3, this, word_num]
  refine List.ext_getElem (by omega) fun j h1 h2 => ?_
  have := congrArg (fun l => l[j % 4]?) (hp (j / 4) (by omega))
  simp only [List.getElem?_take, List.getElem?_drop] at this
  rw [if_pos (by omega), if_pos (by omega), show 4 * (j / 4) + j % 4 = j by omega, List.getElem?_eq_getElem h1, List.getElem?_eq_getElem h2] at this
  exact Option.some.inj this
theorem sched_inj (n : Nat) (a b : List (BitVec 8)) (ha : a.length = 4 * n) (hb : b.length = 4 * n) : (sched a = sched b) = (a = b) := by
  rw [eq_iff_iff]
  refine ⟨fun h => words_inj n a b ha hb fun i hi => ?_, fun h => by rw [h]⟩
  rw [← sched_lo a n i ha hi, ← sched_lo b n i hb hi, h]
theorem num_val (p : List (BitVec 8)) (h : p.length = 4) : (numS p).setWidth 64 = valS p := by
  obtain ⟨a, b, c, d, rfl⟩ := four4 h
  apply BitVec.eq_of_toNat_eq
  have ha := a.isLt
  have hb := b.isLt
  have hc := c.isLt
  have hd := d.isLt
  rw [BitVec.toNat_setWidth, num4_nat, val4_nat]
  omega
def al (w x : List (BitVec 32)) (i : Nat) : Bool := decide (w.take i = x.take i)
theorem al_succ (w x : List (BitVec 32)) (i : Nat) (hw : i < w.length) (hx : i < x.length) : al w x (i + 1) = (al w x i && decide (w.getD i 0#32 = x.getD i 0#32)) := by
  unfold al
  rw [take_succ_getD (z := 0#32) hw, take_succ_getD (z := 0#32) hx]
  rw [Bool.eq_iff_iff]
  simp only [Bool.and_eq_true, decide_eq_true_eq]
  constructor
  · intro h
    have := List.append_inj h (by simp; omega)
    exact ⟨this.1, by simpa using this.2⟩
  · rintro ⟨h1, h2⟩
    rw [h1, h2]
end Job
end Go.Am
