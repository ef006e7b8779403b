/- SHA-256: states, feeding -/
import Derived.Test.YtbipaoihfpklgaaDoorSha5
namespace Go.Am
set_option linter.unusedSimpArgs false
set_option linter.unusedVariables false
attribute [local congr] bnd_congr kCond_congr kGd_congr kPick_congr kCall_congr kIdx_congr kSlice_congr kLoop_congr cond_congr' aBin_congr aBounds_congr aApp_congr aCopy_congr kFn_congr
namespace Job
open Go.Am.F
set_option maxRecDepth 10000
structure St where
  h : List (BitVec 32)
  rest : List (BitVec 8)
  n : BitVec 64
def stD (s : St) : D := .agg S2 [.agg (.ar 8 L32) (us s.h), .agg (.ar 64 L8) (bs s.rest), .raw (u64 s.n)]
theorem stD_inj (x y : St) (h : stD x = stD y) : x = y := by
  obtain ⟨a, b, c⟩ := x
  obtain ⟨a', b', c'⟩ := y
  simp only [stD, D.agg.injEq, List.cons.injEq, true_and, and_true, D.raw.injEq] at h
  obtain ⟨h1, h2, h3⟩ := h
  rw [us_inj h1, bs_inj h2, u64_inj.1 h3]
def St.ok (s : St) : Bool := decide (s.h.length = 8) && decide (s.rest.length = 64)
def zero64 : List (BitVec 8) := List.replicate 64 0#8
def feed1 (s : St) (b : BitVec 8) : St :=
  if s.n.toNat % 64 + 1 = 64 then ⟨pressS s.h (s.rest.set (s.n.toNat % 64) b), zero64, s.n + 1#64⟩ else ⟨s.h, s.rest.set (s.n.toNat % 64) b, s.n + 1#64⟩
def feed (s : St) (p : List (BitVec 8)) : St := p.foldl feed1 s
theorem feed_app (s : St) (p q : List (BitVec 8)) : feed s (p ++ q) = feed (feed s p) q := List.foldl_append
theorem feed_nil (s : St) : feed s [] = s := rfl
theorem feed1_ok (s : St) (b : BitVec 8) (h : s.ok = true) : (feed1 s b).ok = true := by
  simp only [St.ok, Bool.and_eq_true, decide_eq_true_eq] at h
  unfold feed1
  split
  · simp [St.ok, press_len _ _ h.1, zero64]
  · simp [St.ok, h.1, h.2]
theorem feed_ok (p : List (BitVec 8)) : ∀ (s : St), s.ok = true → (feed s p).ok = true := by
  induction p with
  | nil => exact fun s h => h
  | cons b p ih => exact fun s h => ih _ (feed1_ok s b h)
theorem feed_n (p : List (BitVec 8)) : ∀ (s : St), (feed s p).n = s.n + BitVec.ofNat 64 p.length := by
  induction p with
  | nil => intro s; simp [feed]
  | cons b p ih =>
    intro s
    have : (feed1 s b).n = s.n + 1#64 := by unfold feed1; split <;> rfl
    show (feed (feed1 s b) p).n = _
    rw [ih, this]
    apply BitVec.eq_of_toNat_eq
    simp only [BitVec.toNat_add, BitVec.toNat_ofNat, List.length_cons]
    omega
theorem at_add (n : BitVec 64) (j : Nat) (h : n.toNat % 64 + j < 64) : (n + BitVec.ofNat 64 j).toNat % 64 = n.toNat % 64 + j := by
  simp only [BitVec.toNat_add, BitVec.toNat_ofNat]
  omega
theorem splice_snoc (l x : List (BitVec 8)) (o : Nat) (b : BitVec 8) (h : o + x.length < l.length) : (splice l o x).set (o + x.length) b = splice l o (x ++ [b]) := by
  unfold splice
  have e1 : l.drop (o + x.length) = l.getD (o + x.length) 0#8 :: l.drop (o + x.length + 1) := by
    rw [List.drop_eq_getElem_cons h]; simp [List.getD, h]
  have e2 : (l.take o ++ x).length = o + x.length := by simp; omega
  rw [List.set_append_right _ _ (by omega), e2, Nat.sub_self, e1]
  simp [Nat.add_assoc]
theorem splice_nil (l : List (BitVec 8)) (o : Nat) : splice l o [] = l := by simp [splice]
theorem feed_part (s : St) (hs : s.rest.length = 64) : ∀ (j : Nat) (x : List (BitVec 8)), x.length = j → s.n.toNat % 64 + j < 64 → feed s x = ⟨s.h, splice s.rest (s.n.toNat % 64) x, s.n + BitVec.ofNat 64 j⟩
  | 0, x, hx, h => by
    have : x = [] := List.eq_nil_of_length_eq_zero hx
    subst this
    obtain ⟨a, b, c⟩ := s
    simp [feed, splice_nil]
  | j + 1, x, hx, h => by
    obtain ⟨y, b, rfl⟩ : ∃ y b, x = y ++ [b] := ⟨x.dropLast, x.getLast (by intro e; subst e; simp at hx), (List.dropLast_concat_getLast _).symm⟩
    have hy : y.length = j := by simpa using hx
    rw [feed_app, feed_part s hs j y hy (by omega)]
    have ha := at_add s.n j (by omega)
    show feed1 _ b = _
    unfold feed1
    simp only [ha]
    rw [if_neg (by omega)]
    have hl := splice_snoc s.rest y (s.n.toNat % 64) b (by omega)
    rw [hy] at hl
    rw [hl]
    congr 1
    apply BitVec.eq_of_toNat_eq
    simp only [BitVec.toNat_add, BitVec.toNat_ofNat]
    omega
theorem feed_full (s : St) (hs : s.rest.length = 64) (x : List (BitVec 8)) (h : s.n.toNat % 64 + x.length = 64) : feed s x = ⟨pressS s.h (splice s.rest (s.n.toNat % 64) x), zero64, s.n + BitVec.ofNat 64 x.length⟩ := by
  have hlt : s.n.toNat % 64 < 64 := Nat.mod_lt _ (by decide)
  obtain ⟨y, b, rfl⟩ : ∃ y b, x = y ++ [b] := ⟨x.dropLast, x.getLast (by intro e; subst e; simp at h; omega), (List.dropLast_concat_getLast _).symm⟩
  simp only [List.length_append, List.length_cons, List.length_nil] at h
  rw [feed_app, feed_part s hs y.length y rfl (by omega)]
  have ha := at_add s.n y.length (by omega)
  show feed1 _ b = _
  unfold feed1
  simp only [ha]
  rw [if_pos (by omega)]
  have hl := splice_snoc s.rest y (s.n.toNat % 64) b (by omega)
  rw [hl]
  congr 1
  apply BitVec.eq_of_toNat_eq
  simp only [BitVec.toNat_add, BitVec.toNat_ofNat, List.length_append, List.length_cons, List.length_nil]
  omega
theorem kPress (rows : Rows) (k : D → Rows → Prop) (h : List (BitVec 32)) (b : List (BitVec 8)) (hh : h.length = 8) (hb : b.length = 64) : kCall fPress rows k [.agg (.ar 8 L32) (us h), .agg (.ar 64 L8) (bs b)] = k (.agg (.ar 8 L32) (us (pressS h b))) rows := by
  refine (kCall_val (by simp [hasRefL, hasRef, Sh.pure]) (r := (h8D (pressS h b), [])) ?_).trans ?_
  · exact fn2_eq (rdOf_eq h8D_inj h) (rdOf_eq b64D_inj b) (by simp [hh, hb])
  · simp [shift, shiftRows, h8D, Sh.pure]
noncomputable def fFeed : Fn := fn2 (rdOf stD) rdBs (fun s _ => s.ok) fun s p => (stD (feed s p), [])
theorem feed_meets (C : Ctx) (hC : CtxOK C P) (hp : C.fn 38 = some fPress) : Meets C.glob P 33 (Fn.run fFeed) := by
  refine fn_meetsN (m_sha_State_Feed C hC) fun ds rows r h => ?_
  obtain ⟨d, e, s0, p0, rfl, rfl, hd, he, hok, rfl⟩ := fn2_some h
  cases rdOf_some hd
  obtain ⟨x0, hx⟩ := rdBs_nrm he
  refine ⟨rfl, _, .cons (.refl _) (.cons hx .nil), afun_mk rfl ?_⟩
  clear h hd he hx
  unfold a_sha_State_Feed r_sha_State_Feed
  simp only [stD, ↓amD, amU, Nat.reduceBEq, Nat.reduceAdd, Nat.reduceSub, Nat.reduceMul, Nat.reduceMod, Nat.reducePow, Nat.reduceLT, Nat.reduceDiv, Int.reduceToNat, BitVec.reduceToNat, zipEnv, Int.reduceLE, Int.reduceLT, Int.reduceNeg, BitVec.reduceEq, Int.reduceAdd, Int.reduceSub, Int.reduceMul, Nat.reduceLeDiff, Int.reduceEq]
  refine kLoop_inv (fun m env rows => ∃ (s : St) (q : List (BitVec 8)) (ex : Bool) (z : D), m = q.length ∧ s.ok = true ∧ feed s q = feed s0 p0 ∧ has env [(1, .lst L8 (bs q) ex), (2, .ptr S2 0 [0]), (4, .ptr S2 1 [0])] ∧
    rows = [some ⟨S2, [.agg S2 [.agg (.ar 8 L32) (us s.h), .agg (.ar 64 L8) (bs s.rest), .raw (u64 s.n)]]⟩, some ⟨S2, [z]⟩]) ?_ p0.length ⟨s0, p0, x0, _, rfl, hok, rfl, ?_, rfl⟩
  · rintro m env rows ⟨s, q, ex, z, rfl, hs, hf, hh, rfl⟩ R hR
    simp only [has] at hh
    obtain ⟨h1, h2, h4, -⟩ := hh
    have hs' := hs
    simp only [St.ok, Bool.and_eq_true, decide_eq_true_eq] at hs'
    obtain ⟨hs1, hs2⟩ := hs'
    by_cases hq : 0 < q.length
    · have e0 : ((0 : Int) < (q.length : Int)) = True := eq_true (by omega)
      have hlt : s.n.toNat % 64 < 64 := Nat.mod_lt _ (by decide)
      have m64 : (s.n % 64#64).toNat = s.n.toNat % 64 := by rw [BitVec.toNat_umod]; rfl
      generalize ha : s.n.toNat % 64 = at_ at *
      have e1 : wz (at_ : Int) = at_ := wz_id (by omega)
      have e2 : ((0 : Int) ≤ (at_ : Int)) = True := eq_true (by omega)
      have e3 : ((at_ : Int) ≤ 64) = True := eq_true (by omega)
      have en : (64#64 : BitVec 64) ≠ 0 := by decide
      obtain ⟨k, hk⟩ : ∃ k, min q.length (64 - at_) = k := ⟨_, rfl⟩
      simp only [↓amD, amU, Nat.reduceBEq, Nat.reduceAdd, Nat.reduceSub, Nat.reduceMul, Nat.reduceMod, Nat.reducePow, Nat.reduceLT, Nat.reduceDiv, Int.reduceToNat, BitVec.reduceToNat, zipEnv, Int.reduceLE, Int.reduceLT, Int.reduceNeg, BitVec.reduceEq, Int.reduceAdd, Int.reduceSub, Int.reduceMul, Nat.reduceLeDiff, Int.reduceEq, h1, h2, h4, e0, e1, e2, e3, m64, en, bs_len, decide_true]
      refine Eq.mpr (copy_arr (p := [1]) (u := .ar 64 L8) (l := s.rest) rfl rfl (by omega) rfl) ?_
      rw [hk]
      have hk1 : k ≤ q.length := by omega
      have hk2 : at_ + k ≤ 64 := by omega
      have hk3 : 0 < k := by omega
      have htl : (q.take k).length = k := by rw [List.length_take]; omega
      have hspl : (splice s.rest at_ (q.take k)).length = 64 := by
        rw [← bs_len, ← bs_splice, splice_len (by rw [bs_len, bs_len]; omega), bs_len, hs2]
      have hqq : q.take k ++ q.drop k = q := List.take_append_drop k q
      have f1 : ((0 : Int) ≤ (k : Int)) = True := eq_true (by omega)
      have f2 : ((k : Int) ≤ (q.length : Int)) = True := eq_true (by omega)
      have f3 : (q.drop k).take (q.length - k) = q.drop k := List.take_of_length_le (by rw [List.length_drop]; omega)
      have f4 : wz ((at_ : Int) + (k : Int)) = ((at_ + k : Nat) : Int) := by rw [wz_id (by omega)]; omega
      have f5 : BitVec.ofInt 64 (k : Int) = BitVec.ofNat 64 k := rfl
      by_cases hfull : at_ + k = 64
      · have f6 : ((at_ + k : Nat) : Int) = 64 := by omega
        have hnew := feed_full s hs2 (q.take k) (by rw [ha, htl]; exact hfull)
        rw [ha, htl] at hnew
        have hfin : feed (feed s (q.take k)) (q.drop k) = feed s0 p0 := by rw [← feed_app, hqq, hf]
        have hok' := feed_ok (q.take k) s hs
        rw [hnew] at hfin hok'
        simp only [↓amD, amU, Nat.reduceBEq, Nat.reduceAdd, Nat.reduceSub, Nat.reduceMul, Nat.reduceMod, Nat.reducePow, Nat.reduceLT, Nat.reduceDiv, Int.reduceToNat, BitVec.reduceToNat, zipEnv, Int.reduceLE, Int.reduceLT, Int.reduceNeg, BitVec.reduceEq, Int.reduceAdd, Int.reduceSub, Int.reduceMul, Nat.reduceLeDiff, Int.reduceEq, h1, h2, h4, bs_len, bs_drop, bs_take, f1, f2, f3, f4, f5, f6, hp, kPress _ _ _ _ hs1 hspl, decide_true]
        refine hR _ _ _ ?_ ⟨_, q.drop k, exOf none q.length q.length q.length ex, z, rfl, hok', hfin, ?_, rfl⟩
        · rw [List.length_drop]; omega
        · simp only [has, ↓amD, amU, Nat.reduceBEq, Nat.reduceAdd, Nat.reduceSub, Nat.reduceMul, Nat.reduceMod, Nat.reducePow, Nat.reduceLT, Nat.reduceDiv, Int.reduceToNat, BitVec.reduceToNat, zipEnv, Int.reduceLE, Int.reduceLT, Int.reduceNeg, BitVec.reduceEq, Int.reduceAdd, Int.reduceSub, Int.reduceMul, Nat.reduceLeDiff, Int.reduceEq, h2, h4]
      · have f6 : (((at_ + k : Nat) : Int) = 64) = False := eq_false (by omega)
        have hnew := feed_part s hs2 k (q.take k) htl (by rw [ha]; omega)
        rw [ha] at hnew
        have hfin : feed (feed s (q.take k)) (q.drop k) = feed s0 p0 := by rw [← feed_app, hqq, hf]
        have hok' := feed_ok (q.take k) s hs
        rw [hnew] at hfin hok'
        simp only [↓amD, amU, Nat.reduceBEq, Nat.reduceAdd, Nat.reduceSub, Nat.reduceMul, Nat.reduceMod, Nat.reducePow, Nat.reduceLT, Nat.reduceDiv, Int.reduceToNat, BitVec.reduceToNat, zipEnv, Int.reduceLE, Int.reduceLT, Int.reduceNeg, BitVec.reduceEq, Int.reduceAdd, Int.reduceSub, Int.reduceMul, Nat.reduceLeDiff, Int.reduceEq, h1, h2, h4, bs_len, bs_drop, bs_take, f1, f2, f3, f4, f5, f6, decide_false]
        refine hR _ _ _ ?_ ⟨_, q.drop k, exOf none q.length q.length q.length ex, z, rfl, hok', hfin, ?_, rfl⟩
        · rw [List.length_drop]; omega
        · simp only [has, ↓amD, amU, Nat.reduceBEq, Nat.reduceAdd, Nat.reduceSub, Nat.reduceMul, Nat.reduceMod, Nat.reducePow, Nat.reduceLT, Nat.reduceDiv, Int.reduceToNat, BitVec.reduceToNat, zipEnv, Int.reduceLE, Int.reduceLT, Int.reduceNeg, BitVec.reduceEq, Int.reduceAdd, Int.reduceSub, Int.reduceMul, Nat.reduceLeDiff, Int.reduceEq, h2, h4]
    · have e0 : ((0 : Int) < (q.length : Int)) = False := eq_false (by omega)
      have hq0 : q = [] := List.eq_nil_of_length_eq_zero (by omega)
      subst hq0
      simp only [↓amD, amU, Nat.reduceBEq, Nat.reduceAdd, Nat.reduceSub, Nat.reduceMul, Nat.reduceMod, Nat.reducePow, Nat.reduceLT, Nat.reduceDiv, Int.reduceToNat, BitVec.reduceToNat, zipEnv, Int.reduceLE, Int.reduceLT, Int.reduceNeg, BitVec.reduceEq, Int.reduceAdd, Int.reduceSub, Int.reduceMul, Nat.reduceLeDiff, Int.reduceEq, h1, h2, h4, e0, bs_len, decide_false]
      rw [← hf]
      exact .val _ rfl
  · simp only [has, ↓amD, amU, Nat.reduceBEq, Nat.reduceAdd, Nat.reduceSub, Nat.reduceMul, Nat.reduceMod, Nat.reducePow, Nat.reduceLT, Nat.reduceDiv, Int.reduceToNat, BitVec.reduceToNat, zipEnv, Int.reduceLE, Int.reduceLT, Int.reduceNeg, BitVec.reduceEq, Int.reduceAdd, Int.reduceSub, Int.reduceMul, Nat.reduceLeDiff, Int.reduceEq]
end Job
end Go.Am
