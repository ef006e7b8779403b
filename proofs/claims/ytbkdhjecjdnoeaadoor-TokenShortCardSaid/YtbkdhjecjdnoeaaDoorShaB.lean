/- SHA-256: states, feeding -/
import Derived.Test.YtbkdhjecjdnoeaaDoorShaA
namespace Go.Am
set_option linter.unusedSimpArgs false
set_option linter.unusedVariables false
attribute [local congr] bnd_congr kCond_congr kGd_congr kPick_congr kCall_congr kIdx_congr kSlice_congr kLoop_congr cond_congr' aBin_congr aBounds_congr aApp_congr aCopy_congr kFn_congr
namespace Job
open Go.Am.F
set_option maxRecDepth 10000
structure St where
  h : List (BitVec 32)
  rest : List (BitVec 8)
  n : BitVec 64
def stD (s : St) : D := .agg S6 [.agg (.ar 8 L32) (us s.h), .agg (.ar 64 L8) (bs s.rest), .raw (u64 s.n)]
theorem stD_inj (x y : St) (h : stD x = stD y) : x = y := by
  obtain ⟨a, b, c⟩ := x
  obtain ⟨a', b', c'⟩ := y
  simp only [stD, D.agg.injEq, List.cons.injEq, true_and, and_true, D.raw.injEq] at h
  obtain ⟨h1, h2, h3⟩ := h
  rw [us_inj h1, bs_inj h2, u64_inj.1 h3]
def St.ok (s : St) : Bool := decide (s.h.length = 8) && decide (s.rest.length = 64)
def zero64 : List (BitVec 8) := List.replicate 64 0#8
def feed1 (s : St) (b : BitVec 8) : St :=
  if s.n.toNat % 64 + 1 = 64 then ⟨pressS s.h (s.rest.set (s.n.toNat % 64) b), zero64, s.n + 1#64⟩ else ⟨s.h, s.rest.set (s.n.toNat % 64) b, s.n + 1#64⟩
def feed (s : St) (p : List (BitVec 8)) : St := p.foldl feed1 s
theorem feed_app (s : St) (p q : List (BitVec 8)) : feed s (p ++ q) = feed (feed s p) q := List.foldl_append
theorem feed_nil (s : St) : feed s [] = s := rfl
theorem feed1_ok (s : St) (b : BitVec 8) (h : s.ok = true) : (feed1 s b).ok = true := by
  simp only [St.ok, Bool.and_eq_true, decide_eq_true_eq] at h
  unfold feed1
  split
  · simp [St.ok, press_len _ _ h.1, zero64]
  · simp [St.ok, h.1, h.2]
theorem feed_ok (p : List (BitVec 8)) : ∀ (s : St), s.ok = true → (feed s p).ok = true := by
  induction p with
  | nil => exact fun s h => h
  | cons b p ih => exact fun s h => ih _ (feed1_ok s b h)
theorem feed_n (p : List (BitVec 8)) : ∀ (s : St), (feed s p).n = s.n + BitVec.ofNat 64 p.length := by
  induction p with
  | nil => intro s; simp [feed]
  | cons b p ih =>
    intro s
    have : (feed1 s b).n = s.n + 1#64 := by unfold feed1; split <;> rfl
    show (feed (feed1 s b) p).n = _
    rw [ih, this]
    apply BitVec.eq_of_toNat_eq
    simp only [BitVec.toNat_add, BitVec.toNat_ofNat, List.length_cons]
    omega
theorem at_add (n : BitVec 64) (j : Nat) (h : n.toNat % 64 + j < 64) : (n + BitVec.ofNat 64 j).toNat % 64 = n.toNat % 64 + j := by
  simp only [BitVec.toNat_add, BitVec.toNat_ofNat]
  omega
theorem splice_snoc (l x : List (BitVec 8)) (o : Nat) (b : BitVec 8) (h : o + x.length < l.length) : (splice l o x).set (o + x.length) b = splice l o (x ++ [b]) := by
  unfold splice
  have e1 : l.drop (o + x.length) = l.getD (o + x.length) 0#8 :: l.drop (o + x.length + 1) := by
    rw [List.drop_eq_getElem_cons h]; simp [List.getD, h]
  have e2 : (l.take o ++ x).length = o + x.length := by simp; omega
  rw [List.set_append_right _ _ (by omega), e2, Nat.sub_self, e1]
  simp [Nat.add_assoc]
theorem splice_nil (l : List (BitVec 8)) (o : Nat) : splice l o [] = l := by simp [splice]
theorem feed_part (s : St) (hs : s.rest.length = 64) : ∀ (j : Nat) (x : List (BitVec 8)), x.length = j → s.n.toNat % 64 + j < 64 → feed s x = ⟨s.h, splice s.rest (s.n.toNat % 64) x, s.n + BitVec.ofNat 64 j⟩
  | 0, x, hx, h => by
    have : x = [] := List.eq_nil_of_length_eq_zero hx
    subst this
    obtain ⟨a, b, c⟩ := s
    simp [feed, splice_nil]
  | j + 1, x, hx, h => by
    obtain ⟨y, b, rfl⟩ : ∃ y b, x = y ++ [b] := ⟨x.dropLast, x.getLast (by intro e; subst e; simp at hx), (List.dropLast_concat_getLast _).symm⟩
    have hy : y.length = j := by simpa using hx
    rw [feed_app, feed_part s hs j y hy (by omega)]
    have ha := at_add s.n j (by omega)
    show feed1 _ b = _
    unfold feed1
    simp only [ha]
    rw [if_neg (by omega)]
    have hl := splice_snoc s.rest y (s.n.toNat % 64) b (by omega)
    rw [hy] at hl
    rw [hl]
    congr 1
    apply BitVec.eq_of_toNat_eq
    simp only [BitVec.toNat_add, BitVec.toNat_ofNat]
    omega
theorem feed_full (s : St) (hs : s.rest.length = 64) (x : List (BitVec 8)) (h : s.n.toNat % 64 + x.length = 64) : feed s x = ⟨pressS s.h (splice s.rest (s.n.toNat % 64) x), zero64, s.n + BitVec.ofNat 64 x.length⟩ := by
  have hlt : s.n.toNat % 64 < 64 := Nat.mod_lt _ (by decide)
  obtain ⟨y, b, rfl⟩ : ∃ y b, x = y ++ [b] := ⟨x.dropLast, x.getLast (by intro e; subst e; simp at h; omega), (List.dropLast_concat_getLast _).symm⟩
  simp only [List.length_append, List.length_cons, List.length_nil] at h
  rw [feed_app, feed_part s hs y.length y rfl (by omega)]
  have ha := at_add s.n y.length (by omega)
  show feed1 _ b = _
  unfold feed1
  simp only [ha]
  rw [if_pos (by omega)]
  have hl := splice_snoc s.rest y (s.n.toNat % 64) b (by omega)
  rw [hl]
  congr 1
  apply BitVec.eq_of_toNat_eq
  simp only [BitVec.toNat_add, BitVec.toNat_ofNat, List.length_append, List.length_cons, List.length_nil]
  omega
theorem kPress (rows : Rows) (k : D → Rows → Prop) (h : List (BitVec 32)) (b : List (BitVec 8)) (hh : h.length = 8) (hb : b.length = 64) : kCall fPress rows k [.agg (.ar 8 L32) (us h), .agg (.ar 64 L8) (bs b)] = k (.agg (.ar 8 L32) (us (pressS h b))) rows := by
  refine (kCall_val (by simp [hasRefL, hasRef, Sh.pure]) (r := (h8D (pressS h b), [])) ?_).trans ?_
  · exact fn2_eq (rdOf_eq h8D_inj h) (rdOf_eq b64D_inj b) (by simp [hh, hb])
  · simp [shift, shiftRows, h8D, Sh.pure]
noncomputable def fFeed : Fn := fn2 (rdOf stD) rdBs (fun s _ => s.ok) fun s p => (stD (feed s p), [])
theorem feed_meets (C : Ctx) (hC : CtxOK C P) (hp : C.fn 44 = some fPress) : Meets C.glob P 38 (Fn.run fFeed) := by
  refine fn_meetsN (m_sha_State_Feed C hC) fun ds rows r h => ?_
  obtain ⟨d, e, s0, p0, rfl, rfl, hd, he, hok, rfl⟩ := fn2_some h
  cases rdOf_some hd
  obtain ⟨x0, hx⟩ := rdBs_nrm he
  refine ⟨rfl, _, .cons (.refl _) (.cons hx .nil), afun_mk rfl ?_⟩
  clear h hd he hx
  unfold a_sha_State_Feed r_sha_State_Feed
  simp only [stD, ↓amD, amU, Nat.reduceBEq, Nat.reduceAdd, Nat.reduceSub, Nat.reduceMul, Nat.reduceMod, Nat.reducePow, Nat.reduceLT, Nat.reduceDiv, Int.reduceToNat, BitVec.reduceToNat, zipEnv, Int.reduceLE, Int.reduceLT, Int.reduceNeg, BitVec.reduceEq, Int.reduceAdd, Int.reduceSub, Int.reduceMul, Nat.reduceLeDiff, Int.reduceEq]
  refine kLoop_inv (fun m env rows => ∃ (s : St) (q : List (BitVec 8)) (ex : Bool) (z : D), m = q.length ∧ s.ok = true ∧ feed s q = feed s0 p0 ∧ has env [(1, .lst L8 (bs q) ex), (2, .ptr S6 0 [0]), (4, .ptr S6 1 [0])] ∧
    rows = [some ⟨S6, [.agg S6 [.agg (.ar 8 L32) (us s.h), .agg (.ar 64 L8) (bs s.rest), .raw (u64 s.n)]]⟩, some ⟨S6, [z]⟩]) ?_ p0.length ⟨s0, p0, x0, _, rfl, hok, rfl, ?_, rfl⟩
  · rintro m env rows ⟨s, q, ex, z, rfl, hs, hf, hh, rfl⟩ R hR
    simp only [has] at hh
    obtain ⟨h1, h2, h4, -⟩ := hh
    have hs' := hs
    simp only [St.ok, Bool.and_eq_true, decide_eq_true_eq] at hs'
    obtain ⟨hs1, hs2⟩ := hs'
    by_cases hq : 0 < q.length
    · have e0 : ((0 : Int) < (q.length : Int)) = True := eq_true (by omega)
      have hlt : s.n.toNat % 64 < 64 := Nat.mod_lt _ (by decide)
      have m64 : (s.n % 64#64).toNat = s.n.toNat % 64 := by rw [BitVec.toNat_umod]; rfl
      generalize ha : s.n.toNat % 64 = at_ at *
      have e1 : wz (at_ : Int) = at_ := wz_id (by omega)
      have e2 : ((0 : Int) ≤ (at_ : Int)) = True := eq_true (by omega)
      have e3 : ((at_ : Int) ≤ 64) = True := eq_true (by omega)
      have en : (64#64 : BitVec 64) ≠ 0 := by decide
      obtain ⟨k, hk⟩ : ∃ k, min q.length (64 - at_) = k := ⟨_, rfl⟩
      simp only [↓amD, amU, Nat.reduceBEq, Nat.reduceAdd, Nat.reduceSub, Nat.reduceMul, Nat.reduceMod, Nat.reducePow, Nat.reduceLT, Nat.reduceDiv, Int.reduceToNat, BitVec.reduceToNat, zipEnv, Int.reduceLE, Int.reduceLT, Int.reduceNeg, BitVec.reduceEq, Int.reduceAdd, Int.reduceSub, Int.reduceMul, Nat.reduceLeDiff, Int.reduceEq, h1, h2, h4, e0, e1, e2, e3, m64, en, bs_len, decide_true]
      refine Eq.mpr (copy_arr (p := [1]) (u := .ar 64 L8) (l := s.rest) rfl rfl (by omega) rfl) ?_
      rw [hk]
      have hk1 : k ≤ q.length := by omega
      have hk2 : at_ + k ≤ 64 := by omega
      have hk3 : 0 < k := by omega
      have htl : (q.take k).length = k := by rw [List.length_take]; omega
      have hspl : (splice s.rest at_ (q.take k)).length = 64 := by
        rw [← bs_len, ← bs_splice, splice_len (by rw [bs_len, bs_len]; omega), bs_len, hs2]
      have hqq : q.take k ++ q.drop k = q := List.take_append_drop k q
      have f1 : ((0 : Int) ≤ (k : Int)) = True := eq_true (by omega)
      have f2 : ((k : Int) ≤ (q.length : Int)) = True := eq_true (by omega)
      have f3 : (q.drop k).take (q.length - k) = q.drop k := List.take_of_length_le (by rw [List.length_drop]; omega)
      have f4 : wz ((at_ : Int) + (k : Int)) = ((at_ + k : Nat) : Int) := by rw [wz_id (by omega)]; omega
      have f5 : BitVec.ofInt 64 (k : Int) = BitVec.ofNat 64 k := rfl
      by_cases hfull : at_ + k = 64
      · have f6 : ((at_ + k : Nat) : Int) = 64 := by omega
        have hnew := feed_full s hs2 (q.take k) (by rw [ha, htl]; exact hfull)
        rw [ha, htl] at hnew
        have hfin : feed (feed s (q.take k)) (q.drop k) = feed s0 p0 := by rw [← feed_app, hqq, hf]
        have hok' := feed_ok (q.take k) s hs
        rw [hnew] at hfin hok'
        simp only [↓amD, amU, Nat.reduceBEq, Nat.reduceAdd, Nat.reduceSub, Nat.reduceMul, Nat.reduceMod, Nat.reducePow, Nat.reduceLT, Nat.reduceDiv, Int.reduceToNat, BitVec.reduceToNat, zipEnv, Int.reduceLE, Int.reduceLT, Int.reduceNeg, BitVec.reduceEq, Int.reduceAdd, Int.reduceSub, Int.reduceMul, Nat.reduceLeDiff, Int.reduceEq, h1, h2, h4, bs_len, bs_drop, bs_take, f1, f2, f3, f4, f5, f6, hp, kPress _ _ _ _ hs1 hspl, decide_true]
        refine hR _ _ _ ?_ ⟨_, q.drop k, exOf none q.length q.length q.length ex, z, rfl, hok', hfin, ?_, rfl⟩
        · rw [List.length_drop]; omega
        · simp only [has, ↓amD, amU, Nat.reduceBEq, Nat.reduceAdd, Nat.reduceSub, Nat.reduceMul, Nat.reduceMod, Nat.reducePow, Nat.reduceLT, Nat.reduceDiv, Int.reduceToNat, BitVec.reduceToNat, zipEnv, Int.reduceLE, Int.reduceLT, Int.reduceNeg, BitVec.reduceEq, Int.reduceAdd, Int.reduceSub, Int.reduceMul, Nat.reduceLeDiff, Int.reduceEq, h2, h4]
      · have f6 : (((at_ + k : Nat) : Int) = 64) = False := eq_false (by omega)
        have hnew := feed_part s hs2 k (q.take k) htl (by rw [ha]; omega)
        rw [ha] at hnew
        have hfin : feed (feed s (q.take k)) (q.drop k) = feed s0 p0 := by rw [← feed_app, hqq, hf]
        have hok' := feed_ok (q.take k) s hs
        rw [hnew] at hfin hok'
        simp only [↓amD, amU, Nat.reduceBEq, Nat.reduceAdd, Nat.reduceSub, Nat.reduceMul, Nat.reduceMod, Nat.reducePow, Nat.reduceLT, Nat.reduceDiv, Int.reduceToNat, BitVec.reduceToNat, zipEnv, Int.reduceLE, Int.reduceLT, Int.reduceNeg, BitVec.reduceEq, Int.reduceAdd, Int.reduceSub, Int.reduceMul, Nat.reduceLeDiff, Int.reduceEq, h1, h2, h4, bs_len, bs_drop, bs_take, f1, f2, f3, f4, f5, f6, decide_false]
        refine hR _ _ _ ?_ ⟨_, q.drop k, exOf none q.length q.length q.length ex, z, rfl, hok', hfin, ?_, rfl⟩
        · rw [List.length_drop]; omega
        · simp only [has, ↓amD, amU, Nat.reduceBEq, Nat.reduceAdd, Nat.reduceSub, Nat.reduceMul, Nat.reduceMod, Nat.reducePow, Nat.reduceLT, Nat.reduceDiv, Int.reduceToNat, BitVec.reduceToNat, zipEnv, Int.reduceLE, Int.reduceLT, Int.reduceNeg, BitVec.reduceEq, Int.reduceAdd, Int.reduceSub, Int.reduceMul, Nat.reduceLeDiff, Int.reduceEq, h2, h4]
    · have e0 : ((0 : Int) < (q.length : Int)) = False := eq_false (by omega)
      have hq0 : q = [] := List.eq_nil_of_length_eq_zero (by omega)
      subst hq0
      simp only [↓amD, amU, Nat.reduceBEq, Nat.reduceAdd, Nat.reduceSub, Nat.reduceMul, Nat.reduceMod, Nat.reducePow, Nat.reduceLT, Nat.reduceDiv, Int.reduceToNat, BitVec.reduceToNat, zipEnv, Int.reduceLE, Int.reduceLT, Int.reduceNeg, BitVec.reduceEq, Int.reduceAdd, Int.reduceSub, Int.reduceMul, Nat.reduceLeDiff, Int.reduceEq, h1, h2, h4, e0, bs_len, decide_false]
      rw [← hf]
      exact .val _ rfl
  · simp only [has, ↓amD, amU, Nat.reduceBEq, Nat.reduceAdd, Nat.reduceSub, Nat.reduceMul, Nat.reduceMod, Nat.reducePow, Nat.reduceLT, Nat.reduceDiv, Int.reduceToNat, BitVec.reduceToNat, zipEnv, Int.reduceLE, Int.reduceLT, Int.reduceNeg, BitVec.reduceEq, Int.reduceAdd, Int.reduceSub, Int.reduceMul, Nat.reduceLeDiff, Int.reduceEq]
end Job
end Go.Am
namespace Go.Am
set_option linter.unusedSimpArgs false
set_option linter.unusedVariables false
attribute [local congr] bnd_congr kCond_congr kGd_congr kPick_congr kCall_congr kIdx_congr kSlice_congr kLoop_congr cond_congr' aBin_congr aBounds_congr aApp_congr aCopy_congr kFn_congr
namespace Job
open Go.Am.F
set_option maxRecDepth 10000
def rdNil : D → Option Unit
  | .raw (.slice none 0 0) => some ()
  | _ => none
theorem rdNil_some {d : D} {u : Unit} (h : rdNil d = some u) : d = .raw (.slice none 0 0) := by
  unfold rdNil at h
  split at h
  · rfl
  · cases h
theorem copy_row {rows : Rows} {r off len : Nat} {ex : Bool} {l src : List (BitVec 8)} {k : D → Rows → Prop} (hl : live rows r = some ⟨L8, bs l⟩) (hn : off + len ≤ l.length) :
    aCopy rows L8 (.sl L8 r [] off len ex) (bs src) k = k (.raw (it ((min src.length len : Nat) : Int))) (rows.set r (some ⟨L8, bs (splice l off (src.take (min src.length len)))⟩)) := by
  unfold aCopy
  simp only [hl, bnd, bs_len, bs_take, bs_splice, hn, true_and]
  rfl
def fBJoin : Fn := fn2 rdBss rdNil (fun ls _ => Nat.ble ls.length most && Nat.ble ls.flatten.length most) fun ls _ => outBs ls.flatten false
theorem take_flat (ls : List (List (BitVec 8))) (i : Nat) : ((ls.take i).flatten).length ≤ ls.flatten.length := by
  have : ls = ls.take i ++ ls.drop i := (List.take_append_drop _ _).symm
  calc ((ls.take i).flatten).length ≤ ((ls.take i ++ ls.drop i).flatten).length := by simp only [List.flatten_append, List.length_append]; omega
    _ = ls.flatten.length := by rw [← this]
theorem take_flat_succ (ls : List (List (BitVec 8))) (i : Nat) (h : i < ls.length) : (ls.take (i + 1)).flatten = (ls.take i).flatten ++ ls[i] := by
  rw [List.take_succ_eq_append_getElem h, List.flatten_append, List.flatten_cons, List.flatten_nil, List.append_nil]
theorem splice_at (acc junk x : List (BitVec 8)) (h : x.length ≤ junk.length) : splice (acc ++ junk) acc.length x = (acc ++ x) ++ junk.drop x.length := by
  unfold splice
  have h1 : (acc ++ junk).take acc.length = acc := by simp
  have h2 : (acc ++ junk).drop (acc.length + x.length) = junk.drop x.length := by
    rw [List.drop_append, List.drop_eq_nil_of_le (by omega), List.nil_append]; congr 1; omega
  rw [h1, h2]
end Job
end Go.Am
namespace Go.Am
set_option linter.unusedSimpArgs false
set_option linter.unusedVariables false
attribute [local congr] bnd_congr kCond_congr kGd_congr kPick_congr kCall_congr kIdx_congr kSlice_congr kLoop_congr cond_congr' aBin_congr aBounds_congr aApp_congr aCopy_congr kFn_congr
namespace Job
open Go.Am.F
set_option maxRecDepth 10000
def st0 : St := ⟨firstL, zero64, 0#64⟩
def sumSt (s : St) : List (BitVec 8) := digS (feed s (padS s.n)).h
def sumS (p : List (BitVec 8)) : List (BitVec 8) := sumSt (feed st0 p)
theorem st0_ok : st0.ok = true := rfl
def fNew : Fn
  | [], [] => some (stD st0, [])
  | _, _ => none
theorem new_ok (C : Ctx) (hC : CtxOK C P) (hg : C.glob 1 = some (h8D firstL)) : Meets C.glob P 41 (Fn.run fNew) := by
  refine fn_meets (m_sha_New C hC) fun ds rows r h => ?_
  unfold fNew at h
  split at h
  · cases h
    refine ⟨rfl, afun_mk rfl ?_⟩
    unfold a_sha_New r_sha_New
    simp only [↓amD, amU, Nat.reduceBEq, Nat.reduceAdd, Nat.reduceSub, Nat.reduceMul, Nat.reduceMod, Nat.reducePow, Nat.reduceLT, Nat.reduceDiv, Int.reduceToNat, BitVec.reduceToNat, zipEnv, Int.reduceLE, Int.reduceLT, Int.reduceNeg, BitVec.reduceEq, Int.reduceAdd, Int.reduceSub, Int.reduceMul, Nat.reduceLeDiff, Int.reduceEq, hg, h8D]
    exact .val _ rfl
  · cases h
theorem kNew (rows : Rows) (k : D → Rows → Prop) : kCall fNew rows k [] = k (stD st0) rows := by
  refine (kCall_val rfl (r := (stD st0, [])) rfl).trans ?_
  simp [shift, shiftRows, stD, Sh.pure]
theorem st_ok {s : St} (h : s.ok = true) : s.h.length = 8 ∧ s.rest.length = 64 := by
  simpa [St.ok] using h
theorem kFeed (rows : Rows) (k : D → Rows → Prop) (s : St) (d : D) (p : List (BitVec 8)) (h : BsIn rows d p) (hs : s.ok = true) : kCall fFeed rows k [stD s, d] = k (stD (feed s p)) rows := by
  obtain ⟨⟨d', hd', hb⟩, hn⟩ := h
  have e1 : ∀ d2, rdBs d2 = some p → fFeed [stD s, d2] [] = some (stD (feed s p), []) := fun d2 h2 => fn2_eq (rdOf_eq stD_inj s) h2 hs
  have hr : hasRef (stD s) = false := by simp [stD, hasRef, Sh.pure]
  have hv : view rows 9 (stD s) = some (stD s) := by simp [stD, view, Sh.pure]
  unfold kCall
  have h1 : hasRefL [stD s, d] = hasRef d := by simp [hasRefL, hr]
  rw [h1]
  have hsh : shift rows.length (stD (feed s p)) = stD (feed s p) := by simp [stD, shift, Sh.pure]
  have hno : noLst (stD (feed s p)) = true := by simp [stD, noLst, Sh.pure]
  cases hh : hasRef d with
  | true =>
    simp only [forall_const, mapO, hv, hd', bnd, e1 _ hb.rd, hno, noLstRows, Bool.and_self, true_and, hsh, shiftRows, List.append_nil]
    simp
  | false =>
    simp only [forall_const, bnd, e1 _ (hn hh).rd, hsh, shiftRows, List.append_nil]
    simp
noncomputable def fStSum : Fn := fn1 (rdOf stD) (fun s => s.ok) fun s => (d32D (sumSt s), [])
theorem stsum_ok (C : Ctx) (hC : CtxOK C P) (h1 : C.fn 46 = some fPad) (h2 : C.fn 38 = some fFeed) (h3 : C.fn 45 = some fDigest) : Meets C.glob P 39 (Fn.run fStSum) := by
  refine fn_meets (m_sha_State_Sum C hC) fun ds rows r h => ?_
  obtain ⟨d, s, rfl, rfl, hd, hok, rfl⟩ := fn1_some h
  cases rdOf_some hd
  refine ⟨rfl, afun_mk rfl ?_⟩
  clear h hd
  have hok' := feed_ok (padS s.n) s hok
  have e := st_ok hok'
  unfold a_sha_State_Sum r_sha_State_Sum
  have hst : stD s = .agg S6 [.agg (.ar 8 L32) (us s.h), .agg (.ar 64 L8) (bs s.rest), .raw (u64 s.n)] := rfl
  rw [hst]
  simp only [↓amD, amU, Nat.reduceBEq, Nat.reduceAdd, Nat.reduceSub, Nat.reduceMul, Nat.reduceMod, Nat.reducePow, Nat.reduceLT, Nat.reduceDiv, Int.reduceToNat, BitVec.reduceToNat, zipEnv, Int.reduceLE, Int.reduceLT, Int.reduceNeg, BitVec.reduceEq, Int.reduceAdd, Int.reduceSub, Int.reduceMul, Nat.reduceLeDiff, Int.reduceEq, h1, h2, h3, kPad]
  rw [← hst]
  refine Eq.mpr (kFeed _ _ _ _ (padS s.n) (BsIn.own rfl _ rfl) hok) ?_
  simp only [stD, ↓amD, amU, Nat.reduceBEq, Nat.reduceAdd, Nat.reduceSub, Nat.reduceMul, Nat.reduceMod, Nat.reducePow, Nat.reduceLT, Nat.reduceDiv, Int.reduceToNat, BitVec.reduceToNat, zipEnv, Int.reduceLE, Int.reduceLT, Int.reduceNeg, BitVec.reduceEq, Int.reduceAdd, Int.reduceSub, Int.reduceMul, Nat.reduceLeDiff, Int.reduceEq, h1, h2, h3]
  rw [kDigest _ _ _ e.1]
  simp only [↓amD, amU, Nat.reduceBEq, Nat.reduceAdd, Nat.reduceSub, Nat.reduceMul, Nat.reduceMod, Nat.reducePow, Nat.reduceLT, Nat.reduceDiv, Int.reduceToNat, BitVec.reduceToNat, zipEnv, Int.reduceLE, Int.reduceLT, Int.reduceNeg, BitVec.reduceEq, Int.reduceAdd, Int.reduceSub, Int.reduceMul, Nat.reduceLeDiff, Int.reduceEq]
  exact .val _ rfl
theorem kStSum (rows : Rows) (k : D → Rows → Prop) (s : St) (h : s.ok = true) : kCall fStSum rows k [stD s] = k (.agg (.ar 32 L8) (bs (sumSt s))) rows := by
  refine (kCall_val (by simp [hasRefL, hasRef, stD, Sh.pure]) (r := (d32D (sumSt s), [])) ?_).trans ?_
  · exact fn1_eq (rdOf_eq stD_inj s) h
  · simp [shift, shiftRows, d32D, Sh.pure]
noncomputable def fLen : Fn := fn1 (rdOf stD) (fun s => true) fun s => (.raw (u64 s.n), [])
theorem kLen (rows : Rows) (k : D → Rows → Prop) (s : St) : kCall fLen rows k [stD s] = k (.raw (u64 s.n)) rows := by
  refine (kCall_val (by simp [hasRefL, hasRef, stD, Sh.pure]) (r := (.raw (u64 s.n), [])) ?_).trans ?_
  · exact fn1_eq (rdOf_eq stD_inj s) rfl
  · simp [shift, shiftRows]
/-- of parts -/
def fSum : Fn := fn1 rdBss (fun ls => Nat.ble ls.length most && Nat.ble ls.flatten.length most) fun ls => (d32D (sumS ls.flatten), [])
theorem view_bss {rows : Rows} {d : D} {ls : List (List (BitVec 8))} (h : rdBss d = some ls) : rdBss d = some ls := h
end Job
end Go.Am
namespace Go.Am
set_option linter.unusedSimpArgs false
set_option linter.unusedVariables false
attribute [local congr] bnd_congr kCond_congr kGd_congr kPick_congr kCall_congr kIdx_congr kSlice_congr kLoop_congr cond_congr' aBin_congr aBounds_congr aApp_congr aCopy_congr kFn_congr
namespace Job
open Go.Am.F
set_option maxRecDepth 10000
theorem num8 (m : BitVec 64) : numL 8 m = be8 m 8 := by
  have d1 : ∀ x : BitVec 64, x / 256#64 = x >>> 8 := fun x => by
    apply BitVec.eq_of_toNat_eq
    rw [BitVec.toNat_udiv, BitVec.toNat_ushiftRight, Nat.shiftRight_eq_div_pow]; rfl
  have d2 : ∀ x : BitVec 64, (x % 256#64).setWidth 8 = x.setWidth 8 := fun x => by
    apply BitVec.eq_of_toNat_eq
    rw [BitVec.toNat_setWidth, BitVec.toNat_setWidth, BitVec.toNat_umod]
    simp
  have d3 : ∀ (x : BitVec 64) (i j : Nat), (x >>> i) >>> j = x >>> (i + j) := fun x i j => (BitVec.shiftRight_add x i j).symm
  simp only [numL, d1, d2, d3, be8, List.range_succ, List.range_zero, List.nil_append, List.map_append, List.map_cons, List.map_nil, List.cons_append, Nat.reduceAdd, Nat.reduceMul, Nat.reduceSub, BitVec.ushiftRight_zero]
theorem shl3 (n : BitVec 64) : 8#64 * n = n <<< 3 := by
  apply BitVec.eq_of_toNat_eq
  rw [BitVec.toNat_mul, BitVec.toNat_shiftLeft, Nat.shiftLeft_eq]; simp; omega
theorem zerosN_of (L : Nat) (h : L < 18446744073709551616) : zerosN (BitVec.ofNat 64 L) = (119 - L % 64) % 64 := by
  unfold zerosN
  have : (BitVec.ofNat 64 L).toNat = L := by simp; omega
  rw [BitVec.toNat_umod, BitVec.toNat_sub, BitVec.toNat_umod, this]
  simp; omega
def textS (p : List (BitVec 8)) : List (BitVec 8) := p ++ padS (BitVec.ofNat 64 p.length)
def blkH (p : List (BitVec 8)) (j : Nat) : List (BitVec 32) := (feed st0 ((textS p).take (64 * j))).h
theorem text_len (p : List (BitVec 8)) (h : p.length < 18446744073709551616) : (textS p).length % 64 = 0 ∧ (textS p).length ≤ p.length + 72 := by
  have hz := zerosN_of p.length h
  rw [textS, List.length_append, padS_len, hz]
  omega
theorem feed_blk (t : List (BitVec 8)) : ∀ (j : Nat), 64 * j ≤ t.length → (feed st0 (t.take (64 * j))).rest = zero64 ∧ (feed st0 (t.take (64 * j))).n = BitVec.ofNat 64 (64 * j) ∧ (feed st0 (t.take (64 * j))).h.length = 8
  | 0, _ => ⟨rfl, rfl, rfl⟩
  | j + 1, h => by
    obtain ⟨h1, h2, h3⟩ := feed_blk t j (by omega)
    have e : t.take (64 * (j + 1)) = t.take (64 * j) ++ (t.drop (64 * j)).take 64 := by
      rw [show 64 * (j + 1) = 64 * j + 64 by omega, List.take_add]
    have hx : ((t.drop (64 * j)).take 64).length = 64 := by rw [List.length_take, List.length_drop]; omega
    have ha : (feed st0 (t.take (64 * j))).n.toNat % 64 = 0 := by rw [h2, BitVec.toNat_ofNat]; omega
    have hf := feed_full (feed st0 (t.take (64 * j))) (by rw [h1]; rfl) ((t.drop (64 * j)).take 64) (by rw [ha, hx])
    rw [e, feed_app, hf]
    refine ⟨rfl, ?_, ?_⟩
    · show (feed st0 (t.take (64 * j))).n + _ = _
      rw [h2, hx]
      apply BitVec.eq_of_toNat_eq
      simp only [BitVec.toNat_add, BitVec.toNat_ofNat]; omega
    · exact press_len _ _ h3
theorem blkH_succ (p : List (BitVec 8)) (j : Nat) (h : 64 * (j + 1) ≤ (textS p).length) : blkH p (j + 1) = pressS (blkH p j) (((textS p).drop (64 * j)).take 64) := by
  unfold blkH
  generalize textS p = t at *
  obtain ⟨h1, h2, h3⟩ := feed_blk t j (by omega)
  have e : t.take (64 * (j + 1)) = t.take (64 * j) ++ (t.drop (64 * j)).take 64 := by
    rw [show 64 * (j + 1) = 64 * j + 64 by omega, List.take_add]
  have hx : ((t.drop (64 * j)).take 64).length = 64 := by rw [List.length_take, List.length_drop]; omega
  have ha : (feed st0 (t.take (64 * j))).n.toNat % 64 = 0 := by rw [h2, BitVec.toNat_ofNat]; omega
  have hf := feed_full (feed st0 (t.take (64 * j))) (by rw [h1]; rfl) ((t.drop (64 * j)).take 64) (by rw [ha, hx])
  rw [e, feed_app, hf, ha, h1]
  have hs : splice zero64 0 ((t.drop (64 * j)).take 64) = (t.drop (64 * j)).take 64 := by
    unfold splice
    have hz : zero64.drop (0 + ((t.drop (64 * j)).take 64).length) = [] := List.drop_eq_nil_of_le (by rw [hx]; exact Nat.le_refl _)
    rw [List.take_zero, List.nil_append, hz, List.append_nil]
  rw [hs]
theorem blkH_len (p : List (BitVec 8)) (j : Nat) (h : 64 * j ≤ (textS p).length) : (blkH p j).length = 8 := (feed_blk _ j h).2.2
theorem sumS_eq (p : List (BitVec 8)) : sumS p = digS (blkH p ((textS p).length / 64)) ∨ ¬ (textS p).length % 64 = 0 := by
  by_cases h : (textS p).length % 64 = 0
  · left
    have e : 64 * ((textS p).length / 64) = (textS p).length := by omega
    have hn : (feed st0 p).n = BitVec.ofNat 64 p.length := by rw [feed_n]; show 0#64 + _ = _; rw [BitVec.zero_add]
    rw [blkH, e, List.take_length, textS, feed_app, sumS, sumSt, hn]
  · exact .inr h
theorem kPressR (rows : Rows) (k : D → Rows → Prop) (h : List (BitVec 32)) (d : D) (b : List (BitVec 8)) (hd : BsIn rows d b) (hh : h.length = 8) (hb : b.length = 64) : kCall fPressR rows k [.agg (.ar 8 L32) (us h), d] = k (.agg (.ar 8 L32) (us (pressS h b))) rows := by
  obtain ⟨⟨d', hd', hbd⟩, hn⟩ := hd
  have e1 : ∀ d2, rdBs d2 = some b → fPressR [.agg (.ar 8 L32) (us h), d2] [] = some (h8D (pressS h b), []) := fun d2 h2 => fn2_eq (rdOf_eq h8D_inj h) h2 (by simp [hh, hb])
  have hr : hasRef (.agg (.ar 8 L32) (us h)) = false := by simp [hasRef, Sh.pure]
  have hv : view rows 9 (.agg (.ar 8 L32) (us h)) = some (.agg (.ar 8 L32) (us h)) := by simp [view, Sh.pure]
  unfold kCall
  have h1 : hasRefL [.agg (.ar 8 L32) (us h), d] = hasRef d := by simp [hasRefL, hr]
  rw [h1]
  have hsh : shift rows.length (h8D (pressS h b)) = h8D (pressS h b) := by simp [h8D, shift, Sh.pure]
  have hno : noLst (h8D (pressS h b)) = true := by simp [h8D, noLst, Sh.pure]
  cases hh : hasRef d with
  | true =>
    simp only [forall_const, mapO, hv, hd', bnd, e1 _ hbd.rd, hno, noLstRows, Bool.and_self, true_and, hsh, shiftRows, List.append_nil]
    simp [h8D]
  | false =>
    simp only [forall_const, bnd, e1 _ (hn hh).rd, hsh, shiftRows, List.append_nil]
    simp [h8D]
theorem fill8_set {l : List (BitVec 8)} {n : Nat} (h : l.length < n) (x : BitVec 8) : (fill8 l n).set l.length x = fill8 (l ++ [x]) n := by
  obtain ⟨k, hk⟩ : ∃ k, n - l.length = k + 1 := ⟨n - l.length - 1, by omega⟩
  have h2 : n - (l ++ [x]).length = k := by simp; omega
  rw [fill8, fill8, hk, h2, List.replicate_succ, List.set_append_right _ _ (Nat.le_refl _)]
  simp
theorem kNum8 (rows : Rows) (k : D → Rows → Prop) (n : BitVec 64) : kCall fNumS rows k [.raw (u64 n), .raw (it 8)] = k (.sl L8 (0 + rows.length) [] 0 8 false) (rows ++ [some ⟨L8, bs (numL 8 n)⟩]) := by
  refine (kCall_val rfl (r := outBs (numL 8 n) false) ?_).trans ?_
  · rw [fNumS, fn2_eq (rd64_eq _) (rdI_eq 8) (by decide)]; rfl
  · simp [outBs, shift, shiftRows, Sh.pure, numL_len]
def fRSum : Fn := fn1 rdBs (fun p => Nat.ble p.length 1099511627000) fun p => (d32D (sumS p), [])
end Job
end Go.Am
namespace Go.Am
set_option linter.unusedSimpArgs false
set_option linter.unusedVariables false
attribute [local congr] bnd_congr kCond_congr kGd_congr kPick_congr kCall_congr kIdx_congr kSlice_congr kLoop_congr cond_congr' aBin_congr aBounds_congr aApp_congr aCopy_congr kFn_congr
namespace Job
open Go.Am.F
set_option maxRecDepth 10000
theorem view8 {rows : Rows} {x : D} {y : List (BitVec 8)} (h : BsIn rows x y) : ∃ x', view rows 8 x = some x' ∧ IsBs x' y := by
  obtain ⟨⟨d', h1, h2⟩, -⟩ := h
  have key : view rows 8 x = some d' := by
    cases x with
    | raw v => exact h1
    | sl s r p off len e =>
      simp only [view] at h1 ⊢
      cases he : elems rows (.sl s r p off len e) with
      | none => rw [he] at h1; cases h1
      | some l =>
        rw [he] at h1
        simp only at h1 ⊢
        cases hl : (!(l.length == len)) with
        | true => rw [hl] at h1; cases h1
        | false =>
          rw [hl] at h1
          cases hp : s.pure with
          | true => rw [hp] at h1; exact h1
          | false =>
            rw [hp] at h1
            simp only [cond_false] at h1
            split at h1
            · cases h1
              rcases h2 with ⟨h, _⟩ | ⟨e2, h⟩
              · cases h
              · injection h with hs; subst hs; cases hp
            · cases h1
    | lst s l e =>
      simp only [view] at h1 ⊢
      cases hp : s.pure with
      | true => rw [hp] at h1; exact h1
      | false =>
        rw [hp] at h1
        simp only [cond_false] at h1
        split at h1
        · cases h1
          rcases h2 with ⟨h, _⟩ | ⟨e2, h⟩
          · cases h
          · injection h with hs; subst hs; cases hp
        · cases h1
    | ptr s r p =>
      simp only [view] at h1
      split at h1
      · split at h1
        · cases hp : s.pure <;> rw [hp] at h1
          · simp only [cond_false] at h1
            split at h1
            · cases h1; rcases h2 with ⟨h, _⟩ | ⟨e2, h⟩ <;> cases h
            · cases h1
          · cases h1; rcases h2 with ⟨h, _⟩ | ⟨e2, h⟩ <;> cases h
        · cases h1
      · cases h1
    | agg s l =>
      simp only [view] at h1
      cases hp : s.pure <;> rw [hp] at h1
      · simp only [cond_false] at h1
        split at h1
        · cases h1; rcases h2 with ⟨h, _⟩ | ⟨e2, h⟩ <;> cases h
        · cases h1
      · cases h1; rcases h2 with ⟨h, _⟩ | ⟨e2, h⟩ <;> cases h
    | aptr => simp [view] at h1
    | cptr => simp [view] at h1
    | tup => simp [view] at h1
  exact ⟨d', key, h2⟩
theorem view_parts {rows : Rows} : ∀ {l : List D} {ls : List (List (BitVec 8))}, All2 (fun x y => BsIn rows x y) l ls → ∃ l', mapO (view rows 8) l = some l' ∧ mapO rdBs l' = some ls := by
  intro l
  induction l with
  | nil =>
    intro ls h
    have : ls = [] := List.eq_nil_of_length_eq_zero h.len.symm
    subst this
    exact ⟨[], rfl, rfl⟩
  | cons x l ih =>
    intro ls h
    match ls, h.len with
    | y :: ls, _ =>
      obtain ⟨x', h1, h2⟩ := view8 h.head
      obtain ⟨l', h3, h4⟩ := ih h.tail
      exact ⟨x' :: l', by simp only [mapO, h1, h3], by simp only [mapO, h2.rd, h4]⟩
theorem kCall_parts {pre : List (List (BitVec 8)) → Bool} {out : List (List (BitVec 8)) → D × Rows} {rows : Rows} {k : D → Rows → Prop} {r n : Nat} {ex : Bool} {l : List D} {ls : List (List (BitVec 8))} (hl : live rows r = some ⟨.ref, l⟩) (hn : l.length = n)
    (hv : All2 (fun x y => BsIn rows x y) l ls) (hp : pre ls = true) (hr : (noLst (out ls).1 && noLstRows (out ls).2) = true) : kCall (fn1 rdBss pre out) rows k [.sl .ref r [] 0 n ex] = k (shift rows.length (out ls).1) (rows ++ shiftRows rows.length (out ls).2) := by
  obtain ⟨l', h1, h2⟩ := view_parts hv
  have he : elems rows (.sl .ref r [] 0 n ex) = some l := by simp [elems, hl, ← hn]
  have hvw : view rows 9 (.sl .ref r [] 0 n ex) = some (.lst .ref l' ex) := by
    simp only [view, he, hn, beq_self_eq_true, Bool.not_true, cond_false, Sh.pure, h1]
  refine view_nonref1 (fun d2 hd2 => ?_) ⟨_, hvw⟩ (fun hh => by simp [hasRef] at hh) hr
  rw [hvw] at hd2
  cases hd2
  exact fn1_eq (by simpa [rdBss] using h2) hp
theorem kSum (rows : Rows) (k : D → Rows → Prop) (r n : Nat) (ex : Bool) (l : List D) (ls : List (List (BitVec 8))) (hl : live rows r = some ⟨.ref, l⟩) (hn : l.length = n)
    (hv : All2 (fun x y => BsIn rows x y) l ls) (hp : ls.length ≤ 1099511627776) (hp2 : ls.flatten.length ≤ 1099511627776) : kCall fSum rows k [.sl .ref r [] 0 n ex] = k (.agg (.ar 32 L8) (bs (sumS ls.flatten))) rows := by
  refine (kCall_parts hl hn hv (by simp only [Bool.and_eq_true, Nat.ble_eq]; exact ⟨hp, hp2⟩) (by simp [d32D, noLst, noLstRows, Sh.pure])).trans ?_
  simp [d32D, shift, shiftRows, Sh.pure]
theorem kJoin (rows : Rows) (k : D → Rows → Prop) (r n : Nat) (ex : Bool) (l : List D) (ls : List (List (BitVec 8))) (hl : live rows r = some ⟨.ref, l⟩) (hn : l.length = n)
    (hv : All2 (fun x y => BsIn rows x y) l ls) (hp : ls.length ≤ 1099511627776) (hp2 : ls.flatten.length ≤ 1099511627776) : kCall fJoin rows k [.sl .ref r [] 0 n ex] = k (.sl L8 (0 + rows.length) [] 0 ls.flatten.length false) (rows ++ [some ⟨L8, bs ls.flatten⟩]) := by
  refine (kCall_parts hl hn hv (by simp only [Bool.and_eq_true, Nat.ble_eq]; exact ⟨hp, hp2⟩) (by simp [outBs, noLst, noLstRows, Sh.pure])).trans ?_
  simp [outBs, shift, shiftRows, Sh.pure]
theorem kRSum (rows : Rows) (k : D → Rows → Prop) (d : D) (p : List (BitVec 8)) (h : BsIn rows d p) (hp : p.length ≤ 1099511627000) : kCall fRSum rows k [d] = k (.agg (.ar 32 L8) (bs (sumS p))) rows := by
  refine (kCall_bs1 h (by simpa using hp) (by simp [d32D, noLst, noLstRows, Sh.pure])).trans ?_
  simp [d32D, shift, shiftRows, Sh.pure]
theorem eqL_bs (l : List (BitVec 8)) : eqL (bs l) (bs l) = some true := by
  induction l with
  | nil => rfl
  | cons b l ih =>
    have e1 : eqD (.raw (u8 b)) (.raw (u8 b)) = some true := by simp [eqD, eqLeaf, u8]
    show eqL (.raw (u8 b) :: bs l) (.raw (u8 b) :: bs l) = _
    rw [eL_c, e1, ih]; rfl
theorem eqL_us (l : List (BitVec 32)) : eqL (us l) (us l) = some true := by
  induction l with
  | nil => rfl
  | cons b l ih =>
    have e1 : eqD (.raw (u32 b)) (.raw (u32 b)) = some true := by simp [eqD, eqLeaf, u32]
    show eqL (.raw (u32 b) :: us l) (.raw (u32 b) :: us l) = _
    rw [eL_c, e1, ih]; rfl
theorem eqA_st (s : St) : eqA S6 (stD s) (stD s) = some true := by
  simp [eqA, stD, eqL, eqD, eqLeaf, u64, eqL_bs, eqL_us]
theorem st_fits (s : St) : D.fits (stD s) S6 = true := by simp [stD, D.fits]
theorem sumSt_len (s : St) (h : s.ok = true) : (sumSt s).length = 32 := by
  rw [sumSt, digS_len, (st_ok (feed_ok _ _ h)).1]
theorem sumS_len (p : List (BitVec 8)) : (sumS p).length = 32 := sumSt_len _ (feed_ok _ _ st0_ok)
def fAwake : Fn
  | [], [] => some (.raw (.bool true), [])
  | _, _ => none
theorem kAwake (rows : Rows) (k : D → Rows → Prop) : kCall fAwake rows k [] = k (.raw (.bool true)) rows := by
  refine (kCall_val rfl (r := (.raw (.bool true), [])) rfl).trans ?_
  simp [shift, shiftRows]
set_option maxRecDepth 1000000 in
theorem abc : sumS [97#8, 98#8, 99#8] = [0xba#8, 0x78#8, 0x16#8, 0xbf#8, 0x8f#8, 0x01#8, 0xcf#8, 0xea#8, 0x41#8, 0x41#8, 0x40#8, 0xde#8, 0x5d#8, 0xae#8, 0x22#8, 0x23#8, 0xb0#8, 0x03#8, 0x61#8, 0xa3#8, 0x96#8, 0x17#8, 0x7a#8, 0x9c#8, 0xb4#8, 0x10#8, 0xff#8, 0x61#8, 0xf2#8, 0x00#8, 0x15#8, 0xad#8] := by
  kernel_rfl
end Job
end Go.Am
