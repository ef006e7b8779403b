/- the flash: the reference's laying -/
import Derived.Test.YtgfhkmpmdfdemaaFl11
namespace Go.Am
set_option linter.unusedSimpArgs false
set_option linter.unusedVariables false
attribute [local congr] bnd_congr kCond_congr kGd_congr kPick_congr kCall_congr kIdx_congr kSlice_congr kLoop_congr cond_congr' aBin_congr aBounds_congr aApp_congr aCopy_congr kFn_congr
namespace Job
open Go.Am.F
set_option maxRecDepth 10000
theorem view8 {rows : Rows} {x : D} {y : List (BitVec 8)} (h : BsIn rows x y) : ∃ x', view rows 8 x = some x' ∧ IsBs x' y := by
  obtain ⟨⟨d', h1, h2⟩, -⟩ := h
  have key : view rows 8 x = some d' := by
    cases x with
    | raw v => exact h1
    | sl s r p off len e =>
      simp only [view] at h1 ⊢
      cases he : elems rows (.sl s r p off len e) with
      | none => rw [he] at h1; cases h1
      | some l =>
        rw [he] at h1
        simp only at h1 ⊢
        cases hl : (!(l.length == len)) with
        | true => rw [hl] at h1; cases h1
        | false =>
          rw [hl] at h1
          cases hp : s.pure with
          | true => rw [hp] at h1; exact h1
          | false =>
            rw [hp] at h1
            simp only [cond_false] at h1
            split at h1
            · cases h1
              rcases h2 with ⟨h, _⟩ | ⟨e2, h⟩
              · cases h
              · injection h with hs; subst hs; cases hp
            · cases h1
    | lst s l e =>
      simp only [view] at h1 ⊢
      cases hp : s.pure with
      | true => rw [hp] at h1; exact h1
      | false =>
        rw [hp] at h1
        simp only [cond_false] at h1
        split at h1
        · cases h1
          rcases h2 with ⟨h, _⟩ | ⟨e2, h⟩
          · cases h
          · injection h with hs; subst hs; cases hp
        · cases h1
    | ptr s r p =>
      simp only [view] at h1
      split at h1
      · split at h1
        · cases hp : s.pure <;> rw [hp] at h1
          · simp only [cond_false] at h1
            split at h1
            · cases h1; rcases h2 with ⟨h, _⟩ | ⟨e2, h⟩ <;> cases h
            · cases h1
          · cases h1; rcases h2 with ⟨h, _⟩ | ⟨e2, h⟩ <;> cases h
        · cases h1
      · cases h1
    | agg s l =>
      simp only [view] at h1
      cases hp : s.pure <;> rw [hp] at h1
      · simp only [cond_false] at h1
        split at h1
        · cases h1; rcases h2 with ⟨h, _⟩ | ⟨e2, h⟩ <;> cases h
        · cases h1
      · cases h1; rcases h2 with ⟨h, _⟩ | ⟨e2, h⟩ <;> cases h
    | aptr => simp [view] at h1
    | cptr => simp [view] at h1
    | tup => simp [view] at h1
  exact ⟨d', key, h2⟩
theorem view_parts {rows : Rows} : ∀ {l : List D} {ls : List (List (BitVec 8))}, All2 (fun x y => BsIn rows x y) l ls → ∃ l', mapO (view rows 8) l = some l' ∧ mapO rdBs l' = some ls := by
  intro l
  induction l with
  | nil =>
    intro ls h
    have : ls = [] := List.eq_nil_of_length_eq_zero h.len.symm
    subst this
    exact ⟨[], rfl, rfl⟩
  | cons x l ih =>
    intro ls h
    match ls, h.len with
    | y :: ls, _ =>
      obtain ⟨x', h1, h2⟩ := view8 h.head
      obtain ⟨l', h3, h4⟩ := ih h.tail
      exact ⟨x' :: l', by simp only [mapO, h1, h3], by simp only [mapO, h2.rd, h4]⟩
theorem kCall_parts {pre : List (List (BitVec 8)) → Bool} {out : List (List (BitVec 8)) → D × Rows} {rows : Rows} {k : D → Rows → Prop} {r n : Nat} {ex : Bool} {l : List D} {ls : List (List (BitVec 8))} (hl : live rows r = some ⟨.ref, l⟩) (hn : l.length = n)
    (hv : All2 (fun x y => BsIn rows x y) l ls) (hp : pre ls = true) (hr : (noLst (out ls).1 && noLstRows (out ls).2) = true) : kCall (fn1 rdBss pre out) rows k [.sl .ref r [] 0 n ex] = k (shift rows.length (out ls).1) (rows ++ shiftRows rows.length (out ls).2) := by
  obtain ⟨l', h1, h2⟩ := view_parts hv
  have he : elems rows (.sl .ref r [] 0 n ex) = some l := by simp [elems, hl, ← hn]
  have hvw : view rows 9 (.sl .ref r [] 0 n ex) = some (.lst .ref l' ex) := by
    simp only [view, he, hn, beq_self_eq_true, Bool.not_true, cond_false, Sh.pure, h1]
  refine view_nonref1 (fun d2 hd2 => ?_) ⟨_, hvw⟩ (fun hh => by simp [hasRef] at hh) hr
  rw [hvw] at hd2
  cases hd2
  exact fn1_eq (by simpa [rdBss] using h2) hp
theorem kJoin (rows : Rows) (k : D → Rows → Prop) (r n : Nat) (ex : Bool) (l : List D) (ls : List (List (BitVec 8))) (hl : live rows r = some ⟨.ref, l⟩) (hn : l.length = n)
    (hv : All2 (fun x y => BsIn rows x y) l ls) (hp : ls.length ≤ 1099511627776) (hp2 : ls.flatten.length ≤ 1099511627776) : kCall fJoin rows k [.sl .ref r [] 0 n ex] = k (.sl L8 (0 + rows.length) [] 0 ls.flatten.length false) (rows ++ [some ⟨L8, bs ls.flatten⟩]) := by
  refine (kCall_parts hl hn hv (by simp only [Bool.and_eq_true, Nat.ble_eq]; exact ⟨hp, hp2⟩) (by simp [outBs, noLst, noLstRows, Sh.pure])).trans ?_
  simp [outBs, shift, shiftRows, Sh.pure]
def inB (a n s : Int) : Bool := decide (0 ≤ a) && decide (0 ≤ n) && decide (a ≤ s) && decide (n ≤ s - a)
noncomputable def fIn : Fn := fn3 rdI rdI rdI (fun _ _ s => decide (0 ≤ s) && decide (s ≤ 1048576)) fun a n s => (.raw (.bool (inB a n s)), [])
theorem in_ok (C : Ctx) (hC : CtxOK C P) : Meets C.glob P 33 (Fn.run fIn) := by
  refine fn_meets (m_ref12_in C hC) fun ds rows r h => ?_
  obtain ⟨d, e, f, a, n, s, rfl, rfl, hd, he, hf, hp, rfl⟩ := fn3_some h
  cases rdI_some hd
  cases rdI_some he
  cases rdI_some hf
  simp only [Bool.and_eq_true, decide_eq_true_eq] at hp
  refine ⟨rfl, afun_mk rfl ?_⟩
  clear h hd he hf
  unfold a_ref12_in r_ref12_in
  unfold inB
  by_cases c1 : 0 ≤ a
  · by_cases c2 : 0 ≤ n
    · by_cases c3 : a ≤ s
      · have w : wz (s - a) = s - a := wz_id (by omega)
        simp only [↓amD, amU, Nat.reduceBEq, Nat.reduceAdd, Nat.reduceSub, Nat.reduceMul, Nat.reduceMod, Nat.reducePow, Nat.reduceLT, Nat.reduceDiv, Int.reduceToNat, BitVec.reduceToNat, zipEnv, Int.reduceLE, Int.reduceLT, Int.reduceNeg, BitVec.reduceEq, Int.reduceAdd, Int.reduceSub, Int.reduceMul, Nat.reduceLeDiff, Int.reduceEq, c1, c2, c3, w, decide_true]
        exact .val _ rfl
      · simp only [↓amD, amU, Nat.reduceBEq, Nat.reduceAdd, Nat.reduceSub, Nat.reduceMul, Nat.reduceMod, Nat.reducePow, Nat.reduceLT, Nat.reduceDiv, Int.reduceToNat, BitVec.reduceToNat, zipEnv, Int.reduceLE, Int.reduceLT, Int.reduceNeg, BitVec.reduceEq, Int.reduceAdd, Int.reduceSub, Int.reduceMul, Nat.reduceLeDiff, Int.reduceEq, c1, c2, c3, decide_true, decide_false]
        exact .val _ rfl
    · simp only [↓amD, amU, Nat.reduceBEq, Nat.reduceAdd, Nat.reduceSub, Nat.reduceMul, Nat.reduceMod, Nat.reducePow, Nat.reduceLT, Nat.reduceDiv, Int.reduceToNat, BitVec.reduceToNat, zipEnv, Int.reduceLE, Int.reduceLT, Int.reduceNeg, BitVec.reduceEq, Int.reduceAdd, Int.reduceSub, Int.reduceMul, Nat.reduceLeDiff, Int.reduceEq, c1, c2, decide_true, decide_false]
      exact .val _ rfl
  · simp only [↓amD, amU, Nat.reduceBEq, Nat.reduceAdd, Nat.reduceSub, Nat.reduceMul, Nat.reduceMod, Nat.reducePow, Nat.reduceLT, Nat.reduceDiv, Int.reduceToNat, BitVec.reduceToNat, zipEnv, Int.reduceLE, Int.reduceLT, Int.reduceNeg, BitVec.reduceEq, Int.reduceAdd, Int.reduceSub, Int.reduceMul, Nat.reduceLeDiff, Int.reduceEq, c1, decide_true, decide_false]
    exact .val _ rfl
theorem kIn (rows : Rows) (k : D → Rows → Prop) (a n s : Int) (h0 : 0 ≤ s) (h1 : s ≤ 1048576) : kCall fIn rows k [.raw (it a), .raw (it n), .raw (it s)] = k (.raw (.bool (inB a n s))) rows := by
  refine (kCall_val rfl (r := (.raw (.bool (inB a n s)), [])) ?_).trans ?_
  · simp only [fIn, fn3_ev, rdI_eq, Option.bind_some, h0, h1, decide_true, Bool.and_true, cond_true]
  · simp [shift, shiftRows]
theorem inB_err (x : List (BitVec 8)) (a n : Int) : errW (some (x, false)) a n = if inB a n x.length = true then 0 else 9 := by
  simp only [errW, inB, Bool.and_eq_true, decide_eq_true_eq]
  by_cases h : a < 0 ∨ n < 0 ∨ (x.length : Int) < a ∨ (x.length : Int) - a < n
  · rw [if_pos h, if_neg (by omega)]
  · rw [if_neg h, if_pos (by omega)]
/-- laid: the error and the bytes -/
noncomputable def outL (x : List (BitVec 8)) (a : Int) (p : List (BitVec 8)) : D × Rows :=
  if wrE x a p = 0 then (.tup [.sl L8 0 [] 0 x.length false, .raw (it 0)], [some ⟨L8, bs (wrX x a p)⟩]) else (.tup [.raw (.slice none 0 0), .raw (it (wrE x a p))], [])
noncomputable def fLay : Fn := fn3 rdBs rdI rdBs (fun x _ p => decide (x.length ≤ 1048576) && decide (p.length ≤ 1048576)) outL
theorem splice_take (x p : List (BitVec 8)) (a i : Nat) (h : a + i < x.length) (hi : i < p.length) : (splice x a (p.take i)).set (a + i) (p.getD i 0#8) = splice x a (p.take (i + 1)) := by
  have h1 : (p.take i).length = i := by rw [List.length_take]; omega
  have h2 : (p.take (i + 1)).length = i + 1 := by rw [List.length_take]; omega
  have ht : (x.take a).length = a := by rw [List.length_take]; omega
  have e : x.drop (a + i) = x[a + i]'h :: x.drop (a + (i + 1)) := by rw [List.drop_eq_getElem_cons h]; rfl
  simp only [splice]
  rw [h1, h2, e, take_succ_getD (z := 0#8) hi, List.set_append_right _ _ (by simp; omega)]
  simp [ht, h1]
theorem lay_ok (C : Ctx) (hC : CtxOK C P) (hi : C.fn 33 = some fIn) (hj : C.fn 35 = some fJoin) : Meets C.glob P 34 (Fn.run fLay) := by
  refine fn_meetsN (m_ref12_lay C hC) fun ds rows r h => ?_
  obtain ⟨d, e, f, x, a, p, rfl, rfl, hd, he, hf, hpre, rfl⟩ := fn3_some h
  obtain ⟨y, hy⟩ := rdBs_nrm hd
  cases rdI_some he
  obtain ⟨z, hz⟩ := rdBs_nrm hf
  simp only [Bool.and_eq_true, decide_eq_true_eq] at hpre
  obtain ⟨hx, hp⟩ := hpre
  refine ⟨rfl, _, .cons hy (.cons (.refl _) (.cons hz .nil)), afun_mk rfl ?_⟩
  clear h hd he hf hy hz
  unfold a_ref12_lay r_ref12_lay
  have ki := fun rows k => kIn rows k a p.length x.length (by omega) (by omega)
  have herr := inB_err x a p.length
  cases hin : inB a p.length x.length with
  | false =>
    rw [hin] at ki herr
    simp only [Bool.false_eq_true, if_false] at herr
    have hE : wrE x a p = 9 := by rw [wrE, if_pos (by rw [herr]; decide), herr]
    rw [outL, if_neg (by rw [hE]; decide), hE]
    simp only [↓amD, amU, Nat.reduceBEq, Nat.reduceAdd, Nat.reduceSub, Nat.reduceMul, Nat.reduceMod, Nat.reducePow, Nat.reduceLT, Nat.reduceDiv, Int.reduceToNat, BitVec.reduceToNat, zipEnv, Int.reduceLE, Int.reduceLT, Int.reduceNeg, BitVec.reduceEq, Int.reduceAdd, Int.reduceSub, Int.reduceMul, Nat.reduceLeDiff, Int.reduceEq, bs_len, hi, ki]
    exact .val _ rfl
  | true =>
    rw [hin] at ki herr
    simp only [if_true] at herr
    obtain ⟨b1, b2, b3, b4⟩ := errW_0 herr
    obtain ⟨a, rfl⟩ := Int.eq_ofNat_of_zero_le b1
    have kj : ∀ k, kCall fJoin [some ⟨.ref, [.lst L8 (bs x) y]⟩] k [.sl .ref 0 [] 0 1 true] = k (.sl L8 1 [] 0 x.length false) [some ⟨.ref, [.lst L8 (bs x) y]⟩, some ⟨L8, bs x⟩] := fun k => by
      have := kJoin [some ⟨.ref, [.lst L8 (bs x) y]⟩] k 0 1 true [.lst L8 (bs x) y] [x] rfl rfl (.cons (lstIn _ x y) .nil) (by simp [most]) (by simp [most]; omega)
      simpa using this
    simp only [↓amD, amU, Nat.reduceBEq, Nat.reduceAdd, Nat.reduceSub, Nat.reduceMul, Nat.reduceMod, Nat.reducePow, Nat.reduceLT, Nat.reduceDiv, Int.reduceToNat, BitVec.reduceToNat, zipEnv, Int.reduceLE, Int.reduceLT, Int.reduceNeg, BitVec.reduceEq, Int.reduceAdd, Int.reduceSub, Int.reduceMul, Nat.reduceLeDiff, Int.reduceEq, bs_len, hi, ki, hj, kj]
    refine kLoop_up p.length (fun i env rows => has env [(23, .raw (it (i : Int))), (22, .raw (it (p.length : Int))), (21, .lst L8 (bs p) z), (0, .lst L8 (bs x) y), (1, .raw (it (a : Int))), (8, .sl L8 1 [] 0 x.length false)] ∧
      rows = [some ⟨.ref, [.lst L8 (bs x) y]⟩, some ⟨L8, bs (splice x a (p.take i))⟩] ∧ clB x p a i) ?_ ?_ ⟨?_, ?_, fun j hj => by omega⟩
    · rintro i hi2 env rows ⟨hh, rfl, hc⟩ R hR
      simp only [has] at hh
      obtain ⟨h23, h22, h21, h0, h1, h8, -⟩ := hh
      have e0 : ((i : Int) < (p.length : Int)) = True := eq_true (by omega)
      have b0 : ∀ n : Nat, ((0 : Int) ≤ (n : Int)) = True := fun n => eq_true (by omega)
      have e2 := wz_succ i (by omega)
      have e3 : wz ((a : Int) + (i : Int)) = ((a + i : Nat) : Int) := by rw [wz_id (by omega)]; omega
      have e4 : (((a + i : Nat) : Int) < (x.length : Int)) = True := eq_true (by omega)
      have hti : (p.take i).length = i := by rw [List.length_take]; omega
      have hsl : (splice x a (p.take i)).length = x.length := splice_len _ _ _ (by omega)
      have g1 : ∀ rows k, kIdx L8 (i : Int) rows k (.lst L8 (bs p) z) = k (.cptr (.raw (u8 (p.getD i 0#8)))) rows := fun rows k => idx_bs p z i hi2 rows k
      have g2 : ∀ rows k, kIdx L8 ((a + i : Nat) : Int) rows k (.lst L8 (bs x) y) = k (.cptr (.raw (u8 (x.getD (a + i) 0#8)))) rows := fun rows k => idx_bs x y (a + i) (by omega) rows k
      have gx : (bs x)[a + i]? = some (.raw (u8 (x.getD (a + i) 0#8))) := bs_get (by omega)
      have t1 : (bs (splice x a (p.take i)))[a + i]? = some (.raw (u8 ((splice x a (p.take i)).getD (a + i) 0#8))) := bs_get (by omega)
      by_cases hq : p.getD i 0#8 &&& x.getD (a + i) 0#8 = p.getD i 0#8
      · simp only [↓amD, amU, Nat.reduceBEq, Nat.reduceAdd, Nat.reduceSub, Nat.reduceMul, Nat.reduceMod, Nat.reducePow, Nat.reduceLT, Nat.reduceDiv, Int.reduceToNat, BitVec.reduceToNat, zipEnv, Int.reduceLE, Int.reduceLT, Int.reduceNeg, BitVec.reduceEq, Int.reduceAdd, Int.reduceSub, Int.reduceMul, Nat.reduceLeDiff, Int.reduceEq, h23, h22, h21, h0, h1, h8, e0, b0, e2, e3, e4, g1, g2, gx, bs_len, t1, hq, bs_set, splice_take x p a i (by omega) hi2, decide_true]
        exact hR _ _ ⟨by simp only [has, ↓amD, amU, Nat.reduceBEq, Nat.reduceAdd, Nat.reduceSub, Nat.reduceMul, Nat.reduceMod, Nat.reducePow, Nat.reduceLT, Nat.reduceDiv, Int.reduceToNat, BitVec.reduceToNat, zipEnv, Int.reduceLE, Int.reduceLT, Int.reduceNeg, BitVec.reduceEq, Int.reduceAdd, Int.reduceSub, Int.reduceMul, Nat.reduceLeDiff, Int.reduceEq, h22, h21, h0, h1, h8], rfl, (cl_succ x p a i).2 ⟨hc, hq⟩⟩
      · have hq' : (p.getD i 0#8 &&& x.getD (a + i) 0#8 = p.getD i 0#8) = False := eq_false hq
        have hE : wrE x (a : Int) p = 14 := by
          rw [wrE, if_neg (by rw [herr]; simp), Int.toNat_natCast, if_neg]
          intro hcl
          exact hq (((clB_iff x p a).2 hcl) i hi2)
        rw [outL, if_neg (by rw [hE]; decide), hE]
        simp only [↓amD, amU, Nat.reduceBEq, Nat.reduceAdd, Nat.reduceSub, Nat.reduceMul, Nat.reduceMod, Nat.reducePow, Nat.reduceLT, Nat.reduceDiv, Int.reduceToNat, BitVec.reduceToNat, zipEnv, Int.reduceLE, Int.reduceLT, Int.reduceNeg, BitVec.reduceEq, Int.reduceAdd, Int.reduceSub, Int.reduceMul, Nat.reduceLeDiff, Int.reduceEq, h23, h22, h21, h0, h1, h8, e0, b0, e2, e3, e4, g1, g2, gx, bs_len, t1, hq', decide_true, decide_false]
        exact .val _ rfl
    · rintro env rows ⟨hh, rfl, hc⟩ R
      simp only [has] at hh
      obtain ⟨h23, h22, h21, h0, h1, h8, -⟩ := hh
      have e0 : ((p.length : Int) < (p.length : Int)) = False := eq_false (by omega)
      have hE : wrE x (a : Int) p = 0 := by
        rw [wrE, if_neg (by rw [herr]; simp), Int.toNat_natCast, if_pos ((clB_iff x p a).1 hc)]
      have hX : wrX x (a : Int) p = splice x a p := by rw [wrX, if_pos hE]; rfl
      rw [outL, if_pos hE, hX, List.take_length]
      simp only [↓amD, amU, Nat.reduceBEq, Nat.reduceAdd, Nat.reduceSub, Nat.reduceMul, Nat.reduceMod, Nat.reducePow, Nat.reduceLT, Nat.reduceDiv, Int.reduceToNat, BitVec.reduceToNat, zipEnv, Int.reduceLE, Int.reduceLT, Int.reduceNeg, BitVec.reduceEq, Int.reduceAdd, Int.reduceSub, Int.reduceMul, Nat.reduceLeDiff, Int.reduceEq, h23, h22, h21, h0, h1, h8, e0, decide_false]
      exact .ownT L8 1 0 x.length false false _ _ rfl rfl rfl (fun h => by cases h)
    · simp only [has, ↓amD, amU, Nat.reduceBEq, Nat.reduceAdd, Nat.reduceSub, Nat.reduceMul, Nat.reduceMod, Nat.reducePow, Nat.reduceLT, Nat.reduceDiv, Int.reduceToNat, BitVec.reduceToNat, zipEnv, Int.reduceLE, Int.reduceLT, Int.reduceNeg, BitVec.reduceEq, Int.reduceAdd, Int.reduceSub, Int.reduceMul, Nat.reduceLeDiff, Int.reduceEq]
    · simp [splice]
end Job
end Go.Am
