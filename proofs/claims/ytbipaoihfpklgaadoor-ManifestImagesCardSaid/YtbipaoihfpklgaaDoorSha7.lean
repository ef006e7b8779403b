/- bytes.Join without anything between -/
import Derived.Test.YtbipaoihfpklgaaDoorSha6
namespace Go.Am
set_option linter.unusedSimpArgs false
set_option linter.unusedVariables false
attribute [local congr] bnd_congr kCond_congr kGd_congr kPick_congr kCall_congr kIdx_congr kSlice_congr kLoop_congr cond_congr' aBin_congr aBounds_congr aApp_congr aCopy_congr kFn_congr
namespace Job
open Go.Am.F
set_option maxRecDepth 10000
def rdNil : D → Option Unit
  | .raw (.slice none 0 0) => some ()
  | _ => none
theorem rdNil_some {d : D} {u : Unit} (h : rdNil d = some u) : d = .raw (.slice none 0 0) := by
  unfold rdNil at h
  split at h
  · rfl
  · cases h
theorem copy_row {rows : Rows} {r off len : Nat} {ex : Bool} {l src : List (BitVec 8)} {k : D → Rows → Prop} (hl : live rows r = some ⟨L8, bs l⟩) (hn : off + len ≤ l.length) :
    aCopy rows L8 (.sl L8 r [] off len ex) (bs src) k = k (.raw (it ((min src.length len : Nat) : Int))) (rows.set r (some ⟨L8, bs (splice l off (src.take (min src.length len)))⟩)) := by
  unfold aCopy
  simp only [hl, bnd, bs_len, bs_take, bs_splice, hn, true_and]
  rfl
def fBJoin : Fn := fn2 rdBss rdNil (fun ls _ => Nat.ble ls.length most && Nat.ble ls.flatten.length most) fun ls _ => outBs ls.flatten false
theorem take_flat (ls : List (List (BitVec 8))) (i : Nat) : ((ls.take i).flatten).length ≤ ls.flatten.length := by
  have : ls = ls.take i ++ ls.drop i := (List.take_append_drop _ _).symm
  calc ((ls.take i).flatten).length ≤ ((ls.take i ++ ls.drop i).flatten).length := by simp only [List.flatten_append, List.length_append]; omega
    _ = ls.flatten.length := by rw [← this]
theorem take_flat_succ (ls : List (List (BitVec 8))) (i : Nat) (h : i < ls.length) : (ls.take (i + 1)).flatten = (ls.take i).flatten ++ ls[i] := by
  rw [List.take_succ_eq_append_getElem h, List.flatten_append, List.flatten_cons, List.flatten_nil, List.append_nil]
theorem splice_at (acc junk x : List (BitVec 8)) (h : x.length ≤ junk.length) : splice (acc ++ junk) acc.length x = (acc ++ x) ++ junk.drop x.length := by
  unfold splice
  have h1 : (acc ++ junk).take acc.length = acc := by simp
  have h2 : (acc ++ junk).drop (acc.length + x.length) = junk.drop x.length := by
    rw [List.drop_append, List.drop_eq_nil_of_le (by omega), List.nil_append]; congr 1; omega
  rw [h1, h2]
theorem bjoin_ok (C : Ctx) (hC : CtxOK C P) : Meets C.glob P 28 (Fn.run fBJoin) := by
  refine fn_meets (m_bytes_Join C hC) fun ds rows r h => ?_
  obtain ⟨d, e0, ls, u, rfl, rfl, hd, he, hp, rfl⟩ := fn2_some h
  obtain ⟨l, e, rfl, hl⟩ := rdBss_some hd
  cases rdNil_some he
  simp only [Bool.and_eq_true, Nat.ble_eq] at hp
  obtain ⟨hp1, hp2⟩ := hp
  unfold most at hp1 hp2
  obtain ⟨hlen, hget⟩ := mapO_get hl
  clear h hd he
  refine ⟨rfl, afun_mk rfl ?_⟩
  have hbs : ∀ i (hi : i < ls.length), ∃ x, l[i]? = some x ∧ IsBs x ls[i] := fun i hi => by
    have hi2 : i < l.length := by omega
    have hli : l[i]? = some l[i] := List.getElem?_eq_getElem hi2
    exact ⟨_, hli, rdBs_some (hget i _ _ hli (List.getElem?_eq_getElem hi))⟩
  have hsrc : ∀ x y rows, IsBs x y → srcOf rows (.leaf (.int .u8)) x = some (bs y) := by
    intro x y rows hb
    rcases hb with ⟨h, h2⟩ | ⟨e, h⟩
    · rw [h, h2]; rfl
    · rw [h]; simp [srcOf, Am.sshape, Am.elems]
  have hfit : ∀ x y, IsBs x y → D.fits x .ref = true := fun x y hb => by rcases hb with ⟨h, _⟩ | ⟨e, h⟩ <;> rw [h] <;> rfl
  unfold a_bytes_Join r_bytes_Join
  by_cases h0 : ls.length = 0
  · have hls : ls = [] := List.eq_nil_of_length_eq_zero h0
    have hl0 : l = [] := List.eq_nil_of_length_eq_zero (by omega)
    subst hls hl0
    simp only [↓amD, amU, Nat.reduceBEq, Nat.reduceAdd, Nat.reduceSub, Nat.reduceMul, Nat.reduceMod, Nat.reducePow, Nat.reduceLT, Nat.reduceDiv, Int.reduceToNat, BitVec.reduceToNat, zipEnv, Int.reduceLE, Int.reduceLT, Int.reduceNeg, BitVec.reduceEq, Int.reduceAdd, Int.reduceSub, Int.reduceMul, Nat.reduceLeDiff, Int.reduceEq]
    exact .own _ 0 0 _ true false _ rfl rfl (fun h => by cases h)
  · by_cases h1 : ls.length = 1
    · obtain ⟨y, rfl⟩ : ∃ y, ls = [y] := by
        match ls, h1 with
        | [y], _ => exact ⟨y, rfl⟩
      obtain ⟨x, hx, hb⟩ := hbs 0 (by simp)
      have hb' : IsBs x y := hb
      have hll : l.length = 1 := by rw [← hlen]; rfl
      have hlx : l[0]? = some x := hx
      simp only [↓amD, amU, Nat.reduceBEq, Nat.reduceAdd, Nat.reduceSub, Nat.reduceMul, Nat.reduceMod, Nat.reducePow, Nat.reduceLT, Nat.reduceDiv, Int.reduceToNat, BitVec.reduceToNat, zipEnv, Int.reduceLE, Int.reduceLT, Int.reduceNeg, BitVec.reduceEq, Int.reduceAdd, Int.reduceSub, Int.reduceMul, Nat.reduceLeDiff, Int.reduceEq, hll, hlx, hfit _ _ hb', hsrc _ _ _ hb', hb'.slen, bs_len, decide_true, decide_false]
      have hyl : y.length ≤ 1099511627776 := by simpa using hp2
      refine ⟨by omega, hyl, ?_⟩
      have e1 : [y].flatten = y := by simp
      rw [e1]
      exact .own _ 0 0 _ false false _ rfl rfl (fun h => by cases h)
    · have hl2 : 2 ≤ l.length := by omega
      have c0 : ((l.length : Int) = 0) = False := eq_false (by omega)
      have c1 : ((l.length : Int) = 1) = False := eq_false (by omega)
      simp only [↓amD, amU, Nat.reduceBEq, Nat.reduceAdd, Nat.reduceSub, Nat.reduceMul, Nat.reduceMod, Nat.reducePow, Nat.reduceLT, Nat.reduceDiv, Int.reduceToNat, BitVec.reduceToNat, zipEnv, Int.reduceLE, Int.reduceLT, Int.reduceNeg, BitVec.reduceEq, Int.reduceAdd, Int.reduceSub, Int.reduceMul, Nat.reduceLeDiff, Int.reduceEq, c0, c1, decide_false]
      refine kLoop_up l.length (fun i env rows => has env [(0, .lst .ref l e), (1, .raw (.slice none 0 0)), (42, .lst .ref l e), (43, .raw (it l.length)), (44, .raw (it (i : Int))), (5, .raw (it (((ls.take i).flatten).length : Int)))] ∧ rows = []) ?_ ?_ ⟨?_, rfl⟩
      · rintro i hi env rows ⟨hh, rfl⟩ R hR
        simp only [has] at hh
        obtain ⟨q0, q1, q42, q43, q44, q5, -⟩ := hh
        obtain ⟨x, hx, hb⟩ := hbs i (by omega)
        have hltI : ((i : Int) < (l.length : Int)) = True := eq_true (by omega)
        have hw := wz_succ i (by omega)
        have h0i : ((0 : Int) ≤ (i : Int)) = True := eq_true (by omega)
        have s1 := take_flat ls (i + 1)
        have s2 : ((ls.take (i + 1)).flatten).length = ((ls.take i).flatten).length + ls[i].length := by rw [take_flat_succ ls i (by omega), List.length_append]
        have w1 : wz (9223372036854775807 - (((ls.take i).flatten).length : Int)) = 9223372036854775807 - (((ls.take i).flatten).length : Int) := wz_id (by omega)
        have w2 : ((9223372036854775807 - (((ls.take i).flatten).length : Int)) < (ls[i].length : Int)) = False := eq_false (by omega)
        have w3 : wz ((((ls.take i).flatten).length : Int) + (ls[i].length : Int)) = (((ls.take (i + 1)).flatten).length : Int) := by rw [wz_id (by omega)]; omega
        simp only [↓amD, amU, Nat.reduceBEq, Nat.reduceAdd, Nat.reduceSub, Nat.reduceMul, Nat.reduceMod, Nat.reducePow, Nat.reduceLT, Nat.reduceDiv, Int.reduceToNat, BitVec.reduceToNat, zipEnv, Int.reduceLE, Int.reduceLT, Int.reduceNeg, BitVec.reduceEq, Int.reduceAdd, Int.reduceSub, Int.reduceMul, Nat.reduceLeDiff, Int.reduceEq, q0, q1, q42, q43, q44, q5, hltI, hw, h0i, hx, hfit _ _ hb, hb.slen, w1, w2, w3, decide_true, decide_false]
        exact hR _ _ ⟨by simp only [has, ↓amD, amU, Nat.reduceBEq, Nat.reduceAdd, Nat.reduceSub, Nat.reduceMul, Nat.reduceMod, Nat.reducePow, Nat.reduceLT, Nat.reduceDiv, Int.reduceToNat, BitVec.reduceToNat, zipEnv, Int.reduceLE, Int.reduceLT, Int.reduceNeg, BitVec.reduceEq, Int.reduceAdd, Int.reduceSub, Int.reduceMul, Nat.reduceLeDiff, Int.reduceEq, q0, q1, q42, q43], rfl⟩
      · rintro env rows ⟨hh, rfl⟩ R
        simp only [has] at hh
        obtain ⟨q0, q1, q42, q43, q44, q5, -⟩ := hh
        have hall : (ls.take l.length).flatten = ls.flatten := by rw [← hlen, List.take_length]
        rw [hall] at q5
        obtain ⟨N, hN⟩ : ∃ N, ls.flatten.length = N := ⟨_, rfl⟩
        rw [hN] at q5
        have nl : ((l.length : Int) < (l.length : Int)) = False := eq_false (by omega)
        have n1 : ((0 : Int) ≤ (N : Int)) = True := eq_true (by omega)
        have n2 : ((N : Int) ≤ 1099511627776) = True := eq_true (by omega)
        have n3 : ((N : Int) ≤ (N : Int)) = True := eq_true (by omega)
        have n4 : ∀ q : List (BitVec 8), (q.map fun b => D.raw (u8 b)) = bs q := fun q => rfl
        simp only [↓amD, amU, Nat.reduceBEq, Nat.reduceAdd, Nat.reduceSub, Nat.reduceMul, Nat.reduceMod, Nat.reducePow, Nat.reduceLT, Nat.reduceDiv, Int.reduceToNat, BitVec.reduceToNat, zipEnv, Int.reduceLE, Int.reduceLT, Int.reduceNeg, BitVec.reduceEq, Int.reduceAdd, Int.reduceSub, Int.reduceMul, Nat.reduceLeDiff, Int.reduceEq, q0, q1, q42, q43, q44, q5, nl, n1, n2, n3, n4, decide_false, Nat.sub_zero]
        intro junk hj
        obtain ⟨x, hx, hb⟩ := hbs 0 (by omega)
        have hx0 : l[0]? = some x := hx
        have p0 : ((0 : Int) < (l.length : Int)) = True := eq_true (by omega)
        have p1 : ((1 : Int) ≤ (l.length : Int)) = True := eq_true (by omega)
        simp only [↓amD, amU, Nat.reduceBEq, Nat.reduceAdd, Nat.reduceSub, Nat.reduceMul, Nat.reduceMod, Nat.reducePow, Nat.reduceLT, Nat.reduceDiv, Int.reduceToNat, BitVec.reduceToNat, zipEnv, Int.reduceLE, Int.reduceLT, Int.reduceNeg, BitVec.reduceEq, Int.reduceAdd, Int.reduceSub, Int.reduceMul, Nat.reduceLeDiff, Int.reduceEq, q0, q1, q42, q43, q44, q5, nl, n1, n2, n3, n4, p0, p1, hx0, hfit _ _ hb, hsrc _ _ _ hb, hb.slen, bs_len, decide_true]
        have hl0 : ls[0].length ≤ N := by
          have := take_flat ls 1
          rw [take_flat_succ ls 0 (by omega)] at this
          simp only [List.take_zero, List.flatten_nil, List.nil_append] at this
          omega
        refine Eq.mpr (copy_row (l := junk) (src := ls[0]) rfl (by omega)) ?_
        have t0 : ls[0].take (min ls[0].length N) = ls[0] := List.take_of_length_le (by omega)
        have t1 : splice junk 0 ls[0] = (ls.take 1).flatten ++ junk.drop ls[0].length := by
          have := splice_at [] junk ls[0] (by omega)
          simp only [List.nil_append, List.length_nil] at this
          rw [this, take_flat_succ ls 0 (by omega)]; simp
        have t2 : min ls[0].length N = ((ls.take 1).flatten).length := by rw [take_flat_succ ls 0 (by omega)]; simp; omega
        have t3 : ((l.drop 1).take (l.length - 1)).length = l.length - 1 := by simp
        rw [t0, t1, t2]
        simp only [↓amD, amU, Nat.reduceBEq, Nat.reduceAdd, Nat.reduceSub, Nat.reduceMul, Nat.reduceMod, Nat.reducePow, Nat.reduceLT, Nat.reduceDiv, Int.reduceToNat, BitVec.reduceToNat, zipEnv, Int.reduceLE, Int.reduceLT, Int.reduceNeg, BitVec.reduceEq, Int.reduceAdd, Int.reduceSub, Int.reduceMul, Nat.reduceLeDiff, Int.reduceEq, q0, q1, q42, q43, q44, q5, p1, n3, t3, decide_true]
        generalize hexx : exOf (some (N : Int)) N N N false = exx
        generalize hexy : exOf none l.length l.length l.length e = exy
        refine kLoop_up (l.length - 1) (fun i env rows => has env [(1, .raw (.slice none 0 0)), (70, .lst .ref ((l.drop 1).take (l.length - 1)) exy), (71, .raw (it ((l.length - 1 : Nat) : Int))), (72, .raw (it (i : Int))), (8, .sl L8 0 [] 0 N exx), (9, .raw (it (((ls.take (i + 1)).flatten).length : Int)))] ∧
          ∃ q : List (BitVec 8), rows = [some ⟨L8, bs ((ls.take (i + 1)).flatten ++ q)⟩] ∧ ((ls.take (i + 1)).flatten).length + q.length = N) ?_ ?_ ⟨?_, _, rfl, ?_⟩
        · rintro i hi env rows ⟨hh, q, rfl, hq⟩ R hR
          simp only [has] at hh
          obtain ⟨q1, q70, q71, q72, q8, q9, -⟩ := hh
          obtain ⟨x, hx, hb⟩ := hbs (i + 1) (by omega)
          have hx1 : ((l.drop 1).take (l.length - 1))[i]? = some x := by
            rw [List.getElem?_take, if_pos (by omega), List.getElem?_drop, Nat.add_comm]; exact hx
          have s1 := take_flat ls (i + 1 + 1)
          have s0 := take_flat_succ ls (i + 1) (by omega)
          have s2 : ((ls.take (i + 1 + 1)).flatten).length = ((ls.take (i + 1)).flatten).length + ls[i + 1].length := by rw [s0, List.length_append]
          generalize hacc : (ls.take (i + 1)).flatten = acc at *
          have hltI : ((i : Int) < ((l.length - 1 : Nat) : Int)) = True := eq_true (by omega)
          have hw := wz_succ i (by omega)
          have h0i : ((0 : Int) ≤ (i : Int)) = True := eq_true (by omega)
          have b0 : ((0 : Int) ≤ (acc.length : Int)) = True := eq_true (by omega)
          have b1 : ((acc.length : Int) ≤ (N : Int)) = True := eq_true (by omega)
          have b2 : wz ((acc.length : Int) + 0) = acc.length := by rw [Int.add_zero]; exact wz_id (by omega)
          simp only [↓amD, amU, Nat.reduceBEq, Nat.reduceAdd, Nat.reduceSub, Nat.reduceMul, Nat.reduceMod, Nat.reducePow, Nat.reduceLT, Nat.reduceDiv, Int.reduceToNat, BitVec.reduceToNat, zipEnv, Int.reduceLE, Int.reduceLT, Int.reduceNeg, BitVec.reduceEq, Int.reduceAdd, Int.reduceSub, Int.reduceMul, Nat.reduceLeDiff, Int.reduceEq, q1, q70, q71, q72, q8, q9, hltI, hw, h0i, hx1, t3, hfit _ _ hb, b0, b1, n3, decide_true]
          refine Eq.mpr (copy_row (l := acc ++ q) (src := []) rfl (by rw [List.length_append]; omega)) ?_
          have u0 : splice (acc ++ q) acc.length (([] : List (BitVec 8)).take (min ([] : List (BitVec 8)).length (N - acc.length))) = acc ++ q := by rw [List.take_nil, splice_nil]
          have u1 : (min ([] : List (BitVec 8)).length (N - acc.length)) = 0 := by simp
          rw [u0, u1]
          simp only [↓amD, amU, Nat.reduceBEq, Nat.reduceAdd, Nat.reduceSub, Nat.reduceMul, Nat.reduceMod, Nat.reducePow, Nat.reduceLT, Nat.reduceDiv, Int.reduceToNat, BitVec.reduceToNat, zipEnv, Int.reduceLE, Int.reduceLT, Int.reduceNeg, BitVec.reduceEq, Int.reduceAdd, Int.reduceSub, Int.reduceMul, Nat.reduceLeDiff, Int.reduceEq, q1, q70, q71, q72, q8, q9, hw, h0i, hsrc _ _ _ hb, hb.slen, bs_len, b0, b1, b2, n3, decide_true]
          refine Eq.mpr (copy_row (l := acc ++ q) (src := ls[i + 1]) rfl (by rw [List.length_append]; omega)) ?_
          have u2 : ls[i + 1].take (min ls[i + 1].length (N - acc.length)) = ls[i + 1] := List.take_of_length_le (by omega)
          have u3 : min ls[i + 1].length (N - acc.length) = ls[i + 1].length := by omega
          have u4 : wz ((acc.length : Int) + (ls[i + 1].length : Int)) = (((ls.take (i + 1 + 1)).flatten).length : Int) := by rw [wz_id (by omega)]; omega
          rw [u2, u3, splice_at _ _ _ (by omega)]
          simp only [↓amD, amU, Nat.reduceBEq, Nat.reduceAdd, Nat.reduceSub, Nat.reduceMul, Nat.reduceMod, Nat.reducePow, Nat.reduceLT, Nat.reduceDiv, Int.reduceToNat, BitVec.reduceToNat, zipEnv, Int.reduceLE, Int.reduceLT, Int.reduceNeg, BitVec.reduceEq, Int.reduceAdd, Int.reduceSub, Int.reduceMul, Nat.reduceLeDiff, Int.reduceEq, q1, q70, q71, q72, q8, q9, hw, u4]
          exact hR _ _ ⟨by simp only [has, ↓amD, amU, Nat.reduceBEq, Nat.reduceAdd, Nat.reduceSub, Nat.reduceMul, Nat.reduceMod, Nat.reducePow, Nat.reduceLT, Nat.reduceDiv, Int.reduceToNat, BitVec.reduceToNat, zipEnv, Int.reduceLE, Int.reduceLT, Int.reduceNeg, BitVec.reduceEq, Int.reduceAdd, Int.reduceSub, Int.reduceMul, Nat.reduceLeDiff, Int.reduceEq, q1, q70, q71, q8], q.drop ls[i + 1].length, by rw [s0], by rw [List.length_drop]; omega⟩
        · rintro env rows ⟨hh, q, rfl, hq⟩ R
          simp only [has] at hh
          obtain ⟨q1, q70, q71, q72, q8, q9, -⟩ := hh
          have e1 : l.length - 1 + 1 = ls.length := by omega
          rw [e1, List.take_length] at hq ⊢
          have hq0 : q = [] := List.eq_nil_of_length_eq_zero (by omega)
          have nl2 : (((l.length - 1 : Nat) : Int) < ((l.length - 1 : Nat) : Int)) = False := eq_false (by omega)
          subst hq0
          simp only [↓amD, amU, Nat.reduceBEq, Nat.reduceAdd, Nat.reduceSub, Nat.reduceMul, Nat.reduceMod, Nat.reducePow, Nat.reduceLT, Nat.reduceDiv, Int.reduceToNat, BitVec.reduceToNat, zipEnv, Int.reduceLE, Int.reduceLT, Int.reduceNeg, BitVec.reduceEq, Int.reduceAdd, Int.reduceSub, Int.reduceMul, Nat.reduceLeDiff, Int.reduceEq, q1, q70, q71, q72, q8, q9, nl2, decide_false, List.append_nil]
          rw [← hN]
          exact .own _ 0 0 _ exx false _ rfl rfl (fun h => by cases h)
        · simp only [has, ↓amD, amU, Nat.reduceBEq, Nat.reduceAdd, Nat.reduceSub, Nat.reduceMul, Nat.reduceMod, Nat.reducePow, Nat.reduceLT, Nat.reduceDiv, Int.reduceToNat, BitVec.reduceToNat, zipEnv, Int.reduceLE, Int.reduceLT, Int.reduceNeg, BitVec.reduceEq, Int.reduceAdd, Int.reduceSub, Int.reduceMul, Nat.reduceLeDiff, Int.reduceEq, q1]
        · rw [List.length_drop, ← t2]; omega
      · simp only [has, ↓amD, amU, Nat.reduceBEq, Nat.reduceAdd, Nat.reduceSub, Nat.reduceMul, Nat.reduceMod, Nat.reducePow, Nat.reduceLT, Nat.reduceDiv, Int.reduceToNat, BitVec.reduceToNat, zipEnv, Int.reduceLE, Int.reduceLT, Int.reduceNeg, BitVec.reduceEq, Int.reduceAdd, Int.reduceSub, Int.reduceMul, Nat.reduceLeDiff, Int.reduceEq, List.flatten_nil]
end Job
end Go.Am
