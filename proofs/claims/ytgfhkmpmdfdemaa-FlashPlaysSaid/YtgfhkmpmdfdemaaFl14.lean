/- the flash: what the reference does -/
import Derived.Test.YtgfhkmpmdfdemaaFl13
namespace Go.Am
set_option linter.unusedSimpArgs false
set_option linter.unusedVariables false
attribute [local congr] bnd_congr kCond_congr kGd_congr kPick_congr kCall_congr kIdx_congr kSlice_congr kLoop_congr cond_congr' aBin_congr aBounds_congr aApp_congr aCopy_congr kFn_congr
namespace Job
open Go.Am.F
set_option maxRecDepth 10000
theorem not_sub8 (b : BitVec 8) : 255#8 - b = ~~~b := by
  revert b; decide +kernel
theorem te_form (b w k : BitVec 8) : k &&& w ||| (255#8 - k) &&& b = teV b w k := by
  rw [not_sub8, teV, BitVec.or_comm, BitVec.and_comm (~~~k) b, BitVec.and_comm k w]
/-- what comes behind an act -/
def DoK (rows : Rows) (t : BitVec 8) (i j : Int) (p q x : List (BitVec 8)) (qx : Nat) (K : D → Rows → Prop) : Prop :=
  ∀ rows' q' ex' d, live rows' q' = some ⟨L8, bs (doX t i j p q x)⟩ → (q' = qx ∨ rows.length ≤ q') → AnsAt rows' d (doA t i j p q x) → (∀ r y, live rows r = some y → live rows' r = some y) →
    K (.tup [.sl L8 q' [] 0 x.length ex', d, .raw (it (doE t i j p q x))]) rows'
theorem DoK.stay {rows : Rows} {t : BitVec 8} {i j : Int} {p q x : List (BitVec 8)} {qx : Nat} {K : D → Rows → Prop} (hk : DoK rows t i j p q x qx K) (hx : live rows qx = some ⟨L8, bs x⟩) {e : Int} (hE : doE t i j p q x = e) (he : e ≠ 0) (hX : doX t i j p q x = x) (more : Rows) (ex : Bool) :
    K (.tup [.sl L8 qx [] 0 x.length ex, .raw (.slice none 0 0), .raw (it e)]) (rows ++ more) := by
  have := hk (rows ++ more) qx ex (.raw (.slice none 0 0)) (by rw [hX]; exact live_push hx) (.inl rfl) (.inl ⟨rfl, by rw [doA, if_pos (by rw [hE]; exact he)]⟩) (fun r y h => live_push h)
  rw [hE] at this
  exact this
set_option maxHeartbeats 1000000 in
theorem do0 {rows : Rows} {t : BitVec 8} {i j : Int} {p1 p2 qx : Nat} {p q x : List (BitVec 8)} {ex e1 e2 : Bool} (ht : t % 6#8 = 0#8) (hx : live rows qx = some ⟨L8, bs x⟩) (hp : live rows p1 = some ⟨L8, bs p⟩) (hq : live rows p2 = some ⟨L8, bs q⟩) (hxl : x.length ≤ 768) (hpl : p.length ≤ 300) (hql : q.length ≤ 300) {K : D → Rows → Prop}
    (hk : DoK rows t i j p q x qx K) : afun CR 2 r_ref12_Do a_ref12_Do [.sl L8 qx [] 0 x.length ex, actD t i j (.sl L8 p1 [] 0 p.length e1) (.sl L8 p2 [] 0 q.length e2)] rows K := by
  have w0 : (x.length : Int).tdiv 256 = ((x.length / 256 : Nat) : Int) := rfl
  have w1 : wz ((x.length / 256 : Nat) : Int) = ((x.length / 256 : Nat) : Int) := wz_id (by omega)
  have lx := live_app hx [some ⟨SA, [.agg SA [.raw (u8 t), .raw (it i), .raw (it j), .sl L8 p1 [] 0 p.length e1, .sl L8 p2 [] 0 q.length e2]]⟩]
  have lp := live_app hp [some ⟨SA, [.agg SA [.raw (u8 t), .raw (it i), .raw (it j), .sl L8 p1 [] 0 p.length e1, .sl L8 p2 [] 0 q.length e2]]⟩]
  have lq := live_app hq [some ⟨SA, [.agg SA [.raw (u8 t), .raw (it i), .raw (it j), .sl L8 p1 [] 0 p.length e1, .sl L8 p2 [] 0 q.length e2]]⟩]
  simp only [q_afun]
  unfold a_ref12_Do r_ref12_Do
  have h3 : (((0 : Int) ≤ i) = True ∧ (i < ((x.length / 256 : Nat) : Int)) = True) ∨ (((0 : Int) ≤ i) = False ∧ ((0 : Int) ≤ i) = False) ∨ (((0 : Int) ≤ i) = True ∧ (i < ((x.length / 256 : Nat) : Int)) = False) := by
    by_cases h1 : 0 ≤ i
    · by_cases h2 : i < ((x.length / 256 : Nat) : Int)
      · exact .inl ⟨eq_true h1, eq_true h2⟩
      · exact .inr (.inr ⟨eq_true h1, eq_false h2⟩)
    · exact .inr (.inl ⟨eq_false h1, eq_false h1⟩)
  have ki := fun R K => kIn R K i j x.length (by omega) (by omega)
  have herr := inB_err x i j
  have hE : doE t i j p q x = errW (some (x, false)) i j := by rw [doE, if_pos ht]
  have hX : doX t i j p q x = x := by rw [doX, if_pos ht]
  cases hin : inB i j x.length with
  | false =>
    rw [hin] at ki herr
    simp only [Bool.false_eq_true, if_false] at herr
    rcases h3 with ⟨f1, f2⟩ | ⟨f1, f2⟩ | ⟨f1, f2⟩
    all_goals
      simp only [↓amD, amU, Nat.reduceBEq, Nat.reduceAdd, Nat.reduceSub, Nat.reduceMul, Nat.reduceMod, Nat.reducePow, Nat.reduceLT, Nat.reduceDiv, Int.reduceToNat, BitVec.reduceToNat, zipEnv, Int.reduceLE, Int.reduceLT, Int.reduceNeg, BitVec.reduceEq, Int.reduceAdd, Int.reduceSub, Int.reduceMul, Nat.reduceLeDiff, Int.reduceEq, lv_app0, lv_appk, set_app0, set_appk, List.append_assoc, List.append_nil, Nat.add_assoc, actD, ht, w0, w1, f1, f2, r_in, ki]
      exact hk.stay hx (hE.trans herr) (by decide) hX _ _
  | true =>
    rw [hin] at ki herr
    simp only [if_true] at herr
    obtain ⟨b1, b2, b3, b4⟩ := errW_0 herr
    obtain ⟨i, rfl⟩ := Int.eq_ofNat_of_zero_le b1
    obtain ⟨j, rfl⟩ := Int.eq_ofNat_of_zero_le b2
    have g1 : ((0 : Int) ≤ (i : Int)) = True := eq_true (by omega)
    have g2 : ((i : Int) ≤ (x.length : Int)) = True := eq_true (by omega)
    have hdl : ((x.drop i).take (x.length - i)) = x.drop i := List.take_of_length_le (by rw [List.length_drop]; omega)
    have hA : doA t (i : Int) (j : Int) p q x = sub x i j := by rw [doA, if_neg (by rw [hE, herr]; simp), if_pos ht]; rfl
    have hsl : (sub x i j).length = j := sub_len (by omega)
    have kc := fun R K e (hl : live R qx = some ⟨L8, bs x⟩) => kCutI R K (.sl L8 qx [] i (x.length - i) e) (x.drop i) (j : Int) (by have := BsIn.sub (off := i) (len := x.length - i) (ex := e) hl (by omega); rwa [hdl] at this) (by rw [List.length_drop]; omega) (by rw [List.length_take, List.length_drop]; omega)
    simp only [Int.toNat_natCast] at kc
    have hsb : (x.drop i).take j = sub x i j := rfl
    simp only [hsb, hsl] at kc
    have kc' := fun K e => kc _ K e lx
    have fin := fun (more : Rows) (qa : Nat) hq => hk (rows ++ more) qx ex (.sl L8 qa [] 0 j false) (by rw [hX]; exact live_push hx) (.inl rfl) (.inr ⟨qa, false, by rw [hA, hsl], by rw [hA]; exact hq⟩) (fun r y h => live_push h)
    rw [hE, herr] at fin
    rcases h3 with ⟨f1, f2⟩ | ⟨f1, f2⟩ | ⟨f1, f2⟩
    · simp only [↓amD, amU, Nat.reduceBEq, Nat.reduceAdd, Nat.reduceSub, Nat.reduceMul, Nat.reduceMod, Nat.reducePow, Nat.reduceLT, Nat.reduceDiv, Int.reduceToNat, BitVec.reduceToNat, zipEnv, Int.reduceLE, Int.reduceLT, Int.reduceNeg, BitVec.reduceEq, Int.reduceAdd, Int.reduceSub, Int.reduceMul, Nat.reduceLeDiff, Int.reduceEq, lv_app0, lv_appk, set_app0, set_appk, List.append_assoc, List.append_nil, Nat.add_assoc, actD, ht, w0, w1, f1, f2, r_in, ki, g1, g2, r_cut, kc']
      exact fin _ _ (by rw [lv_appk]; rfl)
    · exact absurd b1 (by rw [f1]; exact id)
    · simp only [↓amD, amU, Nat.reduceBEq, Nat.reduceAdd, Nat.reduceSub, Nat.reduceMul, Nat.reduceMod, Nat.reducePow, Nat.reduceLT, Nat.reduceDiv, Int.reduceToNat, BitVec.reduceToNat, zipEnv, Int.reduceLE, Int.reduceLT, Int.reduceNeg, BitVec.reduceEq, Int.reduceAdd, Int.reduceSub, Int.reduceMul, Nat.reduceLeDiff, Int.reduceEq, lv_app0, lv_appk, set_app0, set_appk, List.append_assoc, List.append_nil, Nat.add_assoc, actD, ht, w0, w1, f1, f2, r_in, ki, g1, g2, r_cut, kc']
      exact fin _ _ (by rw [lv_appk]; rfl)
set_option maxHeartbeats 1000000 in
theorem do2 {rows : Rows} {t : BitVec 8} {i j : Int} {p1 p2 qx : Nat} {p q x : List (BitVec 8)} {ex e1 e2 : Bool} (ht : t % 6#8 = 2#8) (hx : live rows qx = some ⟨L8, bs x⟩) (hp : live rows p1 = some ⟨L8, bs p⟩) (hq : live rows p2 = some ⟨L8, bs q⟩) (hxl : x.length ≤ 768) (hpl : p.length ≤ 300) (hql : q.length ≤ 300) {K : D → Rows → Prop}
    (hk : DoK rows t i j p q x qx K) : afun CR 2 r_ref12_Do a_ref12_Do [.sl L8 qx [] 0 x.length ex, actD t i j (.sl L8 p1 [] 0 p.length e1) (.sl L8 p2 [] 0 q.length e2)] rows K := by
  have w0 : (x.length : Int).tdiv 256 = ((x.length / 256 : Nat) : Int) := rfl
  have w1 : wz ((x.length / 256 : Nat) : Int) = ((x.length / 256 : Nat) : Int) := wz_id (by omega)
  have lx := live_app hx [some ⟨SA, [.agg SA [.raw (u8 t), .raw (it i), .raw (it j), .sl L8 p1 [] 0 p.length e1, .sl L8 p2 [] 0 q.length e2]]⟩]
  have lp := live_app hp [some ⟨SA, [.agg SA [.raw (u8 t), .raw (it i), .raw (it j), .sl L8 p1 [] 0 p.length e1, .sl L8 p2 [] 0 q.length e2]]⟩]
  have lq := live_app hq [some ⟨SA, [.agg SA [.raw (u8 t), .raw (it i), .raw (it j), .sl L8 p1 [] 0 p.length e1, .sl L8 p2 [] 0 q.length e2]]⟩]
  simp only [q_afun]
  unfold a_ref12_Do r_ref12_Do
  have h3 : (((0 : Int) ≤ i) = True ∧ (i < ((x.length / 256 : Nat) : Int)) = True) ∨ (((0 : Int) ≤ i) = False ∧ ((0 : Int) ≤ i) = False) ∨ (((0 : Int) ≤ i) = True ∧ (i < ((x.length / 256 : Nat) : Int)) = False) := by
    by_cases h1 : 0 ≤ i
    · by_cases h2 : i < ((x.length / 256 : Nat) : Int)
      · exact .inl ⟨eq_true h1, eq_true h2⟩
      · exact .inr (.inr ⟨eq_true h1, eq_false h2⟩)
    · exact .inr (.inl ⟨eq_false h1, eq_false h1⟩)
  have hE : doE t i j p q x = wrE x i p := by rw [doE, if_neg (by rw [ht]; decide), if_neg (by rw [ht]; decide), if_pos ht]
  have hX : doX t i j p q x = wrX x i p := by rw [doX, if_neg (by rw [ht]; decide), if_neg (by rw [ht]; decide), if_pos ht]
  have kl := fun K => kLay (BsIn.own (ex := ex) lx x.length rfl) (BsIn.own (ex := e1) lp p.length rfl) i (by omega) (by omega) K
  by_cases h0 : wrE x i p = 0
  · have hA : doA t i j p q x = [] := by rw [doA, if_neg (by rw [hE, h0]; simp), if_neg (by rw [ht]; decide), if_pos (.inr (.inl ht))]
    rw [outL, if_pos h0] at kl
    have hxe := wrX_len x i p
    have fin := fun (more : Rows) (q' : Nat) hq hle => hk (rows ++ more) q' false (.raw (.slice none 0 0)) (by rw [hX]; exact hq) (.inr hle) (.inl ⟨rfl, hA⟩) (fun r y h => live_push h)
    rw [hE, h0] at fin
    simp only [shift, shiftL, shiftRows, Sh.pure, cond_true] at kl
    rcases h3 with ⟨f1, f2⟩ | ⟨f1, f2⟩ | ⟨f1, f2⟩
    all_goals
      simp only [↓amD, amU, Nat.reduceBEq, Nat.reduceAdd, Nat.reduceSub, Nat.reduceMul, Nat.reduceMod, Nat.reducePow, Nat.reduceLT, Nat.reduceDiv, Int.reduceToNat, BitVec.reduceToNat, zipEnv, Int.reduceLE, Int.reduceLT, Int.reduceNeg, BitVec.reduceEq, Int.reduceAdd, Int.reduceSub, Int.reduceMul, Nat.reduceLeDiff, Int.reduceEq, lv_app0, lv_appk, set_app0, set_appk, List.append_assoc, List.append_nil, Nat.add_assoc, actD, ht, w0, w1, f1, f2, r_lay, kl]
      exact fin _ _ (by rw [lv_appk]; rfl) (by omega)
  · have hXx : wrX x i p = x := by rw [wrX, if_neg h0]
    have h0' : (wrE x i p = 0) = False := eq_false h0
    rw [outL, if_neg h0] at kl
    simp only [shift, shiftL, shiftRows, List.append_nil] at kl
    rcases h3 with ⟨f1, f2⟩ | ⟨f1, f2⟩ | ⟨f1, f2⟩
    all_goals
      simp only [↓amD, amU, Nat.reduceBEq, Nat.reduceAdd, Nat.reduceSub, Nat.reduceMul, Nat.reduceMod, Nat.reducePow, Nat.reduceLT, Nat.reduceDiv, Int.reduceToNat, BitVec.reduceToNat, zipEnv, Int.reduceLE, Int.reduceLT, Int.reduceNeg, BitVec.reduceEq, Int.reduceAdd, Int.reduceSub, Int.reduceMul, Nat.reduceLeDiff, Int.reduceEq, lv_app0, lv_appk, set_app0, set_appk, List.append_assoc, List.append_nil, Nat.add_assoc, actD, ht, w0, w1, f1, f2, r_lay, kl, h0', decide_false]
      exact hk.stay hx hE h0 (hX.trans hXx) _ _
set_option maxHeartbeats 1000000 in
theorem do4 {rows : Rows} {t : BitVec 8} {i j : Int} {p1 p2 qx : Nat} {p q x : List (BitVec 8)} {ex e1 e2 : Bool} (ht : t % 6#8 = 4#8) (hx : live rows qx = some ⟨L8, bs x⟩) (hp : live rows p1 = some ⟨L8, bs p⟩) (hq : live rows p2 = some ⟨L8, bs q⟩) (hxl : x.length ≤ 768) (hpl : p.length ≤ 300) (hql : q.length ≤ 300) {K : D → Rows → Prop}
    (hk : DoK rows t i j p q x qx K) : afun CR 2 r_ref12_Do a_ref12_Do [.sl L8 qx [] 0 x.length ex, actD t i j (.sl L8 p1 [] 0 p.length e1) (.sl L8 p2 [] 0 q.length e2)] rows K := by
  have w0 : (x.length : Int).tdiv 256 = ((x.length / 256 : Nat) : Int) := rfl
  have w1 : wz ((x.length / 256 : Nat) : Int) = ((x.length / 256 : Nat) : Int) := wz_id (by omega)
  have lx := live_app hx [some ⟨SA, [.agg SA [.raw (u8 t), .raw (it i), .raw (it j), .sl L8 p1 [] 0 p.length e1, .sl L8 p2 [] 0 q.length e2]]⟩]
  have lp := live_app hp [some ⟨SA, [.agg SA [.raw (u8 t), .raw (it i), .raw (it j), .sl L8 p1 [] 0 p.length e1, .sl L8 p2 [] 0 q.length e2]]⟩]
  have lq := live_app hq [some ⟨SA, [.agg SA [.raw (u8 t), .raw (it i), .raw (it j), .sl L8 p1 [] 0 p.length e1, .sl L8 p2 [] 0 q.length e2]]⟩]
  simp only [q_afun]
  unfold a_ref12_Do r_ref12_Do
  have h3 : (((0 : Int) ≤ i) = True ∧ (i < ((x.length / 256 : Nat) : Int)) = True) ∨ (((0 : Int) ≤ i) = False ∧ ((0 : Int) ≤ i) = False) ∨ (((0 : Int) ≤ i) = True ∧ (i < ((x.length / 256 : Nat) : Int)) = False) := by
    by_cases h1 : 0 ≤ i
    · by_cases h2 : i < ((x.length / 256 : Nat) : Int)
      · exact .inl ⟨eq_true h1, eq_true h2⟩
      · exact .inr (.inr ⟨eq_true h1, eq_false h2⟩)
    · exact .inr (.inl ⟨eq_false h1, eq_false h1⟩)
  have ki := fun R K => kIn R K i 1 x.length (by omega) (by omega)
  have herr := inB_err x i 1
  have hE : doE t i j p q x = tuE x i := by rw [doE, if_neg (by rw [ht]; decide), if_neg (by rw [ht]; decide), if_neg (by rw [ht]; decide), if_neg (by rw [ht]; decide), if_pos ht]
  have hX : doX t i j p q x = tuX x i (BitVec.ofInt 8 j) := by rw [doX, if_neg (by rw [ht]; decide), if_neg (by rw [ht]; decide), if_neg (by rw [ht]; decide), if_neg (by rw [ht]; decide), if_pos ht]
  cases hin : inB i 1 x.length with
  | false =>
    rw [hin] at ki herr
    simp only [Bool.false_eq_true, if_false] at herr
    have hXx : tuX x i (BitVec.ofInt 8 j) = x := by rw [tuX, if_neg (by rw [tuE, herr]; decide)]
    rcases h3 with ⟨f1, f2⟩ | ⟨f1, f2⟩ | ⟨f1, f2⟩
    all_goals
      simp only [↓amD, amU, Nat.reduceBEq, Nat.reduceAdd, Nat.reduceSub, Nat.reduceMul, Nat.reduceMod, Nat.reducePow, Nat.reduceLT, Nat.reduceDiv, Int.reduceToNat, BitVec.reduceToNat, zipEnv, Int.reduceLE, Int.reduceLT, Int.reduceNeg, BitVec.reduceEq, Int.reduceAdd, Int.reduceSub, Int.reduceMul, Nat.reduceLeDiff, Int.reduceEq, lv_app0, lv_appk, set_app0, set_appk, List.append_assoc, List.append_nil, Nat.add_assoc, actD, ht, w0, w1, f1, f2, r_in, ki]
      exact hk.stay hx (hE.trans herr) (by decide) (hX.trans hXx) _ _
  | true =>
    rw [hin] at ki herr
    simp only [if_true] at herr
    obtain ⟨b1, b2, b3, b4⟩ := errW_0 herr
    obtain ⟨i, rfl⟩ := Int.eq_ofNat_of_zero_le b1
    have g1 : ((0 : Int) ≤ (i : Int)) = True := eq_true (by omega)
    have g2 : ((i : Int) < (x.length : Int)) = True := eq_true (by omega)
    have htu := tu_ok (x := x) (a := i) (BitVec.ofInt 8 j) (by omega)
    have hA : doA t (i : Int) j p q x = [] := by rw [doA, if_neg (by rw [hE, htu.1]; simp), if_neg (by rw [ht]; decide), if_pos (.inr (.inr (.inr ht)))]
    have gx : (bs x)[i]? = some (.raw (u8 (x.getD i 0#8))) := bs_get (by omega)
    have kj := fun K => kJoin (rows ++ [some ⟨SA, [.agg SA [.raw (u8 t), .raw (it (i : Int)), .raw (it j), .sl L8 p1 [] 0 p.length e1, .sl L8 p2 [] 0 q.length e2]]⟩, some ⟨.ref, [.sl L8 qx [] 0 x.length ex]⟩]) K (rows.length + 1) 1 true [.sl L8 qx [] 0 x.length ex] [x] (by rw [lv_appk]; rfl) rfl (.cons (BsIn.own (live_push hx) _ rfl) .nil) (by simp) (by simp; omega)
    have hfl : [x].flatten = x := by simp
    rw [hfl] at kj
    have fin := fun (more : Rows) (q' : Nat) hq hle => hk (rows ++ more) q' false (.raw (.slice none 0 0)) (by rw [hX, htu.2]; exact hq) (.inr hle) (.inl ⟨rfl, hA⟩) (fun r y h => live_push h)
    rw [hE, htu.1] at fin
    rcases h3 with ⟨f1, f2⟩ | ⟨f1, f2⟩ | ⟨f1, f2⟩
    · simp only [↓amD, amU, Nat.reduceBEq, Nat.reduceAdd, Nat.reduceSub, Nat.reduceMul, Nat.reduceMod, Nat.reducePow, Nat.reduceLT, Nat.reduceDiv, Int.reduceToNat, BitVec.reduceToNat, zipEnv, Int.reduceLE, Int.reduceLT, Int.reduceNeg, BitVec.reduceEq, Int.reduceAdd, Int.reduceSub, Int.reduceMul, Nat.reduceLeDiff, Int.reduceEq, lv_app0, lv_appk, set_app0, set_appk, List.append_assoc, List.append_nil, Nat.add_assoc, actD, ht, w0, w1, f1, f2, r_in, ki, g1, g2, r_join, kj, gx, bs_set]
      exact fin _ _ (by rw [lv_appk]; rfl) (by omega)
    · exact absurd b1 (by rw [f1]; exact id)
    · simp only [↓amD, amU, Nat.reduceBEq, Nat.reduceAdd, Nat.reduceSub, Nat.reduceMul, Nat.reduceMod, Nat.reducePow, Nat.reduceLT, Nat.reduceDiv, Int.reduceToNat, BitVec.reduceToNat, zipEnv, Int.reduceLE, Int.reduceLT, Int.reduceNeg, BitVec.reduceEq, Int.reduceAdd, Int.reduceSub, Int.reduceMul, Nat.reduceLeDiff, Int.reduceEq, lv_app0, lv_appk, set_app0, set_appk, List.append_assoc, List.append_nil, Nat.add_assoc, actD, ht, w0, w1, f1, f2, r_in, ki, g1, g2, r_join, kj, gx, bs_set]
      exact fin _ _ (by rw [lv_appk]; rfl) (by omega)
end Job
end Go.Am
