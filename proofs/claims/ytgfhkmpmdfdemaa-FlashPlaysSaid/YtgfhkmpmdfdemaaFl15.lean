/- the flash: what the reference does to a page -/
import Derived.Test.YtgfhkmpmdfdemaaFl14
namespace Go.Am
set_option linter.unusedSimpArgs false
set_option linter.unusedVariables false
attribute [local congr] bnd_congr kCond_congr kGd_congr kPick_congr kCall_congr kIdx_congr kSlice_congr kLoop_congr cond_congr' aBin_congr aBounds_congr aApp_congr aCopy_congr kFn_congr
namespace Job
open Go.Am.F
set_option maxRecDepth 10000
theorem er9 {x : List (BitVec 8)} {i : Int} (h : ¬ (0 ≤ i ∧ i < ((x.length / 256 : Nat) : Int))) : erE x i = 9 := by
  simp only [erE, errP]; rw [if_pos (by omega)]
/-- three parts joined -/
theorem kJoin3 {R : Rows} {qx qz qj i : Nat} {x z : List (BitVec 8)} (hx : live R qx = some ⟨L8, bs x⟩) (hz : live R qz = some ⟨L8, bs z⟩) (hzl : z.length = 256) (hle : 256 * i + 256 ≤ x.length) (hxl : x.length ≤ 768) {e1 e2 e3 : Bool} (hj : live R qj = some ⟨.ref, [.sl L8 qx [] 0 (256 * i) e1, .sl L8 qz [] 0 256 e2, .sl L8 qx [] (256 * i + 256) (x.length - (256 * i + 256)) e3]⟩) (K : D → Rows → Prop) :
    kCall fJoin R K [.sl .ref qj [] 0 3 true] = K (.sl L8 (0 + R.length) [] 0 x.length false) (R ++ [some ⟨L8, bs (splice x (256 * i) z)⟩]) := by
  have hdl2 : ((x.drop (256 * i + 256)).take (x.length - (256 * i + 256))) = x.drop (256 * i + 256) := List.take_of_length_le (by rw [List.length_drop]; omega)
  have b1 : BsIn R (.sl L8 qx [] 0 (256 * i) e1) (x.take (256 * i)) := by
    have := BsIn.sub (off := 0) (len := 256 * i) (ex := e1) hx (by omega)
    rwa [List.drop_zero] at this
  have b2 : BsIn R (.sl L8 qz [] 0 256 e2) z := BsIn.own hz _ hzl.symm
  have b3 : BsIn R (.sl L8 qx [] (256 * i + 256) (x.length - (256 * i + 256)) e3) (x.drop (256 * i + 256)) := by
    have := BsIn.sub (off := 256 * i + 256) (len := x.length - (256 * i + 256)) (ex := e3) hx (by omega)
    rwa [hdl2] at this
  have hfl := erX_join x i z hle hzl
  have hspl := splice_len x (256 * i) z (by omega)
  have := kJoin R K qj 3 true _ [x.take (256 * i), z, x.drop (256 * i + 256)] hj rfl (.cons b1 (.cons b2 (.cons b3 .nil))) (by simp) (by rw [hfl, hspl]; omega)
  rw [hfl, hspl] at this
  exact this
set_option maxHeartbeats 1000000 in
theorem do1 {rows : Rows} {t : BitVec 8} {i j : Int} {p1 p2 qx : Nat} {p q x : List (BitVec 8)} {ex e1 e2 : Bool} (ht : t % 6#8 = 1#8) (hx : live rows qx = some ⟨L8, bs x⟩) (hp : live rows p1 = some ⟨L8, bs p⟩) (hq : live rows p2 = some ⟨L8, bs q⟩) (hxl : x.length ≤ 768) (hpl : p.length ≤ 300) (hql : q.length ≤ 300) {K : D → Rows → Prop}
    (hk : DoK rows t i j p q x qx K) : afun CR 2 r_ref12_Do a_ref12_Do [.sl L8 qx [] 0 x.length ex, actD t i j (.sl L8 p1 [] 0 p.length e1) (.sl L8 p2 [] 0 q.length e2)] rows K := by
  have w0 : (x.length : Int).tdiv 256 = ((x.length / 256 : Nat) : Int) := rfl
  have w1 : wz ((x.length / 256 : Nat) : Int) = ((x.length / 256 : Nat) : Int) := wz_id (by omega)
  have lx := live_app hx [some ⟨SA, [.agg SA [.raw (u8 t), .raw (it i), .raw (it j), .sl L8 p1 [] 0 p.length e1, .sl L8 p2 [] 0 q.length e2]]⟩]
  have lp := live_app hp [some ⟨SA, [.agg SA [.raw (u8 t), .raw (it i), .raw (it j), .sl L8 p1 [] 0 p.length e1, .sl L8 p2 [] 0 q.length e2]]⟩]
  have lq := live_app hq [some ⟨SA, [.agg SA [.raw (u8 t), .raw (it i), .raw (it j), .sl L8 p1 [] 0 p.length e1, .sl L8 p2 [] 0 q.length e2]]⟩]
  simp only [q_afun]
  unfold a_ref12_Do r_ref12_Do
  have h3 : (((0 : Int) ≤ i) = True ∧ (i < ((x.length / 256 : Nat) : Int)) = True) ∨ (((0 : Int) ≤ i) = False ∧ ((0 : Int) ≤ i) = False) ∨ (((0 : Int) ≤ i) = True ∧ (i < ((x.length / 256 : Nat) : Int)) = False) := by
    by_cases h1 : 0 ≤ i
    · by_cases h2 : i < ((x.length / 256 : Nat) : Int)
      · exact .inl ⟨eq_true h1, eq_true h2⟩
      · exact .inr (.inr ⟨eq_true h1, eq_false h2⟩)
    · exact .inr (.inl ⟨eq_false h1, eq_false h1⟩)
  have hEE : doE t i j p q x = erE x i := by rw [doE, if_neg (by rw [ht]; decide), if_pos ht]
  have hXX : erE x i = 9 → doX t i j p q x = x := fun h => by rw [doX, if_neg (by rw [ht]; decide), if_pos ht, erX, if_neg (by rw [h]; decide)]
  rcases h3 with ⟨f1, f2⟩ | ⟨f1, f2⟩ | ⟨f1, f2⟩
  · have i0 := of_eq_true f1
    have il := of_eq_true f2
    obtain ⟨i, rfl⟩ := Int.eq_ofNat_of_zero_le i0
    have hle : 256 * i + 256 ≤ x.length := by omega
    have h0 : erE x (i : Int) = 0 := by simp only [erE, errP]; rw [if_neg (by omega)]
    have w2 : wz (256 * (i : Int)) = ((256 * i : Nat) : Int) := by rw [wz_id (by omega)]; omega
    have w3 : wz (((256 * i : Nat) : Int) + 256) = ((256 * i + 256 : Nat) : Int) := by rw [wz_id (by omega)]; omega
    have g1 : ((0 : Int) ≤ ((256 * i : Nat) : Int)) = True := eq_true (by omega)
    have g2 : (((256 * i : Nat) : Int) ≤ (x.length : Int)) = True := eq_true (by omega)
    have g3 : ((0 : Int) ≤ ((256 * i + 256 : Nat) : Int)) = True := eq_true (by omega)
    have g4 : (((256 * i + 256 : Nat) : Int) ≤ (x.length : Int)) = True := eq_true (by omega)
    have hsl : (sub x (256 * i) 256).length = 256 := sub_len hle
    have hdl : ((x.drop (256 * i)).take (x.length - 256 * i)) = x.drop (256 * i) := List.take_of_length_le (by rw [List.length_drop]; omega)
    have hdl2 : ((x.drop (256 * i + 256)).take (x.length - (256 * i + 256))) = x.drop (256 * i + 256) := List.take_of_length_le (by rw [List.length_drop]; omega)
    have h256 : Int.toNat 256 = 256 := rfl
    have kc := fun K e => kCutI _ K (.sl L8 qx [] (256 * i) (x.length - 256 * i) e) (x.drop (256 * i)) 256 (by have := BsIn.sub (off := 256 * i) (len := x.length - 256 * i) (ex := e) lx (by omega); rwa [hdl] at this) (by rw [List.length_drop]; omega) (by rw [List.length_take, List.length_drop]; omega)
    have hsb : (x.drop (256 * i)).take 256 = sub x (256 * i) 256 := rfl
    simp only [h256, hsb, hsl] at kc
    obtain ⟨z, hz⟩ : ∃ z, z = List.replicate 256 255#8 := ⟨_, rfl⟩
    have hzl : z.length = 256 := by rw [hz, List.length_replicate]
    have kn := fun R K => kRNew R K 1 (by omega)
    rw [show ((1 : Nat) : Int) = 1 from rfl, show 256 * 1 = 256 from rfl, ← hz] at kn
    have hX : doX t (i : Int) j p q x = splice x (256 * i) z := by rw [doX, if_neg (by rw [ht]; decide), if_pos ht, erX, if_pos h0, hz]; rfl
    have hA : doA t (i : Int) j p q x = [] := by rw [doA, if_neg (by rw [hEE, h0]; simp), if_neg (by rw [ht]; decide), if_pos (.inl ht)]
    have kj := fun K e1' e3' => kJoin3 (R := rows ++ [some ⟨SA, [.agg SA [.raw (u8 t), .raw (it (i : Int)), .raw (it j), .sl L8 p1 [] 0 p.length e1, .sl L8 p2 [] 0 q.length e2]]⟩, some ⟨L8, bs (sub x (256 * i) 256)⟩, some ⟨L8, bs z⟩, some ⟨.ref, [.sl L8 qx [] 0 (256 * i) e1', .sl L8 (rows.length + 2) [] 0 256 false, .sl L8 qx [] (256 * i + 256) (x.length - (256 * i + 256)) e3']⟩]) (live_push hx) (qz := rows.length + 2) (by rw [lv_appk]; rfl) hzl hle hxl (qj := rows.length + 3) (by rw [lv_appk]; rfl) K
    have fin := fun (more : Rows) (q' : Nat) hq hle => hk (rows ++ more) q' false (.raw (.slice none 0 0)) (by rw [hX]; exact hq) (.inr hle) (.inl ⟨rfl, hA⟩) (fun r y h => live_push h)
    rw [hEE, h0] at fin
    simp only [↓amD, amU, Nat.reduceBEq, Nat.reduceAdd, Nat.reduceSub, Nat.reduceMul, Nat.reduceMod, Nat.reducePow, Nat.reduceLT, Nat.reduceDiv, Int.reduceToNat, BitVec.reduceToNat, zipEnv, Int.reduceLE, Int.reduceLT, Int.reduceNeg, BitVec.reduceEq, Int.reduceAdd, Int.reduceSub, Int.reduceMul, Nat.reduceLeDiff, Int.reduceEq, lv_app0, lv_appk, set_app0, set_appk, List.append_assoc, List.append_nil, Nat.add_assoc, actD, ht, w0, w1, f1, f2, w2, w3, g1, g2, g3, g4, r_cut, kc, r_new, kn, r_join, kj, Nat.sub_zero]
    exact fin _ _ (by rw [lv_appk]; rfl) (by omega)
  · have hE9 := er9 (x := x) (i := i) (fun h => by rw [f1] at h; exact h.1)
    simp only [↓amD, amU, Nat.reduceBEq, Nat.reduceAdd, Nat.reduceSub, Nat.reduceMul, Nat.reduceMod, Nat.reducePow, Nat.reduceLT, Nat.reduceDiv, Int.reduceToNat, BitVec.reduceToNat, zipEnv, Int.reduceLE, Int.reduceLT, Int.reduceNeg, BitVec.reduceEq, Int.reduceAdd, Int.reduceSub, Int.reduceMul, Nat.reduceLeDiff, Int.reduceEq, lv_app0, lv_appk, set_app0, set_appk, List.append_assoc, List.append_nil, Nat.add_assoc, actD, ht, w0, w1, f1, f2]
    exact hk.stay hx (hEE.trans hE9) (by decide) (hXX hE9) _ _
  · have hE9 := er9 (x := x) (i := i) (fun h => by rw [f2] at h; exact h.2)
    simp only [↓amD, amU, Nat.reduceBEq, Nat.reduceAdd, Nat.reduceSub, Nat.reduceMul, Nat.reduceMod, Nat.reducePow, Nat.reduceLT, Nat.reduceDiv, Int.reduceToNat, BitVec.reduceToNat, zipEnv, Int.reduceLE, Int.reduceLT, Int.reduceNeg, BitVec.reduceEq, Int.reduceAdd, Int.reduceSub, Int.reduceMul, Nat.reduceLeDiff, Int.reduceEq, lv_app0, lv_appk, set_app0, set_appk, List.append_assoc, List.append_nil, Nat.add_assoc, actD, ht, w0, w1, f1, f2]
    exact hk.stay hx (hEE.trans hE9) (by decide) (hXX hE9) _ _
set_option maxHeartbeats 1000000 in
theorem do3 {rows : Rows} {t : BitVec 8} {i j : Int} {p1 p2 qx : Nat} {p q x : List (BitVec 8)} {ex e1 e2 : Bool} (ht : t % 6#8 = 3#8) (hx : live rows qx = some ⟨L8, bs x⟩) (hp : live rows p1 = some ⟨L8, bs p⟩) (hq : live rows p2 = some ⟨L8, bs q⟩) (hxl : x.length ≤ 768) (hpl : p.length ≤ 300) (hql : q.length ≤ 300) {K : D → Rows → Prop}
    (hk : DoK rows t i j p q x qx K) : afun CR 2 r_ref12_Do a_ref12_Do [.sl L8 qx [] 0 x.length ex, actD t i j (.sl L8 p1 [] 0 p.length e1) (.sl L8 p2 [] 0 q.length e2)] rows K := by
  have w0 : (x.length : Int).tdiv 256 = ((x.length / 256 : Nat) : Int) := rfl
  have w1 : wz ((x.length / 256 : Nat) : Int) = ((x.length / 256 : Nat) : Int) := wz_id (by omega)
  have lx := live_app hx [some ⟨SA, [.agg SA [.raw (u8 t), .raw (it i), .raw (it j), .sl L8 p1 [] 0 p.length e1, .sl L8 p2 [] 0 q.length e2]]⟩]
  have lp := live_app hp [some ⟨SA, [.agg SA [.raw (u8 t), .raw (it i), .raw (it j), .sl L8 p1 [] 0 p.length e1, .sl L8 p2 [] 0 q.length e2]]⟩]
  have lq := live_app hq [some ⟨SA, [.agg SA [.raw (u8 t), .raw (it i), .raw (it j), .sl L8 p1 [] 0 p.length e1, .sl L8 p2 [] 0 q.length e2]]⟩]
  simp only [q_afun]
  unfold a_ref12_Do r_ref12_Do
  have h3 : (((0 : Int) ≤ i) = True ∧ (i < ((x.length / 256 : Nat) : Int)) = True) ∨ (((0 : Int) ≤ i) = False ∧ ((0 : Int) ≤ i) = False) ∨ (((0 : Int) ≤ i) = True ∧ (i < ((x.length / 256 : Nat) : Int)) = False) := by
    by_cases h1 : 0 ≤ i
    · by_cases h2 : i < ((x.length / 256 : Nat) : Int)
      · exact .inl ⟨eq_true h1, eq_true h2⟩
      · exact .inr (.inr ⟨eq_true h1, eq_false h2⟩)
    · exact .inr (.inl ⟨eq_false h1, eq_false h1⟩)
  have hEE : doE t i j p q x = erE x i := by rw [doE, if_neg (by rw [ht]; decide), if_neg (by rw [ht]; decide), if_neg (by rw [ht]; decide), if_pos ht]
  have hXX : erE x i = 9 → doX t i j p q x = x := fun h => by rw [doX, if_neg (by rw [ht]; decide), if_neg (by rw [ht]; decide), if_neg (by rw [ht]; decide), if_pos ht, teX, if_neg (by rw [h]; decide)]
  rcases h3 with ⟨f1, f2⟩ | ⟨f1, f2⟩ | ⟨f1, f2⟩
  · have i0 := of_eq_true f1
    have il := of_eq_true f2
    obtain ⟨i, rfl⟩ := Int.eq_ofNat_of_zero_le i0
    have hle : 256 * i + 256 ≤ x.length := by omega
    have h0 : erE x (i : Int) = 0 := by simp only [erE, errP]; rw [if_neg (by omega)]
    have w2 : wz (256 * (i : Int)) = ((256 * i : Nat) : Int) := by rw [wz_id (by omega)]; omega
    have w3 : wz (((256 * i : Nat) : Int) + 256) = ((256 * i + 256 : Nat) : Int) := by rw [wz_id (by omega)]; omega
    have g1 : ((0 : Int) ≤ ((256 * i : Nat) : Int)) = True := eq_true (by omega)
    have g2 : (((256 * i : Nat) : Int) ≤ (x.length : Int)) = True := eq_true (by omega)
    have g3 : ((0 : Int) ≤ ((256 * i + 256 : Nat) : Int)) = True := eq_true (by omega)
    have g4 : (((256 * i + 256 : Nat) : Int) ≤ (x.length : Int)) = True := eq_true (by omega)
    have hsl : (sub x (256 * i) 256).length = 256 := sub_len hle
    have hdl : ((x.drop (256 * i)).take (x.length - 256 * i)) = x.drop (256 * i) := List.take_of_length_le (by rw [List.length_drop]; omega)
    have hdl2 : ((x.drop (256 * i + 256)).take (x.length - (256 * i + 256))) = x.drop (256 * i + 256) := List.take_of_length_le (by rw [List.length_drop]; omega)
    have h256 : Int.toNat 256 = 256 := rfl
    have kc := fun K e => kCutI _ K (.sl L8 qx [] (256 * i) (x.length - 256 * i) e) (x.drop (256 * i)) 256 (by have := BsIn.sub (off := 256 * i) (len := x.length - 256 * i) (ex := e) lx (by omega); rwa [hdl] at this) (by rw [List.length_drop]; omega) (by rw [List.length_take, List.length_drop]; omega)
    have hsb : (x.drop (256 * i)).take 256 = sub x (256 * i) 256 := rfl
    simp only [h256, hsb, hsl] at kc
    have hX : doX t (i : Int) j p q x = teX x (i : Int) p q := by rw [doX, if_neg (by rw [ht]; decide), if_neg (by rw [ht]; decide), if_neg (by rw [ht]; decide), if_pos ht]
    have hA : doA t (i : Int) j p q x = [] := by rw [doA, if_neg (by rw [hEE, h0]; simp), if_neg (by rw [ht]; decide), if_pos (.inr (.inr (.inl ht)))]
    have hM : teM p q ≤ p.length ∧ teM p q ≤ q.length ∧ teM p q ≤ 256 := by unfold teM; omega
    have hMe : teM p q = p.length ∨ teM p q = q.length ∨ teM p q = 256 := by unfold teM; omega
    simp only [↓amD, amU, Nat.reduceBEq, Nat.reduceAdd, Nat.reduceSub, Nat.reduceMul, Nat.reduceMod, Nat.reducePow, Nat.reduceLT, Nat.reduceDiv, Int.reduceToNat, BitVec.reduceToNat, zipEnv, Int.reduceLE, Int.reduceLT, Int.reduceNeg, BitVec.reduceEq, Int.reduceAdd, Int.reduceSub, Int.reduceMul, Nat.reduceLeDiff, Int.reduceEq, lv_app0, lv_appk, set_app0, set_appk, List.append_assoc, List.append_nil, Nat.add_assoc, actD, ht, w0, w1, f1, f2, w2, w3, g1, g2, g3, g4, r_cut, kc]
    refine kLoop_up (teM p q) (fun k env R => has env [(15, .raw (it (k : Int))), (12, .sl L8 (rows.length + 1) [] 0 256 false), (3, .ptr SA rows.length [0]), (0, .sl L8 qx [] 0 x.length ex)] ∧ R = rows ++ [some ⟨SA, [.agg SA [.raw (u8 t), .raw (it (i : Int)), .raw (it j), .sl L8 p1 [] 0 p.length e1, .sl L8 p2 [] 0 q.length e2]]⟩, some ⟨L8, bs (teN (sub x (256 * i) 256) 0 p q k)⟩]) ?_ ?_ ⟨?_, rfl⟩
    · rintro k hkk env R ⟨hh, rfl⟩ R2 hR
      simp only [has] at hh
      obtain ⟨h15, h12, h3, h0', -⟩ := hh
      have e0 : ((k : Int) < 256) = True := eq_true (by omega)
      have e1' : ((k : Int) < (p.length : Int)) = True := eq_true (by omega)
      have e2' : ((k : Int) < (q.length : Int)) = True := eq_true (by omega)
      have b0 : ∀ n : Nat, ((0 : Int) ≤ (n : Int)) = True := fun n => eq_true (by omega)
      have e3 := wz_succ k (by omega)
      have lp' := live_app hp [some ⟨SA, [.agg SA [.raw (u8 t), .raw (it (i : Int)), .raw (it j), .sl L8 p1 [] 0 p.length e1, .sl L8 p2 [] 0 q.length e2]]⟩, some ⟨L8, bs (teN (sub x (256 * i) 256) 0 p q k)⟩]
      have lq' := live_app hq [some ⟨SA, [.agg SA [.raw (u8 t), .raw (it (i : Int)), .raw (it j), .sl L8 p1 [] 0 p.length e1, .sl L8 p2 [] 0 q.length e2]]⟩, some ⟨L8, bs (teN (sub x (256 * i) 256) 0 p q k)⟩]
      have htl := teN_len (sub x (256 * i) 256) 0 p q k
      have t1 : (bs (teN (sub x (256 * i) 256) 0 p q k))[k]? = some (.raw (u8 ((teN (sub x (256 * i) 256) 0 p q k).getD k 0#8))) := bs_get (by omega)
      have t2 : (bs p)[k]? = some (.raw (u8 (p.getD k 0#8))) := bs_get (by omega)
      have t3 : (bs q)[k]? = some (.raw (u8 (q.getD k 0#8))) := bs_get (by omega)
      have hst : (teN (sub x (256 * i) 256) 0 p q k).set k (teV ((teN (sub x (256 * i) 256) 0 p q k).getD k 0#8) (p.getD k 0#8) (q.getD k 0#8)) = teN (sub x (256 * i) 256) 0 p q (k + 1) := by rw [teN, Nat.mul_zero, Nat.zero_add]
      simp only [↓amD, amU, Nat.reduceBEq, Nat.reduceAdd, Nat.reduceSub, Nat.reduceMul, Nat.reduceMod, Nat.reducePow, Nat.reduceLT, Nat.reduceDiv, Int.reduceToNat, BitVec.reduceToNat, zipEnv, Int.reduceLE, Int.reduceLT, Int.reduceNeg, BitVec.reduceEq, Int.reduceAdd, Int.reduceSub, Int.reduceMul, Nat.reduceLeDiff, Int.reduceEq, lv_app0, lv_appk, set_app0, set_appk, List.append_assoc, List.append_nil, Nat.add_assoc, actD, ht, w0, w1, h15, h12, h3, h0', e0, e1', e2', b0, e3, lp', lq', t1, t2, t3, te_form, bs_set, hst, decide_true]
      exact hR _ _ ⟨by simp only [has, ↓amD, amU, Nat.reduceBEq, Nat.reduceAdd, Nat.reduceSub, Nat.reduceMul, Nat.reduceMod, Nat.reducePow, Nat.reduceLT, Nat.reduceDiv, Int.reduceToNat, BitVec.reduceToNat, zipEnv, Int.reduceLE, Int.reduceLT, Int.reduceNeg, BitVec.reduceEq, Int.reduceAdd, Int.reduceSub, Int.reduceMul, Nat.reduceLeDiff, Int.reduceEq, h12, h3, h0'], rfl⟩
    · rintro env R ⟨hh, rfl⟩ R2
      simp only [has] at hh
      obtain ⟨h15, h12, h3, h0', -⟩ := hh
      have hz := teX_join x p q i hle
      have hzl : (teN (sub x (256 * i) 256) 0 p q (teM p q)).length = 256 := by rw [teN_len, hsl]
      have fin := fun (more : Rows) (q' : Nat) hq hle => hk (rows ++ more) q' false (.raw (.slice none 0 0)) (by rw [hX]; exact hq) (.inr hle) (.inl ⟨rfl, hA⟩) (fun r y h => live_push h)
      rw [hEE, h0, ← hz] at fin
      generalize teN (sub x (256 * i) 256) 0 p q (teM p q) = z at *
      have kj := fun K e1' e3' => kJoin3 (R := rows ++ [some ⟨SA, [.agg SA [.raw (u8 t), .raw (it (i : Int)), .raw (it j), .sl L8 p1 [] 0 p.length e1, .sl L8 p2 [] 0 q.length e2]]⟩, some ⟨L8, bs z⟩, some ⟨.ref, [.sl L8 qx [] 0 (256 * i) e1', .sl L8 (rows.length + 1) [] 0 256 false, .sl L8 qx [] (256 * i + 256) (x.length - (256 * i + 256)) e3']⟩]) (live_push hx) (qz := rows.length + 1) (by rw [lv_appk]; rfl) hzl hle hxl (qj := rows.length + 2) (by rw [lv_appk]; rfl) K
      have hcs : (((teM p q : Nat) : Int) < 256) = False ∨ ((((teM p q : Nat) : Int) < 256) = True ∧ (((teM p q : Nat) : Int) < (p.length : Int)) = False) ∨ ((((teM p q : Nat) : Int) < 256) = True ∧ (((teM p q : Nat) : Int) < (p.length : Int)) = True ∧ (((teM p q : Nat) : Int) < (q.length : Int)) = False) := by
        by_cases c1 : ((teM p q : Nat) : Int) < 256
        · by_cases c2 : ((teM p q : Nat) : Int) < (p.length : Int)
          · exact .inr (.inr ⟨eq_true c1, eq_true c2, eq_false (by omega)⟩)
          · exact .inr (.inl ⟨eq_true c1, eq_false c2⟩)
        · exact .inl (eq_false c1)
      rcases hcs with c1 | ⟨c1, c2⟩ | ⟨c1, c2, c3⟩
      · simp only [↓amD, amU, Nat.reduceBEq, Nat.reduceAdd, Nat.reduceSub, Nat.reduceMul, Nat.reduceMod, Nat.reducePow, Nat.reduceLT, Nat.reduceDiv, Int.reduceToNat, BitVec.reduceToNat, zipEnv, Int.reduceLE, Int.reduceLT, Int.reduceNeg, BitVec.reduceEq, Int.reduceAdd, Int.reduceSub, Int.reduceMul, Nat.reduceLeDiff, Int.reduceEq, lv_app0, lv_appk, set_app0, set_appk, List.append_assoc, List.append_nil, Nat.add_assoc, actD, ht, w0, w1, h15, h12, h3, h0', c1, w2, w3, g1, g2, g3, g4, r_join, kj, Nat.sub_zero, decide_true, decide_false]
        exact fin _ _ (by rw [lv_appk]; rfl) (by omega)
      · simp only [↓amD, amU, Nat.reduceBEq, Nat.reduceAdd, Nat.reduceSub, Nat.reduceMul, Nat.reduceMod, Nat.reducePow, Nat.reduceLT, Nat.reduceDiv, Int.reduceToNat, BitVec.reduceToNat, zipEnv, Int.reduceLE, Int.reduceLT, Int.reduceNeg, BitVec.reduceEq, Int.reduceAdd, Int.reduceSub, Int.reduceMul, Nat.reduceLeDiff, Int.reduceEq, lv_app0, lv_appk, set_app0, set_appk, List.append_assoc, List.append_nil, Nat.add_assoc, actD, ht, w0, w1, h15, h12, h3, h0', c1, c2, w2, w3, g1, g2, g3, g4, r_join, kj, Nat.sub_zero, decide_true, decide_false]
        exact fin _ _ (by rw [lv_appk]; rfl) (by omega)
      · simp only [↓amD, amU, Nat.reduceBEq, Nat.reduceAdd, Nat.reduceSub, Nat.reduceMul, Nat.reduceMod, Nat.reducePow, Nat.reduceLT, Nat.reduceDiv, Int.reduceToNat, BitVec.reduceToNat, zipEnv, Int.reduceLE, Int.reduceLT, Int.reduceNeg, BitVec.reduceEq, Int.reduceAdd, Int.reduceSub, Int.reduceMul, Nat.reduceLeDiff, Int.reduceEq, lv_app0, lv_appk, set_app0, set_appk, List.append_assoc, List.append_nil, Nat.add_assoc, actD, ht, w0, w1, h15, h12, h3, h0', c1, c2, c3, w2, w3, g1, g2, g3, g4, r_join, kj, Nat.sub_zero, decide_true, decide_false]
        exact fin _ _ (by rw [lv_appk]; rfl) (by omega)
    · simp only [has, ↓amD, amU, Nat.reduceBEq, Nat.reduceAdd, Nat.reduceSub, Nat.reduceMul, Nat.reduceMod, Nat.reducePow, Nat.reduceLT, Nat.reduceDiv, Int.reduceToNat, BitVec.reduceToNat, zipEnv, Int.reduceLE, Int.reduceLT, Int.reduceNeg, BitVec.reduceEq, Int.reduceAdd, Int.reduceSub, Int.reduceMul, Nat.reduceLeDiff, Int.reduceEq]
  · have hE9 := er9 (x := x) (i := i) (fun h => by rw [f1] at h; exact h.1)
    simp only [↓amD, amU, Nat.reduceBEq, Nat.reduceAdd, Nat.reduceSub, Nat.reduceMul, Nat.reduceMod, Nat.reducePow, Nat.reduceLT, Nat.reduceDiv, Int.reduceToNat, BitVec.reduceToNat, zipEnv, Int.reduceLE, Int.reduceLT, Int.reduceNeg, BitVec.reduceEq, Int.reduceAdd, Int.reduceSub, Int.reduceMul, Nat.reduceLeDiff, Int.reduceEq, lv_app0, lv_appk, set_app0, set_appk, List.append_assoc, List.append_nil, Nat.add_assoc, actD, ht, w0, w1, f1, f2]
    exact hk.stay hx (hEE.trans hE9) (by decide) (hXX hE9) _ _
  · have hE9 := er9 (x := x) (i := i) (fun h => by rw [f2] at h; exact h.2)
    simp only [↓amD, amU, Nat.reduceBEq, Nat.reduceAdd, Nat.reduceSub, Nat.reduceMul, Nat.reduceMod, Nat.reducePow, Nat.reduceLT, Nat.reduceDiv, Int.reduceToNat, BitVec.reduceToNat, zipEnv, Int.reduceLE, Int.reduceLT, Int.reduceNeg, BitVec.reduceEq, Int.reduceAdd, Int.reduceSub, Int.reduceMul, Nat.reduceLeDiff, Int.reduceEq, lv_app0, lv_appk, set_app0, set_appk, List.append_assoc, List.append_nil, Nat.add_assoc, actD, ht, w0, w1, f1, f2]
    exact hk.stay hx (hEE.trans hE9) (by decide) (hXX hE9) _ _
set_option maxHeartbeats 1000000 in
theorem do5 {rows : Rows} {t : BitVec 8} {i j : Int} {p1 p2 qx : Nat} {p q x : List (BitVec 8)} {ex e1 e2 : Bool} (ht : t % 6#8 = 5#8) (hx : live rows qx = some ⟨L8, bs x⟩) (hp : live rows p1 = some ⟨L8, bs p⟩) (hq : live rows p2 = some ⟨L8, bs q⟩) (hxl : x.length ≤ 768) (hpl : p.length ≤ 300) (hql : q.length ≤ 300) {K : D → Rows → Prop}
    (hk : DoK rows t i j p q x qx K) : afun CR 2 r_ref12_Do a_ref12_Do [.sl L8 qx [] 0 x.length ex, actD t i j (.sl L8 p1 [] 0 p.length e1) (.sl L8 p2 [] 0 q.length e2)] rows K := by
  have w0 : (x.length : Int).tdiv 256 = ((x.length / 256 : Nat) : Int) := rfl
  have w1 : wz ((x.length / 256 : Nat) : Int) = ((x.length / 256 : Nat) : Int) := wz_id (by omega)
  have lx := live_app hx [some ⟨SA, [.agg SA [.raw (u8 t), .raw (it i), .raw (it j), .sl L8 p1 [] 0 p.length e1, .sl L8 p2 [] 0 q.length e2]]⟩]
  have lp := live_app hp [some ⟨SA, [.agg SA [.raw (u8 t), .raw (it i), .raw (it j), .sl L8 p1 [] 0 p.length e1, .sl L8 p2 [] 0 q.length e2]]⟩]
  have lq := live_app hq [some ⟨SA, [.agg SA [.raw (u8 t), .raw (it i), .raw (it j), .sl L8 p1 [] 0 p.length e1, .sl L8 p2 [] 0 q.length e2]]⟩]
  simp only [q_afun]
  unfold a_ref12_Do r_ref12_Do
  have h3 : (((0 : Int) ≤ i) = True ∧ (i < ((x.length / 256 : Nat) : Int)) = True) ∨ (((0 : Int) ≤ i) = False ∧ ((0 : Int) ≤ i) = False) ∨ (((0 : Int) ≤ i) = True ∧ (i < ((x.length / 256 : Nat) : Int)) = False) := by
    by_cases h1 : 0 ≤ i
    · by_cases h2 : i < ((x.length / 256 : Nat) : Int)
      · exact .inl ⟨eq_true h1, eq_true h2⟩
      · exact .inr (.inr ⟨eq_true h1, eq_false h2⟩)
    · exact .inr (.inl ⟨eq_false h1, eq_false h1⟩)
  have hEE : erE x i ≠ 0 → doE t i j p q x = erE x i := fun h => by rw [doE, if_neg (by rw [ht]; decide), if_neg (by rw [ht]; decide), if_neg (by rw [ht]; decide), if_neg (by rw [ht]; decide), if_neg (by rw [ht]; decide), errA, if_pos (show errP (some (x, false)) i ≠ 0 from h)]; rfl
  have hXX : doX t i j p q x = x := by rw [doX, if_neg (by rw [ht]; decide), if_neg (by rw [ht]; decide), if_neg (by rw [ht]; decide), if_neg (by rw [ht]; decide), if_neg (by rw [ht]; decide)]
  rcases h3 with ⟨f1, f2⟩ | ⟨f1, f2⟩ | ⟨f1, f2⟩
  · have i0 := of_eq_true f1
    have il := of_eq_true f2
    obtain ⟨i, rfl⟩ := Int.eq_ofNat_of_zero_le i0
    have hle : 256 * i + 256 ≤ x.length := by omega
    have h0 : erE x (i : Int) = 0 := by simp only [erE, errP]; rw [if_neg (by omega)]
    have w2 : wz (256 * (i : Int)) = ((256 * i : Nat) : Int) := by rw [wz_id (by omega)]; omega
    have w3 : wz (((256 * i : Nat) : Int) + 256) = ((256 * i + 256 : Nat) : Int) := by rw [wz_id (by omega)]; omega
    have g1 : ((0 : Int) ≤ ((256 * i : Nat) : Int)) = True := eq_true (by omega)
    have g2 : (((256 * i : Nat) : Int) ≤ (x.length : Int)) = True := eq_true (by omega)
    have g3 : ((0 : Int) ≤ ((256 * i + 256 : Nat) : Int)) = True := eq_true (by omega)
    have g4 : (((256 * i + 256 : Nat) : Int) ≤ (x.length : Int)) = True := eq_true (by omega)
    have hsl : (sub x (256 * i) 256).length = 256 := sub_len hle
    have hdl : ((x.drop (256 * i)).take (x.length - 256 * i)) = x.drop (256 * i) := List.take_of_length_le (by rw [List.length_drop]; omega)
    have hdl2 : ((x.drop (256 * i + 256)).take (x.length - (256 * i + 256))) = x.drop (256 * i + 256) := List.take_of_length_le (by rw [List.length_drop]; omega)
    have h256 : Int.toNat 256 = 256 := rfl
    have kc := fun K e => kCutI _ K (.sl L8 qx [] (256 * i) (x.length - 256 * i) e) (x.drop (256 * i)) 256 (by have := BsIn.sub (off := 256 * i) (len := x.length - 256 * i) (ex := e) lx (by omega); rwa [hdl] at this) (by rw [List.length_drop]; omega) (by rw [List.length_take, List.length_drop]; omega)
    have hsb : (x.drop (256 * i)).take 256 = sub x (256 * i) 256 := rfl
    simp only [h256, hsb, hsl] at kc
    have hP : errP (some (x, false)) (i : Int) = 0 := h0
    have hdE : doE t (i : Int) j p q x = errA (some (x, false)) (i : Int) j p := by rw [doE, if_neg (by rw [ht]; decide), if_neg (by rw [ht]; decide), if_neg (by rw [ht]; decide), if_neg (by rw [ht]; decide), if_neg (by rw [ht]; decide)]
    have hdA : doE t (i : Int) j p q x = 0 → doA t (i : Int) j p q x = datA (some (x, false)) (i : Int) j p := fun h => by
      rw [doA, if_neg (by rw [h]; simp), if_neg (by rw [ht]; decide), if_neg (by rw [ht]; decide)]
    have fin := fun (more : Rows) (qa : Nat) (hl : (doA t (i : Int) j p q x).length = 256) hq => hk (rows ++ more) qx ex (.sl L8 qa [] 0 256 false) (by rw [hXX]; exact live_push hx) (.inl rfl) (.inr ⟨qa, false, by rw [hl], hq⟩) (fun r y h => live_push h)
    by_cases hpn : p = []
    · subst hpn
      obtain ⟨z, hz⟩ : ∃ z, z = List.replicate 256 255#8 := ⟨_, rfl⟩
      have hzl : z.length = 256 := by rw [hz, List.length_replicate]
      have kn := fun R K => kRNew R K 1 (by omega)
      rw [show ((1 : Nat) : Int) = 1 from rfl, show 256 * 1 = 256 from rfl, ← hz] at kn
      have hE0 : doE t (i : Int) j [] q x = 0 := by rw [hdE, errA, if_neg (by rw [hP]; simp), if_pos rfl]
      have hA := hdA hE0
      rw [datA, if_pos rfl, ← hz] at hA
      rw [hE0, hA] at fin
      simp only [List.length_nil] at lp lq kc fin ⊢
      simp only [↓amD, amU, Nat.reduceBEq, Nat.reduceAdd, Nat.reduceSub, Nat.reduceMul, Nat.reduceMod, Nat.reducePow, Nat.reduceLT, Nat.reduceDiv, Int.reduceToNat, BitVec.reduceToNat, zipEnv, Int.reduceLE, Int.reduceLT, Int.reduceNeg, BitVec.reduceEq, Int.reduceAdd, Int.reduceSub, Int.reduceMul, Nat.reduceLeDiff, Int.reduceEq, lv_app0, lv_appk, set_app0, set_appk, List.append_assoc, List.append_nil, Nat.add_assoc, actD, ht, w0, w1, f1, f2, w2, w3, g1, g2, g3, g4, r_cut, kc, r_new, kn]
      exact fin _ _ hzl (by rw [lv_appk]; rfl)
    · have hpz : ((p.length : Int) = 0) = False := eq_false (by have : p.length ≠ 0 := fun h => hpn (List.eq_nil_of_length_eq_zero h); omega)
      have kl := fun K => kLay (rows := rows ++ [some ⟨SA, [.agg SA [.raw (u8 t), .raw (it (i : Int)), .raw (it j), .sl L8 p1 [] 0 p.length e1, .sl L8 p2 [] 0 q.length e2]]⟩, some ⟨L8, bs (sub x (256 * i) 256)⟩]) (d := .sl L8 (rows.length + 1) [] 0 256 false) (x := sub x (256 * i) 256) (BsIn.own (by rw [lv_appk]; rfl) _ hsl.symm) (BsIn.own (ex := e1) (live_push hp) p.length rfl) j (by omega) (by omega) K
      have hEw : doE t (i : Int) j p q x = wrE (sub x (256 * i) 256) j p := by
        rw [hdE, errA, if_neg (by rw [hP]; simp), if_neg hpn]
        have herr : errW (some (sub x (256 * i) 256, false)) j p.length = if j < 0 ∨ 256 < j ∨ 256 - j < (p.length : Int) then 9 else 0 := by
          simp only [errW, hsl]
          by_cases hc : j < 0 ∨ 256 < j ∨ 256 - j < (p.length : Int)
          · rw [if_pos hc, if_pos (by omega)]
          · rw [if_neg hc, if_neg (by omega)]
        rw [wrE, herr]
        by_cases hc : j < 0 ∨ 256 < j ∨ 256 - j < (p.length : Int)
        · rw [if_pos hc, if_pos hc, if_pos (by decide)]
        · rw [if_neg hc, if_neg hc, if_neg (show ¬ ((0 : Int) ≠ 0) by simp)]
          rfl
      by_cases hw : wrE (sub x (256 * i) 256) j p = 0
      · have hE0 := hEw.trans hw
        have hA := hdA hE0
        have hwX : wrX (sub x (256 * i) 256) j p = splice (sub x (256 * i) 256) j.toNat p := by rw [wrX, if_pos hw]
        rw [datA, if_neg hpn] at hA
        have hA' : doA t (i : Int) j p q x = wrX (sub x (256 * i) 256) j p := by rw [hA, hwX]; rfl
        have hwl := wrX_len (sub x (256 * i) 256) j p
        rw [outL, if_pos hw] at kl
        simp only [shift, shiftL, shiftRows, Sh.pure, cond_true, hsl] at kl
        rw [hE0, hA'] at fin
        simp only [↓amD, amU, Nat.reduceBEq, Nat.reduceAdd, Nat.reduceSub, Nat.reduceMul, Nat.reduceMod, Nat.reducePow, Nat.reduceLT, Nat.reduceDiv, Int.reduceToNat, BitVec.reduceToNat, zipEnv, Int.reduceLE, Int.reduceLT, Int.reduceNeg, BitVec.reduceEq, Int.reduceAdd, Int.reduceSub, Int.reduceMul, Nat.reduceLeDiff, Int.reduceEq, lv_app0, lv_appk, set_app0, set_appk, List.append_assoc, List.append_nil, Nat.add_assoc, actD, ht, w0, w1, f1, f2, w2, w3, g1, g2, g3, g4, r_cut, kc, hpz, r_lay, kl, decide_false]
        exact fin _ _ (by rw [hwl, hsl]) (by rw [lv_appk]; rfl)
      · rw [outL, if_neg hw] at kl
        simp only [shift, shiftL, shiftRows, List.append_nil] at kl
        simp only [↓amD, amU, Nat.reduceBEq, Nat.reduceAdd, Nat.reduceSub, Nat.reduceMul, Nat.reduceMod, Nat.reducePow, Nat.reduceLT, Nat.reduceDiv, Int.reduceToNat, BitVec.reduceToNat, zipEnv, Int.reduceLE, Int.reduceLT, Int.reduceNeg, BitVec.reduceEq, Int.reduceAdd, Int.reduceSub, Int.reduceMul, Nat.reduceLeDiff, Int.reduceEq, lv_app0, lv_appk, set_app0, set_appk, List.append_assoc, List.append_nil, Nat.add_assoc, actD, ht, w0, w1, f1, f2, w2, w3, g1, g2, g3, g4, r_cut, kc, hpz, r_lay, kl, decide_false]
        exact hk.stay hx hEw hw hXX _ _
  · have hE9 := er9 (x := x) (i := i) (fun h => by rw [f1] at h; exact h.1)
    simp only [↓amD, amU, Nat.reduceBEq, Nat.reduceAdd, Nat.reduceSub, Nat.reduceMul, Nat.reduceMod, Nat.reducePow, Nat.reduceLT, Nat.reduceDiv, Int.reduceToNat, BitVec.reduceToNat, zipEnv, Int.reduceLE, Int.reduceLT, Int.reduceNeg, BitVec.reduceEq, Int.reduceAdd, Int.reduceSub, Int.reduceMul, Nat.reduceLeDiff, Int.reduceEq, lv_app0, lv_appk, set_app0, set_appk, List.append_assoc, List.append_nil, Nat.add_assoc, actD, ht, w0, w1, f1, f2]
    exact hk.stay hx ((hEE (by rw [hE9]; decide)).trans hE9) (by decide) hXX _ _
  · have hE9 := er9 (x := x) (i := i) (fun h => by rw [f2] at h; exact h.2)
    simp only [↓amD, amU, Nat.reduceBEq, Nat.reduceAdd, Nat.reduceSub, Nat.reduceMul, Nat.reduceMod, Nat.reducePow, Nat.reduceLT, Nat.reduceDiv, Int.reduceToNat, BitVec.reduceToNat, zipEnv, Int.reduceLE, Int.reduceLT, Int.reduceNeg, BitVec.reduceEq, Int.reduceAdd, Int.reduceSub, Int.reduceMul, Nat.reduceLeDiff, Int.reduceEq, lv_app0, lv_appk, set_app0, set_appk, List.append_assoc, List.append_nil, Nat.add_assoc, actD, ht, w0, w1, f1, f2]
    exact hk.stay hx ((hEE (by rw [hE9]; decide)).trans hE9) (by decide) hXX _ _
end Job
end Go.Am
