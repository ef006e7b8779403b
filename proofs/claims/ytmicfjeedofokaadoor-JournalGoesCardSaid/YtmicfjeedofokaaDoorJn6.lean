/- the journal: what its two pages tell, behind what is done -/
import Derived.Test.YtmicfjeedofokaaDoorJn5
namespace Go.Am
set_option linter.unusedSimpArgs false
set_option linter.unusedVariables false
attribute [local congr] bnd_congr kCond_congr kGd_congr kPick_congr kCall_congr kIdx_congr kSlice_congr kLoop_congr cond_congr' aBin_congr aBounds_congr aApp_congr aCopy_congr kFn_congr
namespace Job
open Go.Am.F
set_option maxRecDepth 10000
theorem list_ext0 {a b : List (BitVec 8)} (hl : a.length = b.length) (h : ∀ i, i < a.length → a.getD i 0#8 = b.getD i 0#8) : a = b := by
  refine List.ext_getElem hl fun i h1 h2 => ?_
  have := h i h1
  simpa [List.getD, h1, h2] using this
theorem sub_congr {x y : List (BitVec 8)} (a n : Nat) (hl : x.length = y.length) (h : ∀ t, a ≤ t → t < a + n → x.getD t 0#8 = y.getD t 0#8) : sub x a n = sub y a n := by
  refine list_ext0 (by simp only [sub, List.length_take, List.length_drop, hl]) fun i hi => ?_
  have hi' : i < n := by simp only [sub, List.length_take] at hi; omega
  rw [sub_get _ _ _ _ hi', sub_get _ _ _ _ hi']
  exact h _ (by omega) (by omega)
theorem erE0 {x : List (BitVec 8)} {i : Nat} (hi : 256 * i + 256 ≤ x.length) : erE x (i : Int) = 0 := by
  simp only [erE, errP]; rw [if_neg (by omega)]
theorem newX_out (x : List (BitVec 8)) (i : Nat) (p w : List (BitVec 8)) (hi : 256 * i + 256 ≤ x.length) (t : Nat) (ht : t < 256 * i ∨ 256 * i + 256 ≤ t) : (newX x i p w).getD t 0#8 = x.getD t 0#8 := by
  unfold newX teX
  rw [if_pos (erE0 hi), Int.toNat_natCast]
  have hM : teM (datA (some (x, false)) (i : Int) 0 p) w ≤ 256 := by unfold teM; omega
  rw [teN_get _ _ _ _ _ _ (by omega), if_neg (by omega)]
theorem newX_full (x : List (BitVec 8)) (i : Nat) (p : List (BitVec 8)) (hp : p.length ≤ 256) (hi : 256 * i + 256 ≤ x.length) : sub (newX x i p ff256) (256 * i) 256 = datA (some (x, false)) (i : Int) 0 p := by
  have hd := dat_len x i p hp hi
  refine list_ext0 (by rw [hd]; exact sub_len (by rw [newX_len]; omega)) fun j hj => ?_
  have hj' : j < 256 := by rw [sub_len (by rw [newX_len]; omega)] at hj; exact hj
  rw [sub_get _ _ _ _ hj']
  unfold newX teX
  rw [if_pos (erE0 hi), Int.toNat_natCast]
  have hM : teM (datA (some (x, false)) (i : Int) 0 p) ff256 = 256 := by unfold teM; rw [hd, ff_len]; rfl
  rw [hM, teN_get _ _ _ _ _ _ (by omega), if_pos (by omega), Nat.add_sub_cancel_left, ff_get _ hj', teV_all]
theorem dat_nil (x : List (BitVec 8)) (i : Int) : datA (some (x, false)) i 0 [] = ff256 := by rw [datA, if_pos rfl, ff256]
theorem err_nil {x : List (BitVec 8)} {i : Nat} (hi : 256 * i + 256 ≤ x.length) : errA (some (x, false)) (i : Int) 0 [] = 0 := by
  have hP : errP (some (x, false)) (i : Int) = 0 := erE0 hi
  rw [errA, if_neg (by rw [hP]; simp), if_pos rfl]
theorem err_wr {x p : List (BitVec 8)} {i : Nat} (hi : 256 * i + 256 ≤ x.length) (hp : p.length ≤ 256) (hs : sub x (256 * i) 256 = ff256) : errA (some (x, false)) (i : Int) 0 p = 0 := by
  have hP : errP (some (x, false)) (i : Int) = 0 := erE0 hi
  rw [errA, if_neg (by rw [hP]; simp)]
  split
  · rfl
  · rw [if_neg (by omega), if_pos]
    rw [Int.toNat_natCast]
    show clears ((sub x (256 * i) 256).drop 0) p
    rw [hs, List.drop_zero, ff256]
    exact clears_rep _ _ hp
theorem dat_wr {x p : List (BitVec 8)} {i : Nat} (h0 : 0 < p.length) (hp : p.length ≤ 256) (hs : sub x (256 * i) 256 = ff256) : (datA (some (x, false)) (i : Int) 0 p).take p.length = p := by
  have hne : p ≠ [] := by intro h; rw [h] at h0; simp at h0
  rw [datA, if_neg hne, Int.toNat_natCast]
  show (splice (sub x (256 * i) 256) 0 p).take p.length = p
  rw [splice, List.take_zero, List.nil_append, List.take_left]
theorem sub_take (x : List (BitVec 8)) (a n k : Nat) (h : k ≤ n) : sub x a k = (sub x a n).take k := by
  simp only [sub, List.take_take]; congr 1; omega
theorem nextP_or (K : FV) : nextP K = 32 ∨ nextP K = 33 := by unfold nextP; split <;> simp
/-- the first op -/
theorem erased {x : List (BitVec 8)} {i : Nat} (hi : 256 * i + 256 ≤ x.length) : sub (newX x i [] ff256) (256 * i) 256 = ff256 := by
  rw [newX_full x i [] (by simp) hi, dat_nil]
/-- both -/
theorem next_ok {x : List (BitVec 8)} {K : FV} {s : JS} {q : Nat} (hx : 8704 ≤ x.length) : ∀ (j : Nat) (o : JO), (nextO K s q)[j]? = some o → o.p.length ≤ 256 ∧ 256 * o.i + 256 ≤ x.length ∧ errA (some (doX x ((nextO K s q).take j), false)) (o.i : Int) 0 o.p = 0 := by
  have hi : 256 * nextP K + 256 ≤ x.length := by rcases nextP_or K with h | h <;> rw [h] <;> omega
  intro j o h
  match j with
  | 0 => cases h; exact ⟨by simp, hi, err_nil hi⟩
  | 1 =>
    cases h
    refine ⟨by rw [bytes_len]; omega, hi, ?_⟩
    show errA (some (newX x (nextP K) [] ff256, false)) (nextP K : Int) 0 (bytesJ (nextJ K s)) = 0
    exact err_wr (by rw [newX_len]; exact hi) (by rw [bytes_len]; omega) (erased hi)
  | j + 2 => cases h
theorem next_page {x : List (BitVec 8)} {K : FV} {s : JS} {q : Nat} (hx : 8704 ≤ x.length) : sub (doX x (nextO K s q)) (256 * nextP K) 32 = bytesJ (nextJ K s) := by
  have hi : 256 * nextP K + 256 ≤ x.length := by rcases nextP_or K with h | h <;> rw [h] <;> omega
  have hi2 : 256 * nextP K + 256 ≤ (newX x (nextP K) [] ff256).length := by rw [newX_len]; exact hi
  show sub (newX (newX x (nextP K) [] ff256) (nextP K) (bytesJ (nextJ K s)) ff256) (256 * nextP K) 32 = _
  rw [sub_take _ _ 256 32 (by omega), newX_full _ _ _ (by rw [bytes_len]; omega) hi2]
  have := dat_wr (p := bytesJ (nextJ K s)) (by rw [bytes_len]; omega) (by rw [bytes_len]; omega) (erased hi)
  rwa [bytes_len] at this
theorem next_out {x : List (BitVec 8)} {K : FV} {s : JS} {q : Nat} (hx : 8704 ≤ x.length) (t : Nat) (ht : t < 256 * nextP K ∨ 256 * nextP K + 256 ≤ t) : (doX x (nextO K s q)).getD t 0#8 = x.getD t 0#8 := by
  have hi : 256 * nextP K + 256 ≤ x.length := by rcases nextP_or K with h | h <;> rw [h] <;> omega
  have hi2 : 256 * nextP K + 256 ≤ (newX x (nextP K) [] ff256).length := by rw [newX_len]; exact hi
  show (newX (newX x (nextP K) [] ff256) (nextP K) (bytesJ (nextJ K s)) ff256).getD t 0#8 = _
  rw [newX_out _ _ _ _ hi2 t ht, newX_out _ _ _ _ hi t ht]
/-- two pages' records -/
def pick2 (A B : JS × Bool) : JS × Int :=
  bif A.2 && (!B.2 || decide (B.1.q ≤ A.1.q)) then (A.1, 32) else bif B.2 then (B.1, 33) else (firstJ, -1)
theorem ref_pick (x : List (BitVec 8)) (h : 8704 ≤ x.length) : refJ x = pick2 (parseJ (sub x 8192 32)) (parseJ (sub x 8448 32)) := by
  have hn : ¬ x.length < 8704 := by omega
  unfold refJ pick2
  simp only [hn, if_false]
theorem pick_at (A B : JS × Bool) : ((pick2 A B).2 = 32 ∧ A.2 = true ∧ (pick2 A B).1 = A.1 ∧ (B.2 = true → B.1.q ≤ A.1.q)) ∨ ((pick2 A B).2 = 33 ∧ B.2 = true ∧ (pick2 A B).1 = B.1 ∧ (A.2 = true → A.1.q < B.1.q)) ∨ ((pick2 A B).2 = -1 ∧ A.2 = false ∧ B.2 = false ∧ (pick2 A B).1 = firstJ) := by
  obtain ⟨a, x⟩ := A
  obtain ⟨b, y⟩ := B
  by_cases c : b.q ≤ a.q
  · cases x <;> cases y <;> simp [pick2, c]
  · have c' : a.q < b.q := by rw [BitVec.lt_def]; rw [BitVec.le_def] at c; omega
    cases x <;> cases y <;> simp [pick2, c, c']
theorem next_keep0 {x : List (BitVec 8)} {e : Bool} {s : JS} {q : Nat} (hx : 8704 ≤ x.length) (h : nextP (some (x, e)) = 33) : sub (doX x (nextO (some (x, e)) s q)) 8192 32 = sub x 8192 32 :=
  sub_congr _ _ (doX_len _ _) fun t h1 h2 => next_out hx t (by rw [h]; omega)
theorem next_keep1 {x : List (BitVec 8)} {e : Bool} {s : JS} {q : Nat} (hx : 8704 ≤ x.length) (h : nextP (some (x, e)) = 32) : sub (doX x (nextO (some (x, e)) s q)) 8448 32 = sub x 8448 32 :=
  sub_congr _ _ (doX_len _ _) fun t h1 h2 => next_out hx t (by rw [h]; omega)
theorem right_next (K : FV) (s : JS) : rightJ (nextJ K s) = rightJ s := by
  unfold nextJ
  generalize (readJ K).1.q + 1#32 = z
  rfl
/-- the new state is the newest -/
theorem next_ref {x : List (BitVec 8)} {e : Bool} {s : JS} {q : Nat} (hx : 8704 ≤ x.length) (hb : nextB (some (x, e)) s = true) : refJ (doX x (nextO (some (x, e)) s q)) = (nextJ (some (x, e)) s, (nextP (some (x, e)) : Int)) := by
  have hr := read_ref x e hx
  have hp := ref_pick x hx
  have hrt : rightJ (nextJ (some (x, e)) s) = true := by
    simp only [nextB, Bool.and_eq_true] at hb
    exact (right_next _ s).trans hb.2
  have hpb := parse_bytes _ hrt
  have hne : ¬ (readJ (some (x, e))).1.q + 1#32 = 0#32 := by
    simp only [nextB, Bool.and_eq_true, Bool.not_eq_true', decide_eq_false_iff_not] at hb
    exact hb.1
  have hlt : (readJ (some (x, e))).1.q < (nextJ (some (x, e)) s).q := by
    show (readJ (some (x, e))).1.q < (readJ (some (x, e))).1.q + 1#32
    generalize (readJ (some (x, e))).1.q = z at hne
    rw [BitVec.lt_def, BitVec.toNat_add]
    have h1 : z.toNat + 1 ≠ 4294967296 := fun h => hne (by
      apply BitVec.eq_of_toNat_eq
      rw [BitVec.toNat_add]
      show (z.toNat + 1) % 4294967296 = 0
      rw [h])
    have := z.isLt
    show z.toNat < (z.toNat + 1) % 4294967296
    omega
  rw [ref_pick _ (by rw [doX_len]; exact hx)]
  have hpage := next_page (x := x) (K := some (x, e)) (s := s) (q := q) hx
  rw [hr, hp] at hlt
  by_cases c : (readJ (some (x, e))).2 = 32
  · have h33 : nextP (some (x, e)) = 33 := if_pos c
    rw [next_keep0 hx h33]
    rw [h33] at hpage
    rw [hpage, hpb, h33]
    rw [hr, hp] at c
    rcases pick_at (parseJ (sub x 8192 32)) (parseJ (sub x 8448 32)) with ⟨g1, g2, g3, g4⟩ | ⟨g1, g2, g3, g4⟩ | ⟨g1, g2, g3, g4⟩
    · rw [g3] at hlt
      generalize parseJ (sub x 8192 32) = A at hlt g2
      obtain ⟨a, xa⟩ := A
      cases g2
      have hlt : a.q < (nextJ (some (x, e)) s).q := hlt
      have : ¬ (nextJ (some (x, e)) s).q ≤ a.q := by rw [BitVec.le_def]; rw [BitVec.lt_def] at hlt; omega
      simp [pick2, this]
    · rw [g1] at c; cases c
    · rw [g1] at c; cases c
  · have h32 : nextP (some (x, e)) = 32 := if_neg c
    rw [next_keep1 hx h32]
    rw [h32] at hpage
    rw [hpage, hpb, h32]
    rw [hr, hp] at c
    rcases pick_at (parseJ (sub x 8192 32)) (parseJ (sub x 8448 32)) with ⟨g1, g2, g3, g4⟩ | ⟨g1, g2, g3, g4⟩ | ⟨g1, g2, g3, g4⟩
    · exact absurd g1 c
    · rw [g3] at hlt
      generalize parseJ (sub x 8448 32) = B at hlt g2
      obtain ⟨b, xb⟩ := B
      cases g2
      have hlt : b.q < (nextJ (some (x, e)) s).q := hlt
      have : b.q ≤ (nextJ (some (x, e)) s).q := by rw [BitVec.le_def]; rw [BitVec.lt_def] at hlt; omega
      simp [pick2, this]
    · generalize parseJ (sub x 8448 32) = B at g3
      obtain ⟨b, xb⟩ := B
      cases g3
      simp [pick2]
end Job
end Go.Am
