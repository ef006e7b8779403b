/- the journal: what is left when power goes; what is next -/
import Derived.Test.YtmicfjeedofokaaDoorJn8
namespace Go.Am
set_option linter.unusedSimpArgs false
set_option linter.unusedVariables false
attribute [local congr] bnd_congr kCond_congr kGd_congr kPick_congr kCall_congr kIdx_congr kSlice_congr kLoop_congr cond_congr' aBin_congr aBounds_congr aApp_congr aCopy_congr kFn_congr
namespace Job
open Go.Am.F
set_option maxRecDepth 10000
theorem u32_top (q : BitVec 32) : (q + 1#32 = 0#32) ↔ q = 4294967295#32 := by
  constructor
  · intro h
    have := congrArg BitVec.toNat h
    rw [BitVec.toNat_add] at this
    apply BitVec.eq_of_toNat_eq
    have hq := q.isLt
    simp at this ⊢
    omega
  · rintro rfl; rfl
theorem nextB_ref {x : List (BitVec 8)} (hx : 8704 ≤ x.length) (s : JS) : nextB (K0 x) s = (!decide ((refJ x).1.q = 4294967295#32) && rightJ s) := by
  unfold nextB
  rw [read_ref x false hx]
  congr 2
  exact decide_eq_decide.2 (u32_top _)
theorem nextP_ref {x : List (BitVec 8)} (hx : 8704 ≤ x.length) : nextP (K0 x) = if (refJ x).2 = 32 then 33 else 32 := by
  unfold nextP; rw [read_ref x false hx]
theorem nextJ_ref {x : List (BitVec 8)} (hx : 8704 ≤ x.length) (s : JS) : nextJ (K0 x) s = ⟨(refJ x).1.q + 1#32, s.a, s.t, s.n⟩ := by
  unfold nextJ; rw [read_ref x false hx]
/-- power goes: the page that was written may tell what it likes; else all is as it was -/
theorem torn_pick {x y : List (BitVec 8)} (hx : 8704 ≤ x.length) (hl : y.length = x.length) (hout : ∀ t, t < 256 * nextP (K0 x) ∨ 256 * nextP (K0 x) + 256 ≤ t → y.getD t 0#8 = x.getD t 0#8) :
    ((nextP (K0 x) : Nat) : Int) ≠ (refJ x).2 ∧ ((refJ y).1 = (refJ x).1 ∨ parseJ (sub y (256 * nextP (K0 x)) 32) = ((refJ y).1, true)) := by
  have hy := ref_pick y (by omega)
  have hxp := ref_pick x hx
  have pr : ∀ A : JS × Bool, A.2 = true → A = (A.1, true) := fun A h => by rw [← h]
  by_cases c : (refJ x).2 = 32
  · have hP : nextP (K0 x) = 33 := by rw [nextP_ref hx, if_pos c]
    rw [hP] at hout ⊢
    have e : sub y 8192 32 = sub x 8192 32 := sub_congr _ _ hl fun t h1 h2 => hout t (by omega)
    rw [e] at hy
    refine ⟨by rw [c]; decide, ?_⟩
    show _ ∨ parseJ (sub y 8448 32) = _
    rw [hxp] at c ⊢
    rw [hy]
    generalize parseJ (sub x 8192 32) = A at *
    generalize parseJ (sub x 8448 32) = B at *
    generalize parseJ (sub y 8448 32) = B' at *
    rcases pick_at A B with ⟨g1, g2, g3, g4⟩ | ⟨g1, -⟩ | ⟨g1, -⟩
    · rcases pick_at A B' with ⟨f1, f2, f3, f4⟩ | ⟨f1, f2, f3, f4⟩ | ⟨f1, f2, f3, f4⟩
      · exact .inl (f3.trans g3.symm)
      · exact .inr (by rw [f3]; exact pr _ f2)
      · rw [g2] at f2; cases f2
    · rw [g1] at c; cases c
    · rw [g1] at c; cases c
  · have hP : nextP (K0 x) = 32 := by rw [nextP_ref hx, if_neg c]
    rw [hP] at hout ⊢
    have e : sub y 8448 32 = sub x 8448 32 := sub_congr _ _ hl fun t h1 h2 => hout t (by omega)
    rw [e] at hy
    refine ⟨fun h => c h.symm, ?_⟩
    show _ ∨ parseJ (sub y 8192 32) = _
    rw [hxp] at c ⊢
    rw [hy]
    generalize parseJ (sub x 8192 32) = A at *
    generalize parseJ (sub x 8448 32) = B at *
    generalize parseJ (sub y 8192 32) = A' at *
    rcases pick_at A B with ⟨g1, -⟩ | ⟨g1, g2, g3, g4⟩ | ⟨g1, g2, g3, g4⟩
    · exact absurd g1 c
    · rcases pick_at A' B with ⟨f1, f2, f3, f4⟩ | ⟨f1, f2, f3, f4⟩ | ⟨f1, f2, f3, f4⟩
      · exact .inr (by rw [f3]; exact pr _ f2)
      · exact .inl (f3.trans g3.symm)
      · rw [g2] at f3; cases f3
    · rcases pick_at A' B with ⟨f1, f2, f3, f4⟩ | ⟨f1, f2, f3, f4⟩ | ⟨f1, f2, f3, f4⟩
      · exact .inr (by rw [f3]; exact pr _ f2)
      · rw [g3] at f2; cases f2
      · exact .inl (f4.trans g4.symm)
/-- states one behind the other -/
def GoI (x : List (BitVec 8)) (n : Nat) (last : JS) : Prop := x.length = 10240 ∧ last.q = BitVec.ofNat 32 n ∧ refJ x = (last, if n = 0 then -1 else if n % 2 = 1 then 32 else 33)
theorem goI_new (x : List (BitVec 8)) (hx : x = List.replicate 10240 255#8) : GoI x 0 firstJ := ⟨by rw [hx, List.length_replicate], rfl, new_ref x hx⟩
theorem goI_step {x : List (BitVec 8)} {n : Nat} {last s : JS} {q : Nat} (h : GoI x n last) (hn : n < 10) (hr : rightJ s = true) :
    nextB (K0 x) s = true ∧ GoI (doX x (nextO (K0 x) s q)) (n + 1) ⟨BitVec.ofNat 32 (n + 1), s.a, s.t, s.n⟩ ∧
    (parseJ (sub (doX x (nextO (K0 x) s q)) (256 * (if (n + 1) % 2 = 1 then 33 else 32)) 32)).2 = decide (1 < n + 1) ∧ (1 < n + 1 → (parseJ (sub (doX x (nextO (K0 x) s q)) (256 * (if (n + 1) % 2 = 1 then 33 else 32)) 32)).1 = last) := by
  obtain ⟨hl, hq, hR⟩ := h
  have hx : 8704 ≤ x.length := by omega
  have hnq : ¬ (refJ x).1.q = 4294967295#32 := by
    rw [hR]
    show ¬ last.q = _
    rw [hq]
    intro h
    have := congrArg BitVec.toNat h
    rw [BitVec.toNat_ofNat] at this
    have e : (4294967295#32).toNat = 4294967295 := rfl
    omega
  have hB : nextB (K0 x) s = true := by rw [nextB_ref hx, hr, decide_eq_false hnq]; rfl
  have hN := next_ref (q := q) hx hB
  have hJ : nextJ (K0 x) s = ⟨BitVec.ofNat 32 (n + 1), s.a, s.t, s.n⟩ := by
    rw [nextJ_ref hx, hR]
    show JS.mk (last.q + 1#32) _ _ _ = _
    rw [hq, BitVec.ofNat_add]
  have hxp := ref_pick x hx
  rw [hR] at hxp
  rw [hJ] at hN
  refine ⟨hB, ?_⟩
  by_cases c : (n + 1) % 2 = 1
  · have hP : nextP (K0 x) = 32 := by
      rw [nextP_ref hx, hR]
      by_cases h0 : n = 0
      · rw [if_pos h0]; rfl
      · rw [if_neg h0, if_neg (show ¬ n % 2 = 1 by omega)]; rfl
    rw [if_pos c]
    show _ ∧ (parseJ (sub _ 8448 32)).2 = _ ∧ (_ → (parseJ (sub _ 8448 32)).1 = _)
    rw [next_keep1 hx hP]
    rw [hP] at hN
    refine ⟨⟨by rw [doX_len]; exact hl, rfl, by rw [hN, if_neg (by omega), if_pos c]; rfl⟩, ?_⟩
    rcases pick_at (parseJ (sub x 8192 32)) (parseJ (sub x 8448 32)) with ⟨g1, -⟩ | ⟨g1, g2, g3, g4⟩ | ⟨g1, g2, g3, g4⟩
    · rw [← hxp] at g1
      exfalso
      revert g1
      show ¬ (if n = 0 then (-1 : Int) else if n % 2 = 1 then 32 else 33) = 32
      split
      · decide
      · rw [if_neg (by omega)]; decide
    · rw [← hxp] at g1 g3
      by_cases h0 : n = 0
      · exfalso
        revert g1
        show ¬ (if n = 0 then (-1 : Int) else if n % 2 = 1 then 32 else 33) = 33
        rw [if_pos h0]; decide
      · exact ⟨by rw [g2, decide_eq_true (by omega)], fun _ => g3.symm⟩
    · rw [← hxp] at g1
      by_cases h0 : n = 0
      · exact ⟨by rw [g3, decide_eq_false (by omega)], fun h => by omega⟩
      · exfalso
        revert g1
        show ¬ (if n = 0 then (-1 : Int) else if n % 2 = 1 then 32 else 33) = -1
        rw [if_neg h0, if_neg (by omega)]; decide
  · have hP : nextP (K0 x) = 33 := by
      rw [nextP_ref hx, hR]
      show (if (if n = 0 then (-1 : Int) else if n % 2 = 1 then 32 else 33) = 32 then 33 else 32) = 33
      rw [if_neg (show ¬ n = 0 by omega), if_pos (show n % 2 = 1 by omega)]; rfl
    rw [if_neg c]
    show _ ∧ (parseJ (sub _ 8192 32)).2 = _ ∧ (_ → (parseJ (sub _ 8192 32)).1 = _)
    rw [next_keep0 hx hP]
    rw [hP] at hN
    refine ⟨⟨by rw [doX_len]; exact hl, rfl, by rw [hN, if_neg (by omega), if_neg c]; rfl⟩, ?_⟩
    have hat : (if n = 0 then (-1 : Int) else if n % 2 = 1 then 32 else 33) = 32 := by
      rw [if_neg (show ¬ n = 0 by omega), if_pos (show n % 2 = 1 by omega)]
    rcases pick_at (parseJ (sub x 8192 32)) (parseJ (sub x 8448 32)) with ⟨g1, g2, g3, g4⟩ | ⟨g1, -⟩ | ⟨g1, -⟩
    · rw [← hxp] at g3
      exact ⟨by rw [g2, decide_eq_true (by omega)], fun _ => g3.symm⟩
    · rw [← hxp] at g1
      have g1 : (if n = 0 then (-1 : Int) else if n % 2 = 1 then 32 else 33) = 33 := g1
      rw [hat] at g1; cases g1
    · rw [← hxp] at g1
      have g1 : (if n = 0 then (-1 : Int) else if n % 2 = 1 then 32 else 33) = -1 := g1
      rw [hat] at g1; cases g1
end Job
end Go.Am
