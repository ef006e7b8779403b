/- The bridge: arguments. -/
import Derived.Test.YtloclegkilgglaaAm26
namespace Go.Am
set_option linter.unusedVariables false
set_option linter.unusedSimpArgs false
variable {P : Program} {H : Type} {enc : TypeId × Value → H} {w : World} {base : Nat} {spare : Nat → Bool} {held : Bool}

theorem hasSh_agg {s t : Sh} {l : List D} (h : HasSh s (.agg t l)) : s.isAgg = true := by
  cases h with
  | ref _ h => simp [D.isLeaf] at h
  | agg s l h1 _ _ => exact h1

theorem arg_D {r : Reach} {b0 n fuel : Nat} {t : TypeId} {v : Value} {x : DataW H × List MemPlace} {s : Sh} (hw : Value.okWide P w r b0 t v) (h : DataW.trod enc P w base spare held fuel t v.cells.toList = some x) (hs : tyX P n t = some s) :
    ∃ d, DOf P n t d ∧ VR noPl w (old w) d v ∧ dbulk d ≤ Go.Proofs.Ytloclegkilgglaa.Rows.uptoBulk x.1 := by
  obtain ⟨d, h1, h2, h3, h4⟩ := trod_D n fuel t _ x s h hs
  refine ⟨d, h1, ?_, h4⟩
  cases n with
  | zero => exact h1.elim
  | succ n =>
    simp only [DOf] at h1
    unfold Value.okWide at hw
    have one : d.isLeaf = true → v.oneCell' = true → VR noPl w (old w) d v := by
      intro hl hv
      rw [leaf_flat hl, cells_one hv] at h3
      exact VR.ofLeaf h3.head
    have agg : (∃ cs, v = .agg cs ∧ cs.size = P.cellsOf t ∧ Row.okWide P w r b0 t cs) → (∃ s l, d = .agg s l) → VR noPl w (old w) d v := by
      rintro ⟨cs, rfl, -⟩ ⟨s', l, rfl⟩
      exact VR.ofVR1 (VR1.ofAgg h2 (hasSh_agg h2) (by simpa [Value.cells] using h3))
    cases hu : P.underlying t with
    | none => simp [hu] at h1
    | some u =>
      simp only [hu] at h1 hw
      cases u with
      | struct fs =>
        obtain ⟨s', l, _, hd, _⟩ := h1
        exact agg hw ⟨s', l, hd⟩
      | array k e =>
        obtain ⟨s', l, _, hd, _⟩ := h1
        exact agg hw ⟨_, l, hd⟩
      | bool =>
        obtain ⟨b, rfl⟩ := h1
        refine one rfl ?_
        simp only [Cell.okWide, Cell.ok, hu] at hw
        cases v <;> simp_all [Value.oneCell']
      | int k =>
        obtain ⟨b, rfl, _⟩ := h1
        refine one rfl ?_
        simp only [Cell.okWide, Cell.ok, hu] at hw
        cases v <;> simp_all [Value.oneCell']
      | string =>
        obtain ⟨b, rfl, _⟩ := h1
        refine one rfl ?_
        simp only [Cell.okWide, Cell.ok, hu] at hw
        cases v <;> simp_all [Value.oneCell']
      | slice e =>
        refine one (by rcases h1 with rfl | ⟨_, _, _, rfl, _⟩ <;> rfl) ?_
        simp only [Cell.okWide, Cell.ok, hu] at hw
        cases v <;> simp_all [Value.oneCell']
      | _ => exact h1.elim
end Go.Am
