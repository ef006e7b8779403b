/- Laid variables: arrays of numbers. -/
import Derived.Test.YthnodpihpkcaeaaDoorAm29
import Derived.Lib.LaidTab
namespace Go.Am
set_option linter.unusedVariables false
set_option linter.unusedSimpArgs false

/-- an array of numbers -/
def numsD (k : IntKind) (zs : List Int) : D := .agg (.ar zs.length (.leaf (.int k))) (zs.map fun z => .raw (.int k z))
theorem flat_nums (k : IntKind) : ∀ zs : List Int, flatL (zs.map fun z => D.raw (.int k z)) = zs.map fun z => D.raw (.int k z)
  | [] => rfl
  | z :: zs => by simp [flatL, D.flat, flat_nums k zs]
theorem laid_one {P : Program} {W : World} {name : String} {k : IntKind} {zs : List Int} {g : Nat} {t e : TypeId} {n : Nat}
    (hg : P.globalNamed name = some g) (hty : (P.globals[g]?).map (·.type) = some t) (ht : P.underlying t = some (.array n e)) (he : P.underlying e = some (.int k)) (hce : P.cellsOf e = 1) (hct : P.cellsOf t = n) :
    ∀ {l : List (String × DataW Unit)} {ps : List MemPlace}, DataW.LaidVars P W l ps → (name, Lib.tabData k zs) ∈ l → Lib.TabIs P W name k zs
  | [], ps, _, hm => by cases hm
  | (n', d') :: r, ps, h, hm => by
    obtain ⟨g', t', cs, fuel, p, q, hg', ht', hvar, hd, hr, _⟩ := h
    rcases List.mem_cons.1 hm with hm | hm
    · cases hm
      obtain rfl := Option.some.inj (hg.symm.trans hg')
      obtain rfl := Option.some.inj (hty.symm.trans ht')
      unfold Lib.TabIs
      rw [hvar, ← Lib.cells_of_tab ht he hce hct hd]
    · exact laid_one hg hty ht he hce hct hr hm
theorem laid_glob {P : Program} {W : World} {name : String} {k : IntKind} {zs : List Int} {g : Nat} {t e : TypeId} {n : Nat} {l : List (String × DataW Unit)} (h : laidMet P l W) (hm : (name, Lib.tabData k zs) ∈ l)
    (hg : P.globalNamed name = some g) (hty : (P.globals[g]?).map (·.type) = some t) (ht : P.underlying t = some (.array n e)) (he : P.underlying e = some (.int k)) (hce : P.cellsOf e = 1) (hct : P.cellsOf t = n) (hz : zs ≠ []) :
    LR noPl W (old W) (.cptr (numsD k zs)) (.pointer (some ⟨g, 0, none⟩)) := by
  obtain ⟨ps, hv, _⟩ := h
  have hT := laid_one hg hty ht he hce hct hv hm
  refine LR.mkCptr (cs := zs.map fun z => Value.int k z) (s := .ar zs.length (.leaf (.int k))) ?_ ?_ ?_ ?_
  · refine .agg _ _ rfl (by simp [Sh.count]) fun i e d h1 h2 => ?_
    simp only [Sh.sub] at h1
    split at h1
    · cases h1
      obtain ⟨z, _, rfl⟩ := List.mem_map.1 (mem_of_get h2)
      exact .leaf _ _ (by simp [isSc])
    · cases h1
  · have := hT.cell hg 0 (by cases zs <;> simp_all)
    show g < W.heap.size
    rw [World.cell?] at this
    split at this
    · rename_i h0; exact (Array.getElem?_eq_some_iff.1 h0).1
    · cases this
  · rw [numsD, D.flat, flat_nums]
    clear hT hm hz
    induction zs with
    | nil => exact .nil
    | cons z zs ih => exact .cons (.raw _ rfl) ih
  · intro j x hx
    have hj : j < zs.length := by have := lt_of_get hx; simpa using this
    have := hT.cell hg j hj
    rw [Nat.zero_add, this]
    simp [hj] at hx
    simp [hj, ← hx]
end Go.Am
