/- what is laid: arrays of structs of three numbers -/
import Derived.Test.YtbkdhjecjdnoeaaDoorOtP
import Derived.Test.YtbkdhjecjdnoeaaDoorAm31
namespace Go.Am
set_option linter.unusedSimpArgs false
set_option linter.unusedVariables false
attribute [local congr] bnd_congr kCond_congr kGd_congr kPick_congr kCall_congr kIdx_congr kSlice_congr kLoop_congr cond_congr' aBin_congr aBounds_congr aApp_congr aCopy_congr kFn_congr
namespace Job
open Go.Am.F
set_option maxRecDepth 10000
end Job
end Go.Am
namespace Go.Am
set_option linter.unusedVariables false
set_option linter.unusedSimpArgs false
namespace Job
def triData {H : Type} (zs : List (Int × Int × Int)) : DataW H := .agg (zs.map fun z => .agg [.lit (.int .i64 z.1), .lit (.int .i64 z.2.1), .lit (.int .i64 z.2.2)])
def triCells (zs : List (Int × Int × Int)) : List Value := zs.flatMap fun z => [.int .i64 z.1, .int .i64 z.2.1, .int .i64 z.2.2]
theorem tri_len (zs : List (Int × Int × Int)) : (triCells zs).length = zs.length * 3 := by
  induction zs with
  | nil => rfl
  | cons z zs ih => simp only [triCells, List.flatMap_cons, List.length_append, List.length_cons, List.length_nil] at ih ⊢; omega
theorem tri_get : ∀ (zs : List (Int × Int × Int)) (i r : Nat), r < 3 → (triCells zs)[i * 3 + r]? = (zs[i]?).bind fun z => [Value.int .i64 z.1, .int .i64 z.2.1, .int .i64 z.2.2][r]?
  | [], i, r, _ => by simp [triCells]
  | z :: zs, 0, r, h => by
    simp only [triCells, List.flatMap_cons, Nat.zero_mul, Nat.zero_add]
    rw [List.getElem?_append_left (by simpa using h)]; rfl
  | z :: zs, i + 1, r, h => by
    have ih := tri_get zs i r h
    simp only [triCells, List.flatMap_cons] at ih ⊢
    rw [List.getElem?_append_right (by simp; omega)]
    simp only [List.length_cons, List.length_nil]
    rw [show (i + 1) * 3 + r - (0 + 1 + 1 + 1) = i * 3 + r by omega, ih]; rfl
theorem cells_tri {H : Type} {enc : TypeId × Value → H} {P : Program} {w : World} {base : Nat} {sp : Nat → Bool} {held : Bool} {fuel : Nat} {t e : TypeId} {n : Nat} {fs : Array Field} {f0 f1 f2 : Field} {cs : List Value} {zs : List (Int × Int × Int)} {p : List MemPlace}
    (ht : P.underlying t = some (.array n e)) (he : P.underlying e = some (.struct fs)) (hfs : fs.toList = [f0, f1, f2]) (o0 : f0.offset = 0) (o1 : f1.offset = 1) (o2 : f2.offset = 2)
    (u0 : P.underlying f0.type = some (.int .i64)) (u1 : P.underlying f1.type = some (.int .i64)) (u2 : P.underlying f2.type = some (.int .i64)) (c0 : P.cellsOf f0.type = 1) (c1 : P.cellsOf f1.type = 1) (c2 : P.cellsOf f2.type = 1)
    (hce : P.cellsOf e = 3) (hct : P.cellsOf t = n * 3) (h : DataW.trod enc P w base sp held fuel t cs = some (triData zs, p)) : cs = triCells zs := by
  cases fuel with
  | zero => simp [DataW.trod] at h
  | succ fuel =>
    simp only [DataW.trod, ht, hce, hct] at h
    split at h
    · rename_i hl
      obtain ⟨xs, hm, hx⟩ := Option.map_eq_some_iff.1 h
      have hxs : xs.map (·.1) = zs.map fun z => (DataW.agg [.lit (.int .i64 z.1), .lit (.int .i64 z.2.1), .lit (.int .i64 z.2.2)] : DataW H) := by
        have := congrArg Prod.fst hx
        simpa [triData] using this
      have hxl : xs.length = n := by simpa using Lib.mapM_length hm
      have hzl : zs.length = n := by
        have := congrArg List.length hxs
        simp at this
        omega
      apply List.ext_getElem?
      intro j
      by_cases hj : j < n * 3
      · have hi : j / 3 < n := by omega
        have hr : j % 3 < 3 := by omega
        have hjj : j = j / 3 * 3 + j % 3 := by omega
        generalize j / 3 = i at *
        generalize j % 3 = r at *
        subst hjj
        obtain ⟨b, hb, hf⟩ := Lib.mapM_at hm i i (by simp [hi])
        have hz := congrArg (·[i]?) hxs
        simp only [List.getElem?_map, hb, Option.map_some] at hz
        obtain ⟨z, hzi⟩ : ∃ z, zs[i]? = some z := ⟨zs[i]'(by omega), List.getElem?_eq_getElem (by omega)⟩
        rw [hzi, Option.map_some, Option.some.injEq] at hz
        rw [tri_get zs i r hr, hzi]
        have hsub : cs[i * 3 + r]? = ((cs.drop (i * 3)).take 3)[r]? := by
          rw [List.getElem?_take_of_lt hr, List.getElem?_drop]
        rw [hsub]
        generalize (cs.drop (i * 3)).take 3 = c at *
        cases fuel with
        | zero => simp [DataW.trod] at hf
        | succ fuel =>
          simp only [DataW.trod, he, hce, hfs] at hf
          split at hf
          · rename_i hcl
            obtain ⟨ys, hmy, hy⟩ := Option.map_eq_some_iff.1 hf
            simp only [List.mapM_cons, List.mapM_nil, Option.bind_eq_bind, Option.bind_eq_some_iff, Option.pure_def, Option.some.injEq, o0, o1, o2, c0, c1, c2] at hmy
            obtain ⟨y0, h0, l0, ⟨y1, h1, l1, ⟨y2, h2, l2, rfl, rfl⟩, rfl⟩, rfl⟩ := hmy
            obtain ⟨z0, g0, rfl, _⟩ := DataW.trod_int u0 h0
            obtain ⟨z1, g1, rfl, _⟩ := DataW.trod_int u1 h1
            obtain ⟨z2, g2, rfl, _⟩ := DataW.trod_int u2 h2
            rw [← hy] at hz
            simp only [List.map_cons, List.map_nil, DataW.agg.injEq, List.cons.injEq, DataW.lit.injEq, Lit.int.injEq, true_and, and_true] at hz
            obtain ⟨e0, e1, e2⟩ := hz
            have a0 : c[0]? = some (.int .i64 z0) := by have := congrArg (·[0]?) g0; simpa [List.getElem?_take] using this
            have a1 : c[1]? = some (.int .i64 z1) := by have := congrArg (·[0]?) g1; simpa [List.getElem?_take, List.getElem?_drop] using this
            have a2 : c[2]? = some (.int .i64 z2) := by have := congrArg (·[0]?) g2; simpa [List.getElem?_take, List.getElem?_drop] using this
            match r, hr with
            | 0, _ => rw [a0, e0]; rfl
            | 1, _ => rw [a1, e1]; rfl
            | 2, _ => rw [a2, e2]; rfl
          · cases hf
      · rw [List.getElem?_eq_none (by omega), List.getElem?_eq_none (by rw [tri_len]; omega)]
    · cases h
theorem laid_tri {P : Program} {W : World} {name : String} {g : Nat} {t e : TypeId} {n : Nat} {fs : Array Field} {f0 f1 f2 : Field} {zs : List (Int × Int × Int)}
    (hg : P.globalNamed name = some g) (hty : (P.globals[g]?).map (·.type) = some t) (ht : P.underlying t = some (.array n e)) (he : P.underlying e = some (.struct fs)) (hfs : fs.toList = [f0, f1, f2]) (o0 : f0.offset = 0) (o1 : f1.offset = 1) (o2 : f2.offset = 2)
    (u0 : P.underlying f0.type = some (.int .i64)) (u1 : P.underlying f1.type = some (.int .i64)) (u2 : P.underlying f2.type = some (.int .i64)) (c0 : P.cellsOf f0.type = 1) (c1 : P.cellsOf f1.type = 1) (c2 : P.cellsOf f2.type = 1)
    (hce : P.cellsOf e = 3) (hct : P.cellsOf t = n * 3) :
    ∀ {l : List (String × DataW Unit)} {ps : List MemPlace}, DataW.LaidVars P W l ps → (name, triData zs) ∈ l → W.var? P name = some (triCells zs).toArray
  | [], ps, _, hm => by cases hm
  | (n', d') :: r, ps, h, hm => by
    obtain ⟨g', t', cs, fuel, p, q, hg', ht', hvar, hd, hr, _⟩ := h
    rcases List.mem_cons.1 hm with hm | hm
    · cases hm
      obtain rfl := Option.some.inj (hg.symm.trans hg')
      obtain rfl := Option.some.inj (hty.symm.trans ht')
      have := cells_tri ht he hfs o0 o1 o2 u0 u1 u2 c0 c1 c2 hce hct hd
      rw [hvar, ← this]
    · exact laid_tri hg hty ht he hfs o0 o1 o2 u0 u1 u2 c0 c1 c2 hce hct hr hm
def triD (z : Int × Int × Int) : D := .agg SPar [.raw (it z.1), .raw (it z.2.1), .raw (it z.2.2)]
theorem tri_flat {W : World} {T : Nat → Prop} : ∀ zs : List (Int × Int × Int), All2 (LR noPl W T) (flatL (zs.map triD)) (triCells zs)
  | [] => .nil
  | z :: zs => by
    have ih := tri_flat (W := W) (T := T) zs
    exact .cons (.raw _ rfl) (.cons (.raw _ rfl) (.cons (.raw _ rfl) ih))
theorem laid_triG {P : Program} {W : World} {name : String} {g : Nat} {t e : TypeId} {n : Nat} {fs : Array Field} {f0 f1 f2 : Field} {zs : List (Int × Int × Int)} {l : List (String × DataW Unit)} (h : laidMet P l W) (hm : (name, triData zs) ∈ l)
    (hg : P.globalNamed name = some g) (hty : (P.globals[g]?).map (·.type) = some t) (ht : P.underlying t = some (.array n e)) (he : P.underlying e = some (.struct fs)) (hfs : fs.toList = [f0, f1, f2]) (o0 : f0.offset = 0) (o1 : f1.offset = 1) (o2 : f2.offset = 2)
    (u0 : P.underlying f0.type = some (.int .i64)) (u1 : P.underlying f1.type = some (.int .i64)) (u2 : P.underlying f2.type = some (.int .i64)) (c0 : P.cellsOf f0.type = 1) (c1 : P.cellsOf f1.type = 1) (c2 : P.cellsOf f2.type = 1)
    (hce : P.cellsOf e = 3) (hct : P.cellsOf t = n * 3) (hz : zs ≠ []) :
    LR noPl W (old W) (.cptr (.agg (.ar zs.length SPar) (zs.map triD))) (.pointer (some ⟨g, 0, none⟩)) := by
  obtain ⟨ps, hv, _⟩ := h
  have hT := laid_tri hg hty ht he hfs o0 o1 o2 u0 u1 u2 c0 c1 c2 hce hct hv hm
  have hcell := fun j => World.var?_cell hg hT j
  refine LR.mkCptr (cs := triCells zs) (s := .ar zs.length SPar) ?_ ?_ ?_ ?_
  · refine .agg _ _ rfl (by simp [Sh.count]) fun i e d h1 h2 => ?_
    simp only [Sh.sub] at h1
    split at h1
    · cases h1
      obtain ⟨z, _, rfl⟩ := List.mem_map.1 (mem_of_get h2)
      refine .agg _ _ rfl rfl fun i e d h1 h2 => ?_
      match i with
      | 0 => cases h1; cases h2; exact .leaf _ _ rfl
      | 1 => cases h1; cases h2; exact .leaf _ _ rfl
      | 2 => cases h1; cases h2; exact .leaf _ _ rfl
      | i + 3 => cases h2
    · cases h1
  · have h0 := hcell 0
    show g < W.heap.size
    rw [World.cell?] at h0
    split at h0
    · rename_i h1; exact (Array.getElem?_eq_some_iff.1 h1).1
    · cases zs with
      | nil => exact absurd rfl hz
      | cons z zs => simp [triCells] at h0
  · rw [D.flat]
    exact tri_flat zs
  · intro j x hx
    rw [Nat.zero_add, hcell j]
    simpa using hx
end Job
end Go.Am
