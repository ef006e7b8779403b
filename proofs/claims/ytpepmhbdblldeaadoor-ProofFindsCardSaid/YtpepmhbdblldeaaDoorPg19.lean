import Derived.Test.YtpepmhbdblldeaaDoorPg18
namespace Go.Am
set_option linter.unusedSimpArgs false
set_option linter.unusedVariables false
attribute [local congr] bnd_congr kCond_congr kGd_congr kPick_congr kCall_congr kIdx_congr kSlice_congr kLoop_congr cond_congr' aBin_congr aBounds_congr aApp_congr aCopy_congr kFn_congr
namespace Job
open Go.Am.F
set_option maxRecDepth 10000
end Job
end Go.Am
namespace Go.Am
set_option linter.unusedVariables false
set_option linter.unusedSimpArgs false
namespace Job
def triData {H : Type} (zs : List (Int × Int × Int)) : DataW H := .agg (zs.map fun z => .agg [.lit (.int .i64 z.1), .lit (.int .i64 z.2.1), .lit (.int .i64 z.2.2)])
def triCells (zs : List (Int × Int × Int)) : List Value := zs.flatMap fun z => [.int .i64 z.1, .int .i64 z.2.1, .int .i64 z.2.2]
theorem tri_len (zs : List (Int × Int × Int)) : (triCells zs).length = zs.length * 3 := by
 induction zs with
 | nil => rfl
 | cons z zs ih => simp only [triCells, List.flatMap_cons, List.length_append, List.length_cons, List.length_nil] at ih ⊢; omega
theorem tri_get : ∀ (zs : List (Int × Int × Int)) (i r : Nat), r < 3 → (triCells zs)[i * 3 + r]? = (zs[i]?).bind fun z => [Value.int .i64 z.1, .int .i64 z.2.1, .int .i64 z.2.2][r]?
 | [], i, r, _ => by simp [triCells]
 | z :: zs, 0, r, h => by
  simp only [triCells, List.flatMap_cons, Nat.zero_mul, Nat.zero_add]
  rw [List.getElem?_append_left (by simpa using h)]; rfl
 | z :: zs, i + 1, r, h => by
  have ih := tri_get zs i r h
  simp only [triCells, List.flatMap_cons] at ih ⊢
  rw [List.getElem?_append_right (by simp; omega)]
  simp only [List.length_cons, List.length_nil]
  rw [show (i + 1) * 3 + r - (0 + 1 + 1 + 1) = i * 3 + r by omega, ih]; rfl
theorem cells_tri {H : Type} {enc : TypeId × Value → H} {P : Program} {w : World} {base : Nat} {sp : Nat → Bool} {held : Bool} {fuel : Nat} {t e : TypeId} {n : Nat} {fs : Array Field} {f0 f1 f2 : Field} {cs : List Value} {zs : List (Int × Int × Int)} {p : List MemPlace}
  (ht : P.underlying t = some (.array n e)) (he : P.underlying e = some (.struct fs)) (hfs : fs.toList = [f0, f1, f2]) (o0 : f0.offset = 0) (o1 : f1.offset = 1) (o2 : f2.offset = 2)
  (u0 : P.underlying f0.type = some (.int .i64)) (u1 : P.underlying f1.type = some (.int .i64)) (u2 : P.underlying f2.type = some (.int .i64)) (c0 : P.cellsOf f0.type = 1) (c1 : P.cellsOf f1.type = 1) (c2 : P.cellsOf f2.type = 1)
  (hce : P.cellsOf e = 3) (hct : P.cellsOf t = n * 3) (h : DataW.trod enc P w base sp held fuel t cs = some (triData zs, p)) : cs = triCells zs := by
 cases fuel with
 | zero => simp [DataW.trod] at h
 | succ fuel =>
  simp only [DataW.trod, ht, hce, hct] at h
  split at h
  ·rename_i hl
   obtain ⟨xs, hm, hx⟩ := Option.map_eq_some_iff.1 h
   have hxs : xs.map (·.1) = zs.map fun z => (DataW.agg [.lit (.int .i64 z.1), .lit (.int .i64 z.2.1), .lit (.int .i64 z.2.2)] : DataW H) := by
    have := congrArg Prod.fst hx
    simpa [triData] using this
   have hxl : xs.length = n := by simpa using Lib.mapM_length hm
   have hzl : zs.length = n := by
    have := congrArg List.length hxs
    simp at this
    omega
   apply List.ext_getElem?
   intro j
   by_cases hj : j < n * 3
   ·have hi : j / 3 < n := by omega
    have hr : j % 3 < 3 := by omega
    have hjj : j = j / 3 * 3 + j % 3 := by omega
    generalize j / 3 = i at *
    generalize j % 3 = r at *
    subst hjj
    obtain ⟨b, hb, hf⟩ := Lib.mapM_at hm i i (by simp [hi])
    have hz := congrArg (·[i]?) hxs
    simp only [List.getElem?_map, hb, Option.map_some] at hz
    obtain ⟨z, hzi⟩ : ∃ z, zs[i]? = some z := ⟨zs[i]'(by omega), List.getElem?_eq_getElem (by omega)⟩
    rw [hzi, Option.map_some, Option.some.injEq] at hz
    rw [tri_get zs i r hr, hzi]
    have hsub : cs[i * 3 + r]? = ((cs.drop (i * 3)).take 3)[r]? := by
     rw [List.getElem?_take_of_lt hr, List.getElem?_drop]
    rw [hsub]
    generalize (cs.drop (i * 3)).take 3 = c at *
    cases fuel with
    | zero => simp [DataW.trod] at hf
    | succ fuel =>
     simp only [DataW.trod, he, hce, hfs] at hf
     split at hf
     ·rename_i hcl
      obtain ⟨ys, hmy, hy⟩ := Option.map_eq_some_iff.1 hf
      simp only [List.mapM_cons, List.mapM_nil, Option.bind_eq_bind, Option.bind_eq_some_iff, Option.pure_def, Option.some.injEq, o0, o1, o2, c0, c1, c2] at hmy
      obtain ⟨y0, h0, l0, ⟨y1, h1, l1, ⟨y2, h2, l2, rfl, rfl⟩, rfl⟩, rfl⟩ := hmy
      obtain ⟨z0, g0, rfl, _⟩ := DataW.trod_int u0 h0
      obtain ⟨z1, g1, rfl, _⟩ := DataW.trod_int u1 h1
      obtain ⟨z2, g2, rfl, _⟩ := DataW.trod_int u2 h2
      rw [← hy] at hz
      simp only [List.map_cons, List.map_nil, DataW.agg.injEq, List.cons.injEq, DataW.lit.injEq, Lit.int.injEq, true_and, and_true] at hz
      obtain ⟨e0, e1, e2⟩ := hz
      have a0 : c[0]? = some (.int .i64 z0) := by have := congrArg (·[0]?) g0; simpa [List.getElem?_take] using this
      have a1 : c[1]? = some (.int .i64 z1) := by have := congrArg (·[0]?) g1; simpa [List.getElem?_take, List.getElem?_drop] using this
      have a2 : c[2]? = some (.int .i64 z2) := by have := congrArg (·[0]?) g2; simpa [List.getElem?_take, List.getElem?_drop] using this
      match r, hr with
      | 0, _ => rw [a0, e0]; rfl
      | 1, _ => rw [a1, e1]; rfl
      | 2, _ => rw [a2, e2]; rfl
     ·cases hf
   ·rw [List.getElem?_eq_none (by omega), List.getElem?_eq_none (by rw [tri_len]; omega)]
  ·cases h
theorem laid_tri {P : Program} {W : World} {name : String} {g : Nat} {t e : TypeId} {n : Nat} {fs : Array Field} {f0 f1 f2 : Field} {zs : List (Int × Int × Int)}
  (hg : P.globalNamed name = some g) (hty : (P.globals[g]?).map (·.type) = some t) (ht : P.underlying t = some (.array n e)) (he : P.underlying e = some (.struct fs)) (hfs : fs.toList = [f0, f1, f2]) (o0 : f0.offset = 0) (o1 : f1.offset = 1) (o2 : f2.offset = 2)
  (u0 : P.underlying f0.type = some (.int .i64)) (u1 : P.underlying f1.type = some (.int .i64)) (u2 : P.underlying f2.type = some (.int .i64)) (c0 : P.cellsOf f0.type = 1) (c1 : P.cellsOf f1.type = 1) (c2 : P.cellsOf f2.type = 1)
  (hce : P.cellsOf e = 3) (hct : P.cellsOf t = n * 3) :
  ∀ {l : List (String × DataW Unit)} {ps : List MemPlace}, DataW.LaidVars P W l ps → (name, triData zs) ∈ l → W.var? P name = some (triCells zs).toArray
 | [], ps, _, hm => by cases hm
 | (n', d') :: r, ps, h, hm => by
  obtain ⟨g', t', cs, fuel, p, q, hg', ht', hvar, hd, hr, _⟩ := h
  rcases List.mem_cons.1 hm with hm | hm
  ·cases hm
   obtain rfl := Option.some.inj (hg.symm.trans hg')
   obtain rfl := Option.some.inj (hty.symm.trans ht')
   have := cells_tri ht he hfs o0 o1 o2 u0 u1 u2 c0 c1 c2 hce hct hd
   rw [hvar, ← this]
  ·exact laid_tri hg hty ht he hfs o0 o1 o2 u0 u1 u2 c0 c1 c2 hce hct hr hm
def triD (z : Int × Int × Int) : D := .agg SPar [.raw (it z.1), .raw (it z.2.1), .raw (it z.2.2)]
theorem tri_flat {W : World} {T : Nat → Prop} : ∀ zs : List (Int × Int × Int), All2 (LR noPl W T) (flatL (zs.map triD)) (triCells zs)
 | [] => .nil
 | z :: zs => by
  have ih := tri_flat (W := W) (T := T) zs
  exact .cons (.raw _ rfl) (.cons (.raw _ rfl) (.cons (.raw _ rfl) ih))
theorem laid_triG {P : Program} {W : World} {name : String} {g : Nat} {t e : TypeId} {n : Nat} {fs : Array Field} {f0 f1 f2 : Field} {zs : List (Int × Int × Int)} {l : List (String × DataW Unit)} (h : laidMet P l W) (hm : (name, triData zs) ∈ l)
  (hg : P.globalNamed name = some g) (hty : (P.globals[g]?).map (·.type) = some t) (ht : P.underlying t = some (.array n e)) (he : P.underlying e = some (.struct fs)) (hfs : fs.toList = [f0, f1, f2]) (o0 : f0.offset = 0) (o1 : f1.offset = 1) (o2 : f2.offset = 2)
  (u0 : P.underlying f0.type = some (.int .i64)) (u1 : P.underlying f1.type = some (.int .i64)) (u2 : P.underlying f2.type = some (.int .i64)) (c0 : P.cellsOf f0.type = 1) (c1 : P.cellsOf f1.type = 1) (c2 : P.cellsOf f2.type = 1)
  (hce : P.cellsOf e = 3) (hct : P.cellsOf t = n * 3) (hz : zs ≠ []) :
  LR noPl W (old W) (.cptr (.agg (.ar zs.length SPar) (zs.map triD))) (.pointer (some ⟨g, 0, none⟩)) := by
 obtain ⟨ps, hv, _⟩ := h
 have hT := laid_tri hg hty ht he hfs o0 o1 o2 u0 u1 u2 c0 c1 c2 hce hct hv hm
 have hcell := fun j => World.var?_cell hg hT j
 refine LR.mkCptr (cs := triCells zs) (s := .ar zs.length SPar) ?_ ?_ ?_ ?_
 ·refine .agg _ _ rfl (by simp [Sh.count]) fun i e d h1 h2 => ?_
  simp only [Sh.sub] at h1
  split at h1
  ·cases h1
   obtain ⟨z, _, rfl⟩ := List.mem_map.1 (mem_of_get h2)
   refine .agg _ _ rfl rfl fun i e d h1 h2 => ?_
   match i with
   | 0 => cases h1; cases h2; exact .leaf _ _ rfl
   | 1 => cases h1; cases h2; exact .leaf _ _ rfl
   | 2 => cases h1; cases h2; exact .leaf _ _ rfl
   | i + 3 => cases h2
  ·cases h1
 ·have h0 := hcell 0
  show g < W.heap.size
  rw [World.cell?] at h0
  split at h0
  ·rename_i h1; exact (Array.getElem?_eq_some_iff.1 h1).1
  ·cases zs with
   | nil => exact absurd rfl hz
   | cons z zs => simp [triCells] at h0
 ·rw [D.flat]
  exact tri_flat zs
 ·intro j x hx
  rw [Nat.zero_add, hcell j]
  simpa using hx
end Job
end Go.Am
namespace Go.Am
set_option linter.unusedSimpArgs false
set_option linter.unusedVariables false
attribute [local congr] bnd_congr kCond_congr kGd_congr kPick_congr kCall_congr kIdx_congr kSlice_congr kLoop_congr cond_congr' aBin_congr aBounds_congr aApp_congr aCopy_congr kFn_congr
namespace Job
open Go.Am.F
set_option maxRecDepth 10000
def dgS (t : Nat) (s : Site) (c msg : List (BitVec 8)) : List Nat := digitsS t (mashS s.id s.q c msg)
theorem dgS_len (t : Nat) (s : Site) (c msg : List (BitVec 8)) : (dgS t s c msg).length = pT t := by simp [dgS, digitsS, digsP]
theorem digs_le {t : Nat} (h : okT t = true) (d : List (BitVec 8)) (i : Nat) : (digitsS t d).getD i 0 ≤ 2 ^ wT t - 1 := by
 by_cases c : i < (digitsS t d).length
 ·have hc := c
  simp only [digitsS, digsP, List.length_map, List.length_range] at hc
  simp only [digitsS, digsP, List.getD, List.getElem?_map, List.getElem?_range hc, Option.map_some, Option.getD_some]
  exact coefN_le _ _ _ (parT_ok h).1
 ·rw [List.getD, List.getElem?_eq_none (by omega)]; exact Nat.zero_le _
def partsS (t : Nat) (s : Site) (seed c msg : List (BitVec 8)) (n : Nat) : List (List (BitVec 8)) := (List.range n).map fun i => chS s.id s.q i ((dgS t s c msg).getD i 0) 0 (secS s.id s.q i seed)
theorem parts_len (t : Nat) (s : Site) (seed c msg : List (BitVec 8)) (n : Nat) : ∀ x ∈ partsS t s seed c msg n, x.length = 32 := by
 intro x hx
 obtain ⟨i, -, rfl⟩ := List.mem_map.1 hx
 exact chS_len _ _ _ _ _ _ (stepS_len _ _ _ _ _)
def signS (t : BitVec 32) (s : Site) (seed c msg : List (BitVec 8)) : List (BitVec 8) := wordB t ++ c ++ (partsS t.toNat s seed c msg (pT t.toNat)).flatten
theorem signS_len (t : BitVec 32) (s : Site) (seed c msg : List (BitVec 8)) (hc : c.length = 32) : (signS t s seed c msg).length = 36 + 32 * pT t.toNat := by
 rw [signS, List.length_append, List.length_append, flat_len (parts_len _ _ _ _ _ _), hc, partsS, List.length_map, List.length_range]; rfl
noncomputable def fSign : Fn := gn5 rd32 (rdOf siteD) (rdOf d32D) (rdOf d32D) rdBs (fun _ s x c _ => decide (s.id.length = 16) && decide (x.length = 32) && decide (c.length = 32)) fun t s x c m => bif okT t.toNat then (.tup [.sl L8 0 [] 0 (36 + 32 * pT t.toNat) false, .raw (it 0)], [some ⟨L8, bs (signS t s x c m)⟩]) else (.tup [.raw (.slice none 0 0), .raw (it 6)], [])
theorem sign_ok (C : Ctx) (hC : CtxOK C P) (h1 : C.fn 40 = some fParams) (h2 : C.fn 51 = some fFour) (h3 : C.fn 53 = some fSecret) (h4 : C.fn 52 = some fChain) (h5 : C.fn 50 = some fMash) (h6 : C.fn 49 = some fDigits) : Meets C.glob P 25 (Fn.run fSign) := by
 refine fn_meets (m_ots_Sign C hC) fun ds rows r h => ?_
 obtain ⟨d0, d1, d2, d3, d4, t, s, seed, c, msg, rfl, rfl, g0, g1, g2, g3, g4, hp, rfl⟩ := gn5_some h
 cases rd32_some g0
 cases rdOf_some g1
 cases rdOf_some g2
 cases rdOf_some g3
 have gm := rdBs_some g4
 simp only [Bool.and_eq_true, decide_eq_true_eq] at hp
 obtain ⟨⟨hid, hsd⟩, hcl⟩ := hp
 clear h g0 g1 g2 g3 g4
 have hz : D.agg SPar [.raw (it 0), .raw (it 0), .raw (it 0)] = parD ⟨0, 0, 0⟩ := rfl
 have kP := fun rows k => kParams rows k t
 cases hk : okT t.toNat
 ·rw [hk] at kP
  refine ⟨rfl, afun_mk rfl ?_⟩
  unfold a_ots_Sign r_ots_Sign
  simp only [hz, z32_eq]
  simp only [↓amD, amU, simprocAttr, zipEnv, amR, d32D, h1, kP, par_fits, site_fits, Bool.not_false, cond_false]
  exact .val _ rfl
 ·have hpt : pT t.toNat ≤ 265 := (parT_ok hk).2.2.1
  have hpw : 2 ^ wT t.toNat ≤ 256 := pow_le (parT_ok hk).1
  have hsg : signS t s seed c msg = wordB t ++ c ++ (partsS t.toNat s seed c msg (pT t.toNat)).flatten := rfl
  have hdg := digs_le hk (mashS s.id s.q c msg)
  have hdl := dgS_len t.toNat s c msg
  have hml : (mashS s.id s.q c msg).length = 32 := sumS_len _
  have kD := fun rows k => kDigits rows k t (mashS s.id s.q c msg) hml hk
  have hss : ∀ i, (partsS t.toNat s seed c msg i).flatten ++ chS s.id s.q i ((dgS t.toNat s c msg).getD i 0 - 0) 0 (secS s.id s.q i seed) = (partsS t.toNat s seed c msg (i + 1)).flatten := fun i => by simp [partsS, List.range_succ]
  have hfl : ∀ i, (wordB t ++ c ++ (partsS t.toNat s seed c msg i).flatten).length = 36 + 32 * i := fun i => by
   rw [List.length_append, List.length_append, flat_len (parts_len _ _ _ _ _ _), hcl, partsS, List.length_map, List.length_range]; rfl
  rw [hk] at kP
  refine ⟨rfl, afun_mk rfl ?_⟩
  unfold a_ots_Sign r_ots_Sign
  simp only [hz, z32_eq]
  simp only [↓amD, amU, simprocAttr, zipEnv, amR, d32D, h1, kP, par_fits, site_fits, h2, kFour, Bool.not_true, cond_true]
  rw [elems_arr (n := 32) rfl rfl hcl]
  have tk : List.take 4 (bs (wordB t)) = bs (wordB t) := rfl
  refine ⟨by rw [bs_len]; exact hcl, rfl, by rw [bs_len]; omega, by rw [bs_len]; omega, ?_⟩
  rw [tk, bs_app, bs_len, hcl]
  simp only [↓amD, amU, simprocAttr, zipEnv, amR, h5]
  refine Eq.mpr (kMash _ _ s c msg d4 (gm.to) hid hcl) ?_
  simp only [↓amD, amU, simprocAttr, zipEnv, amR, h6, kD]
  have hf0 : wordB t ++ c ++ (partsS t.toNat s seed c msg 0).flatten = wordB t ++ c := by simp [partsS]
  refine kLoop_up (pT t.toNat) (fun i env rows => has env [(36, .raw (it (i : Int))), (35, .raw (it (pT t.toNat : Int))), (34, .sl LI 6 [] 0 (pT t.toNat) false), (7, .ptr (.ar 32 L8) 1 [0]), (6, .ptr SSite 0 [0])] ∧
   live rows 0 = some ⟨SSite, [siteD s]⟩ ∧ live rows 1 = some ⟨.ar 32 L8, [.agg (.ar 32 L8) (bs seed)]⟩ ∧ live rows 6 = some ⟨LI, (digitsS t.toNat (mashS s.id s.q c msg)).map natD⟩ ∧
   ∃ d', look env 14 = some d' ∧ Own L8 d' rows (bs (wordB t ++ c ++ (partsS t.toNat s seed c msg i).flatten))) ?_ ?_ ⟨?_, rfl, rfl, rfl, .sl L8 5 [] 0 36 false, ?_, .inr ⟨5, false, by rw [bs_len, hfl 0], by rw [hf0]; rfl⟩⟩
  ·rintro i hi env rows ⟨hh, r0, r1, r6, d', h14, hO⟩ R hR
   simp only [has] at hh
   have e0 : ((i : Int) < (pT t.toNat : Int)) = True := eq_true (by omega)
   have e1 := wz_succ i (by omega)
   have b0 : ∀ n : Nat, ((0 : Int) ≤ (n : Int)) = True := fun n => eq_true (by omega)
   have hai := hdg i
   have gi : ((digitsS t.toNat (mashS s.id s.q c msg)).map natD)[i]? = some (.raw (it ((dgS t.toNat s c msg).getD i 0 : Int))) := by
    have hl : i < (digitsS t.toNat (mashS s.id s.q c msg)).length := by rw [show (digitsS t.toNat (mashS s.id s.q c msg)).length = pT t.toNat from hdl]; exact hi
    simp [natD, dgS, List.getD, hl]
   have hai : (dgS t.toNat s c msg).getD i 0 ≤ 255 := by have : (dgS t.toNat s c msg).getD i 0 ≤ 2 ^ wT t.toNat - 1 := hai; omega
   have hs := hss i
   generalize (dgS t.toNat s c msg).getD i 0 = ai at *
   have kS := fun rows k => kSecret rows k s i seed hid (by omega) hsd
   have kC := fun rows k => kChain rows k s i 0 ai (secS s.id s.q i seed) hid (by omega) (by decide) (by omega) (stepS_len _ _ _ _ _)
   have hx := chS_len s.id s.q i (ai - 0) 0 (secS s.id s.q i seed) (stepS_len _ _ _ _ _)
   rw [show ((0 : Nat) : Int) = 0 from rfl] at kC
   generalize chS s.id s.q i (ai - 0) 0 (secS s.id s.q i seed) = xi at *
   have ea : ∀ ex, elems (rows ++ [some ⟨.ar 32 L8, [.agg (.ar 32 L8) (bs xi)]⟩]) (.sl L8 rows.length [0] 0 32 ex) = some (bs xi) := fun ex => elems_arr (n := 32) (by rw [lv_app0]; rfl) rfl hx
   simp only [↓amD, amU, simprocAttr, zipEnv, amR, hh, e0, e1, b0, h14, site_fits, r0, r1, r6, gi, h3, kS, h4, kC, ea, bs_len, hx]
   refine app_own hO.push (by rw [bs_len, bs_len, hx, hfl]; simp [most]; omega) (by rw [bs_len, bs_len, hx, hfl]; simp [most]; omega) fun d2 rows' hO' hfr hlen' _ => ?_
   rw [bs_app, List.append_assoc _ _ xi, hs] at hO'
   have r0' := hfr 0 _ (live_app r0 _) (fun ex => own_neA hO r0 (by decide) ex _)
   have r1' := hfr 1 _ (live_app r1 _) (fun ex => own_neA hO r1 (by decide) ex _)
   have r6' := hfr 6 _ (live_app r6 _) (fun ex => own_neA hO r6 (by decide) ex _)
   simp only [↓amD, amU, simprocAttr, zipEnv, amR, hh, e1]
   exact hR _ _ ⟨by simp only [has, ↓amD, amU, simprocAttr, zipEnv, hh], r0', r1', r6', d2, by simp only [↓amD, amU, simprocAttr, zipEnv], hO'⟩
  ·rintro env rows ⟨hh, r0, r1, r6, d', h14, hO⟩ R
   simp only [has] at hh
   have e0 : ((pT t.toNat : Int) < (pT t.toNat : Int)) = False := eq_false (by omega)
   rw [← hsg] at hO
   simp only [↓amD, amU, simprocAttr, zipEnv, amR, hh, e0, h14, hO.nTup]
   have hl := signS_len t s seed c msg hcl
   rcases hO with ⟨h, _⟩ | ⟨r, ex, rfl, hlv⟩
   ·have := congrArg List.length h; rw [bs_len, hl] at this; simp at this
   ·rw [bs_len, hl]
    exact .ownT L8 r 0 _ ex false _ _ hlv rfl rfl (fun h => by cases h)
  ·simp only [has, ↓amD, amU, simprocAttr, zipEnv]
  ·simp only [↓amD, amU, simprocAttr, zipEnv]
theorem kSign (rows : Rows) (k : D → Rows → Prop) (t : BitVec 32) (s : Site) (x c m : List (BitVec 8)) (d : D) (hd : BsIn rows d m) (hid : s.id.length = 16) (hx : x.length = 32) (hc : c.length = 32) (ht : okT t.toNat = true) :
  kCall fSign rows k [.raw (u32 t), siteD s, .agg (.ar 32 L8) (bs x), .agg (.ar 32 L8) (bs c), d] = k (.tup [.sl L8 (0 + rows.length) [] 0 (36 + 32 * pT t.toNat) false, .raw (it 0)]) (rows ++ [some ⟨L8, bs (signS t s x c m)⟩]) := by
 refine (kCall_g5 (RdIn.raw (rd32_eq t)) (site_pure s rows) (rdIn_d32 x) (rdIn_d32 c) (.bs hd) (by simp [hid, hx, hc]) (by simp [ht, noLst, noLstL, d32D, Sh.pure, noLstRows]) k).trans ?_
 simp [ht, shift, shiftL, shiftRows, Sh.pure]
def sigT (p : List (BitVec 8)) : BitVec 32 := numS p
def splitE (p : List (BitVec 8)) : Int := if p.length < 4 then 2 else bif !okT (sigT p).toNat then 6 else if p.length = 36 + 32 * pT (sigT p).toNat then 0 else 2
def chunk (p : List (BitVec 8)) (i : Nat) : List (BitVec 8) := (p.drop (36 + 32 * i)).take 32
def chunks (p : List (BitVec 8)) (n : Nat) : List (List (BitVec 8)) := (List.range n).map (chunk p)
def sigC (p : List (BitVec 8)) : List (BitVec 8) := (p.drop 4).take 32
def fSplit : Fn := fn1 rdBs (fun p => decide (p.length ≤ 1099511627776)) fun p => if splitE p = 0 then (.tup [.raw (u32 (sigT p)), d32D (sigC p), .sl (.ar 32 L8) 0 [] 0 (pT (sigT p).toNat) false, .raw (it 0)], [some ⟨.ar 32 L8, (chunks p (pT (sigT p).toNat)).map d32D⟩])
 else (.tup [.raw (u32 0#32), d32D z32, .raw (.slice none 0 0), .raw (it (splitE p))], [])
set_option maxHeartbeats 1000000 in
theorem split_ok (C : Ctx) (hC : CtxOK C P) (h1 : C.fn 40 = some fParams) : Meets C.glob P 58 (Fn.run fSplit) := by
 refine fn_meetsN (m_ots_Split C hC) fun ds rows r h => ?_
 obtain ⟨d, p, rfl, rfl, g0, hp, rfl⟩ := fn1_some h
 obtain ⟨ex, hx⟩ := rdBs_nrm g0
 simp only [decide_eq_true_eq] at hp
 refine ⟨rfl, _, .cons hx .nil, afun_mk rfl ?_⟩
 clear h g0 hx
 have hz : D.agg SPar [.raw (it 0), .raw (it 0), .raw (it 0)] = parD ⟨0, 0, 0⟩ := rfl
 unfold a_ots_Split r_ots_Split
 simp only [hz, z32_eq]
 by_cases c4 : p.length < 4
 ·have c4' : ((p.length : Int) < 4) = True := eq_true (by omega)
  have he : splitE p = 2 := by rw [splitE, if_pos c4]
  rw [he, if_neg (by decide)]
  simp only [↓amD, amU, simprocAttr, zipEnv, amR, bs_len, c4', decide_true]
  exact .val _ rfl
 have c4' : ((p.length : Int) < 4) = False := eq_false (by omega)
 have b0 : ∀ n : Nat, ((0 : Int) ≤ (n : Int)) = True := fun n => eq_true (by omega)
 have b1 : ((1 : Int) < (p.length : Int)) = True := eq_true (by omega)
 have b2 : ((2 : Int) < (p.length : Int)) = True := eq_true (by omega)
 have b3 : ((3 : Int) < (p.length : Int)) = True := eq_true (by omega)
 have b4 : ((0 : Int) < (p.length : Int)) = True := eq_true (by omega)
 have t0 : (bs p)[0]? = some (.raw (u8 (p.getD 0 0#8))) := bs_get (by omega)
 have t1 : (bs p)[1]? = some (.raw (u8 (p.getD 1 0#8))) := bs_get (by omega)
 have t2 : (bs p)[2]? = some (.raw (u8 (p.getD 2 0#8))) := bs_get (by omega)
 have t3 : (bs p)[3]? = some (.raw (u8 (p.getD 3 0#8))) := bs_get (by omega)
 have hsT : (p.getD 0 0#8).setWidth 32 <<< 24 ||| (p.getD 1 0#8).setWidth 32 <<< 16 ||| (p.getD 2 0#8).setWidth 32 <<< 8 ||| (p.getD 3 0#8).setWidth 32 = sigT p := rfl
 have kP := fun rows k => kParams rows k (sigT p)
 cases hk : okT (sigT p).toNat
 ·have he : splitE p = 6 := by rw [splitE, if_neg c4, hk]; rfl
  rw [he, if_neg (by decide)]
  rw [hk] at kP
  simp only [↓amD, amU, simprocAttr, zipEnv, amR, bs_len, c4', b0, b1, b2, b3, b4, t0, t1, t2, t3, decide_false, h1, hsT, kP, par_fits, Bool.not_false]
  exact .val _ rfl
 have hpt : pT (sigT p).toNat ≤ 265 := (parT_ok hk).2.2.1
 have g1 : (parD (parT (sigT p).toNat)).get [1] = some (.raw (it (pT (sigT p).toNat : Int))) := rfl
 have q1 : wz ((pT (sigT p).toNat : Int) + 1) = ((pT (sigT p).toNat + 1 : Nat) : Int) := wz_succ _ (by omega)
 have q2 : wz (32 * ((pT (sigT p).toNat + 1 : Nat) : Int)) = ((32 * (pT (sigT p).toNat + 1) : Nat) : Int) := by rw [wz_id (by omega)]; omega
 have q3 : wz (4 + ((32 * (pT (sigT p).toNat + 1) : Nat) : Int)) = ((36 + 32 * pT (sigT p).toNat : Nat) : Int) := by rw [wz_id (by omega)]; omega
 rw [hk] at kP
 by_cases cl : p.length = 36 + 32 * pT (sigT p).toNat
 ·have cl' : ((p.length : Int) = ((36 + 32 * pT (sigT p).toNat : Nat) : Int)) = True := eq_true (by omega)
  have he : splitE p = 0 := by rw [splitE, if_neg c4, hk, if_pos cl]; rfl
  rw [if_pos he]
  have g36 : ((36 : Int) ≤ (p.length : Int)) = True := eq_true (by omega)
  simp only [↓amD, amU, simprocAttr, zipEnv, amR, bs_len, c4', b0, b1, b2, b3, b4, t0, t1, t2, t3, decide_false, decide_true, h1, hsT, kP, par_fits, Bool.not_true, g1, q1, q2, q3, cl', g36, bs_drop, bs_take]
  have hd0 : (p.drop 36).take (p.length - 36) = p.drop 36 := List.take_of_length_le (by rw [List.length_drop]; omega)
  rw [hd0]
  generalize exOf none p.length p.length p.length ex = ex0
  have hp0 : 1 ≤ pT (sigT p).toNat := by rcases okT_cases hk with e | e | e | e <;> rw [e] <;> decide
  generalize pT (sigT p).toNat = NP at *
  generalize sigT p = T at *
  have hcl : ∀ i, i < NP → (chunk p i).length = 32 := fun i hi => by rw [chunk, List.length_take, List.length_drop]; omega
  have hds : ∀ i, (chunks p i).map d32D ++ [.agg (.ar 32 L8) (bs (chunk p i))] = (chunks p (i + 1)).map d32D := fun i => by simp [chunks, List.range_succ, d32D]
  have hdl : ∀ i, (chunks p i).length = i := fun i => by simp [chunks]
  refine kLoop_up NP (fun i env rows => has env [(6, .raw (u32 T)), (0, .lst L8 (bs p) ex), (3, .ptr (.ar 32 L8) 0 [0])] ∧ live rows 0 = some ⟨.ar 32 L8, [.agg (.ar 32 L8) (bs z32)]⟩ ∧
   (∃ e', look env 10 = some (.lst L8 (bs (p.drop (36 + 32 * i))) e')) ∧ ∃ d', look env 9 = some d' ∧ Own (.ar 32 L8) d' rows ((chunks p i).map d32D) ∧ (∀ r ex n, d' = .sl (.ar 32 L8) r [] 0 n ex → 1 ≤ r)) ?_ ?_ ⟨?_, rfl, ⟨ex0, ?_⟩, .raw (.slice none 0 0), ?_, .inl ⟨rfl, rfl⟩, fun r ex n h => ?_⟩
  ·rintro i hi env rows ⟨hh, r0, ⟨e', h10⟩, d', h9, hO, hne⟩ R hR
   simp only [has] at hh
   have hrl : (p.drop (36 + 32 * i)).length = 32 * (NP - i) := by rw [List.length_drop]; omega
   have e0 : ((0 : Int) < ((32 * (NP - i) : Nat) : Int)) = True := eq_true (by omega)
   have e1 : ((32 : Int) ≤ ((32 * (NP - i) : Nat) : Int)) = True := eq_true (by omega)
   have lt0 := live_lt r0
   simp only [↓amD, amU, simprocAttr, zipEnv, amR, hh, h10, h9, bs_len, hrl, e0, e1, bs_drop, bs_take, decide_true]
   have hch : List.take 32 (List.drop (36 + 32 * i) p) = chunk p i := rfl
   have hch2 : List.take 32 (chunk p i) = chunk p i := List.take_of_length_le (by rw [hcl i hi]; exact Nat.le_refl _)
   simp only [hch, hch2]
   refine ⟨by rw [hcl i hi]; exact Nat.le_refl _, app_ownA hO.push (by rw [List.length_map, hdl]; simp [most]; omega) (by rw [List.length_map, hdl]; simp [most]; omega) fun rows' hl' hfr hlen' => ?_⟩
   rw [hds, List.length_append] at hl'
   have hl' : live rows' (rows.length + 1) = _ := hl'
   have r0' := hfr 0 _ (live_app r0 _) (fun ex n e => by have := hne _ _ _ e; omega)
   have hrest : List.take (32 * (NP - i) - 32) (List.drop 32 (List.drop (36 + 32 * i) p)) = p.drop (36 + 32 * (i + 1)) := by
    rw [List.drop_drop, show 36 + 32 * i + 32 = 36 + 32 * (i + 1) by omega, List.take_of_length_le (by rw [List.length_drop]; omega)]
   simp only [↓amD, amU, simprocAttr, zipEnv, amR, hh, h10, bs_len, hrl, e1, bs_drop, bs_take, hrest]
   refine hR _ _ ⟨by simp only [has, ↓amD, amU, simprocAttr, zipEnv, hh], r0', ⟨exOf none (32 * (NP - i)) (32 * (NP - i)) (32 * (NP - i)) e', by simp only [↓amD, amU, simprocAttr, zipEnv]⟩, .sl (.ar 32 L8) (rows.length + 1) [] 0 ((chunks p i).length + 1) false, by simp only [↓amD, amU, simprocAttr, zipEnv, List.length_map], .inr ⟨_, false, by rw [List.length_map, hdl, hdl], hl'⟩, fun r ex n e => by injection e with _ e; omega⟩
  ·rintro env rows ⟨hh, r0, ⟨e', h10⟩, d', h9, hO, hne⟩ R
   simp only [has] at hh
   have hrl : (p.drop (36 + 32 * NP)).length = 0 := by rw [List.length_drop]; omega
   have g36 : ((36 : Int) ≤ (p.length : Int)) = True := eq_true (by omega)
   have w0 := fun y => live_set_eq (y := y) r0
   simp only [↓amD, amU, simprocAttr, zipEnv, amR, hh, h10, h9, bs_len, hrl, g36, bs_drop, bs_take, hO.nTup, r0]
   have hsc : List.take 32 (List.drop 4 p) = sigC p := rfl
   have hsl : (sigC p).length = 32 := by rw [sigC, List.length_take, List.length_drop]; omega
   have hsc2 : List.take 32 (sigC p) = sigC p := List.take_of_length_le (by rw [hsl]; exact Nat.le_refl _)
   simp only [hsc, hsc2, w0]
   refine ⟨by rw [hsl]; exact Nat.le_refl _, ?_⟩
   rcases hO with ⟨h, _⟩ | ⟨r, ex1, rfl, hlv⟩
   ·have := congrArg List.length h; rw [List.length_map, hdl] at this; simp at this; omega
   ·have hr0 := hne r ex1 _ rfl
    have hlv2 := live_set_o (y := ⟨.ar 32 L8, [.agg (.ar 32 L8) (bs (sigC p))]⟩) hlv (q := 0) (by omega)
    rw [List.length_map, hdl]
    exact .ownU [.raw (u32 T), d32D (sigC p)] (.ar 32 L8) r 0 _ ex1 false _ [.raw (it 0)] hlv2 rfl rfl rfl (fun h => by cases h)
  ·simp only [has, ↓amD, amU, simprocAttr, zipEnv]
  ·simp only [↓amD, amU, simprocAttr, zipEnv]
  ·simp only [↓amD, amU, simprocAttr, zipEnv]
  ·cases h
 ·have cl' : ((p.length : Int) = ((36 + 32 * pT (sigT p).toNat : Nat) : Int)) = False := eq_false (by omega)
  have he : splitE p = 2 := by rw [splitE, if_neg c4, hk, if_neg cl]; rfl
  rw [he, if_neg (by decide)]
  simp only [↓amD, amU, simprocAttr, zipEnv, amR, bs_len, c4', b0, b1, b2, b3, b4, t0, t1, t2, t3, decide_false, h1, hsT, kP, par_fits, Bool.not_true, g1, q1, q2, q3, cl']
  exact .val _ rfl
theorem kSplit (rows : Rows) (k : D → Rows → Prop) (d : D) (p : List (BitVec 8)) (hd : BsIn rows d p) (hp : p.length ≤ 1099511627776) (he : splitE p = 0) :
  kCall fSplit rows k [d] = k (.tup [.raw (u32 (sigT p)), .agg (.ar 32 L8) (bs (sigC p)), .sl (.ar 32 L8) (0 + rows.length) [] 0 (pT (sigT p).toNat) false, .raw (it 0)]) (rows ++ [some ⟨.ar 32 L8, (chunks p (pT (sigT p).toNat)).map d32D⟩]) := by
 refine (kCall_rd1 (.bs hd) (by simp [hp]) (by simp [he, noLst, noLstL, d32D, Sh.pure, noLstRows]) k).trans ?_
 simp [he, d32D, shift, shiftL, shiftRows, Sh.pure]
theorem kSplitE (rows : Rows) (k : D → Rows → Prop) (d : D) (p : List (BitVec 8)) (hd : BsIn rows d p) (hp : p.length ≤ 1099511627776) (he : ¬ splitE p = 0) :
  kCall fSplit rows k [d] = k (.tup [.raw (u32 0#32), .agg (.ar 32 L8) (bs z32), .raw (.slice none 0 0), .raw (it (splitE p))]) rows := by
 refine (kCall_rd1 (.bs hd) (by simp [hp]) (by simp [he, noLst, noLstL, d32D, Sh.pure, noLstRows]) k).trans ?_
 simp [he, d32D, shift, shiftL, shiftRows, Sh.pure]
theorem split_0 {p : List (BitVec 8)} (h : splitE p = 0) : 4 ≤ p.length ∧ okT (sigT p).toNat = true ∧ p.length = 36 + 32 * pT (sigT p).toNat := by
 unfold splitE at h
 split at h
 ·cases h
 ·cases hk : okT (sigT p).toNat with
  | false => rw [hk] at h; cases h
  | true =>
   rw [hk] at h
   simp only [Bool.not_true, cond_false] at h
   split at h
   ·exact ⟨by omega, rfl, by assumption⟩
   ·cases h
def clE (s : Site) (p msg : List (BitVec 8)) (i : Nat) : List (BitVec 8) :=
 chS s.id s.q i (2 ^ wT (sigT p).toNat - 1 - (dgS (sigT p).toNat s (sigC p) msg).getD i 0) ((dgS (sigT p).toNat s (sigC p) msg).getD i 0) (chunk p i)
def clL (s : Site) (p msg : List (BitVec 8)) (n i : Nat) : List (List (BitVec 8)) := (List.range n).map fun j => if j < i then clE s p msg j else chunk p j
def claimS (s : Site) (p msg : List (BitVec 8)) : List (BitVec 8) := foldS s.id s.q ((List.range (pT (sigT p).toNat)).map (clE s p msg))
theorem clL_0 (s : Site) (p msg : List (BitVec 8)) (n : Nat) : clL s p msg n 0 = chunks p n := by simp [clL, chunks]
theorem clL_n (s : Site) (p msg : List (BitVec 8)) (n : Nat) : clL s p msg n n = (List.range n).map (clE s p msg) := by
 apply List.map_congr_left
 intro j hj
 rw [if_pos (List.mem_range.1 hj)]
theorem clL_set (s : Site) (p msg : List (BitVec 8)) (n i : Nat) (h : i < n) : (clL s p msg n i).set i (clE s p msg i) = clL s p msg n (i + 1) := by
 apply List.ext_getElem (by simp [clL])
 intro j h1 h2
 have hj : j < n := by simpa [clL] using h2
 rw [List.getElem_set]
 by_cases c : i = j
 ·subst c; simp [clL]
 ·rw [if_neg c]
  simp only [clL, List.getElem_map, List.getElem_range]
  by_cases c2 : j < i
  ·rw [if_pos c2, if_pos (by omega)]
  ·rw [if_neg c2, if_neg (by omega)]
theorem clE_len {s : Site} {p msg : List (BitVec 8)} {i : Nat} (h : (chunk p i).length = 32) : (clE s p msg i).length = 32 := chS_len _ _ _ _ _ _ h
noncomputable def fClaim : Fn := fn3 (rdOf siteD) rdBs rdBs (fun s p m => decide (s.id.length = 16) && decide (p.length ≤ 1099511627776)) fun s p m => if splitE p = 0 then (.tup [d32D (claimS s p m), .raw (it 0)], []) else (.tup [d32D z32, .raw (it (splitE p))], [])
set_option maxHeartbeats 1000000 in
theorem claim_ok (C : Ctx) (hC : CtxOK C P) (h1 : C.fn 40 = some fParams) (h2 : C.fn 59 = some fEnd) (h4 : C.fn 52 = some fChain) (h5 : C.fn 50 = some fMash) (h6 : C.fn 49 = some fDigits) (h7 : C.fn 58 = some fSplit) (h8 : C.fn 60 = some fFold) : Meets C.glob P 31 (Fn.run fClaim) := by
 refine fn_meets (m_ots_Claim C hC) fun ds rows r h => ?_
 obtain ⟨d0, d1, d2, s, p, msg, rfl, rfl, g0, g1, g2, hp, rfl⟩ := fn3_some h
 cases rdOf_some g0
 have gp := rdBs_some g1
 have gm := rdBs_some g2
 simp only [Bool.and_eq_true, decide_eq_true_eq] at hp
 obtain ⟨hid, hpl⟩ := hp
 clear h g0 g1 g2
 have hz : D.agg SPar [.raw (it 0), .raw (it 0), .raw (it 0)] = parD ⟨0, 0, 0⟩ := rfl
 refine ⟨rfl, afun_mk rfl ?_⟩
 unfold a_ots_Claim r_ots_Claim
 simp only [hz, z32_eq]
 by_cases he : splitE p = 0
 ·rw [if_pos he]
  obtain ⟨h4l, hk, hl⟩ := split_0 he
  have kSp := fun rows k => kSplit rows k d1 p gp.to hpl he
  have hcS : claimS s p msg = foldS s.id s.q (clL s p msg (pT (sigT p).toNat) (pT (sigT p).toNat)) := by rw [clL_n, claimS]
  have hset := clL_set s p msg (pT (sigT p).toNat)
  have h00 := clL_0 s p msg (pT (sigT p).toNat)
  have hcE : ∀ i, clE s p msg i = chS s.id s.q i (2 ^ wT (sigT p).toNat - 1 - (dgS (sigT p).toNat s (sigC p) msg).getD i 0) ((dgS (sigT p).toNat s (sigC p) msg).getD i 0) (chunk p i) := fun i => rfl
  have hpt : pT (sigT p).toNat ≤ 265 := (parT_ok hk).2.2.1
  have hpw : 2 ^ wT (sigT p).toNat ≤ 256 := pow_le (parT_ok hk).1
  have kP := fun rows k => kParams rows k (sigT p)
  have kE := fun rows k => kEnd rows k (parT (sigT p).toNat) (parT_ok hk).1
  have hew : (parT (sigT p).toNat).w = wT (sigT p).toNat := rfl
  rw [hk] at kP
  rw [hew] at kE
  have hc32 : (sigC p).length = 32 := by rw [sigC, List.length_take, List.length_drop]; omega
  have hch : ∀ i, i < pT (sigT p).toNat → (chunk p i).length = 32 := fun i hi => by rw [chunk, List.length_take, List.length_drop]; omega
  have kM := fun rows k => kMash rows k s (sigC p) msg d2 (gm.to) hid hc32
  have hml : (mashS s.id s.q (sigC p) msg).length = 32 := sumS_len _
  have kD := fun rows k => kDigits rows k (sigT p) (mashS s.id s.q (sigC p) msg) hml hk
  have hdl := dgS_len (sigT p).toNat s (sigC p) msg
  have hdg := digs_le hk (mashS s.id s.q (sigC p) msg)
  simp only [↓amD, amU, simprocAttr, zipEnv, amR, d32D, site_fits, par_fits, h7, kSp, h1, kP, h5, kM, h6, kD]
  rw [← h00]
  have hget : ∀ i, i < pT (sigT p).toNat → ((clL s p msg (pT (sigT p).toNat) i).map d32D)[i]? = some (.agg (.ar 32 L8) (bs (chunk p i))) := fun i hi => by
   simp [clL, d32D, hi]
  have hll : ∀ i, (clL s p msg (pT (sigT p).toNat) i).length = pT (sigT p).toNat := fun i => by simp [clL]
  have hsm : ∀ i, i < pT (sigT p).toNat → ((clL s p msg (pT (sigT p).toNat) i).map d32D).set i (.agg (.ar 32 L8) (bs (clE s p msg i))) = (clL s p msg (pT (sigT p).toNat) (i + 1)).map d32D := fun i hi => by
   rw [← hset i hi, List.map_set]; rfl
  have h32 : ∀ x ∈ clL s p msg (pT (sigT p).toNat) (pT (sigT p).toNat), x.length = 32 := by
   intro x hx
   rw [clL_n] at hx
   obtain ⟨i, hi, rfl⟩ := List.mem_map.1 hx
   exact clE_len (hch i (List.mem_range.1 hi))
  have g0' : ∀ i, i < pT (sigT p).toNat → ((digitsS (sigT p).toNat (mashS s.id s.q (sigC p) msg)).map natD)[i]? = some (.raw (it ((dgS (sigT p).toNat s (sigC p) msg).getD i 0 : Int))) := fun i hi => by
   have hl : i < (digitsS (sigT p).toNat (mashS s.id s.q (sigC p) msg)).length := by rw [show (digitsS (sigT p).toNat (mashS s.id s.q (sigC p) msg)).length = pT (sigT p).toNat from hdl]; exact hi
   simp [natD, dgS, List.getD, hl]
  have b0 : ∀ n : Nat, ((0 : Int) ≤ (n : Int)) = True := fun n => eq_true (by omega)
  have hdg' : ∀ i, (dgS (sigT p).toNat s (sigC p) msg).getD i 0 ≤ 2 ^ wT (sigT p).toNat - 1 := hdg
  generalize digitsS (sigT p).toNat (mashS s.id s.q (sigC p) msg) = DG at *
  generalize pT (sigT p).toNat = n at *
  refine kLoop_up n (fun i env rows => has env [(39, .raw (it (i : Int))), (38, .raw (it (n : Int))), (37, .sl LI 5 [] 0 n false), (12, .ptr SPar 4 [0]), (10, .sl (.ar 32 L8) 2 [] 0 n false), (6, .ptr (.ar 32 L8) 1 [0]), (3, .ptr SSite 0 [0])] ∧
   rows = [some ⟨SSite, [siteD s]⟩, some ⟨.ar 32 L8, [.agg (.ar 32 L8) (bs z32)]⟩, some ⟨.ar 32 L8, (clL s p msg n i).map d32D⟩, some ⟨.ar 32 L8, [.agg (.ar 32 L8) (bs (sigC p))]⟩, some ⟨SPar, [parD (parT (sigT p).toNat)]⟩, some ⟨LI, DG.map natD⟩]) ?_ ?_ ⟨?_, rfl⟩
  ·rintro i hi env rows ⟨hh, rfl⟩ R hR
   simp only [has] at hh
   have e0 : ((i : Int) < (n : Int)) = True := eq_true (by omega)
   have e1 := wz_succ i (by omega)
   have hx := hch i hi
   have kC := fun rows k => kChain rows k s i ((dgS (sigT p).toNat s (sigC p) msg).getD i 0) (2 ^ wT (sigT p).toNat - 1) (chunk p i) hid (by omega) (by have := hdg' i; omega) (by omega) hx
   rw [← hcE i] at kC
   have gi := g0' i hi
   have gl := hget i hi
   have gs := hsm i hi
   simp only [↓amD, amU, simprocAttr, zipEnv, amR, hh, e0, e1, b0, site_fits, par_fits, gi, h2, kE, gl, h4, kC, gs]
   exact hR _ _ ⟨by simp only [has, ↓amD, amU, simprocAttr, zipEnv, hh], rfl⟩
  ·rintro env rows ⟨hh, rfl⟩ R
   simp only [has] at hh
   have e0 : ((n : Int) < (n : Int)) = False := eq_false (by omega)
   simp only [↓amD, amU, simprocAttr, zipEnv, amR, hh, e0, site_fits, h8]
   refine Eq.mpr (kFold _ _ s _ _ (RdIn.dl rfl (hll n)) hid h32 (by rw [hll]; omega)) ?_
   rw [← hcS]
   simp only [↓amD, amU, simprocAttr, zipEnv, amR, hh]
   exact .val _ rfl
  ·simp only [has, ↓amD, amU, simprocAttr, zipEnv]
 ·rw [if_neg he]
  have kSp := fun rows k => kSplitE rows k d1 p gp.to hpl he
  have he' : (splitE p = 0) = False := eq_false he
  simp only [↓amD, amU, simprocAttr, zipEnv, amR, d32D, site_fits, h7, kSp, he', decide_false, Bool.not_false]
  exact .val _ rfl
theorem kClaim (rows : Rows) (k : D → Rows → Prop) (s : Site) (d e : D) (p m : List (BitVec 8)) (hd : BsIn rows d p) (hm : BsIn rows e m) (hid : s.id.length = 16) (hp : p.length ≤ 1099511627776) (he : splitE p = 0) :
  kCall fClaim rows k [siteD s, d, e] = k (.tup [.agg (.ar 32 L8) (bs (claimS s p m)), .raw (it 0)]) rows := by
 refine (kCall_rd3 (site_pure s rows) (.bs hd) (.bs hm) (by simp [hid, hp]) (by simp [he, noLst, noLstL, d32D, Sh.pure, noLstRows]) k).trans ?_
 simp [he, d32D, shift, shiftL, shiftRows, Sh.pure]
theorem numS_wordB (t : BitVec 32) : numS (wordB t) = t := by
 apply BitVec.eq_of_toNat_eq
 have h := numB_four ((t >>> 24).setWidth 8) ((t >>> 16).setWidth 8) ((t >>> 8).setWidth 8) (t.setWidth 8)
 rw [show numS (wordB t) = numS [(t >>> 24).setWidth 8, (t >>> 16).setWidth 8, (t >>> 8).setWidth 8, t.setWidth 8] from rfl, ← h]
 exact numB_wordB t
theorem flat_chunk {l : List (List (BitVec 8))} (h : ∀ x ∈ l, x.length = 32) : ∀ i (hi : i < l.length), (l.flatten.drop (32 * i)).take 32 = l[i] := by
 induction l with
 | nil => intro i hi; simp at hi
 | cons x l ih =>
  intro i hi
  have hx := h x (by simp)
  cases i with
  | zero => rw [Nat.mul_zero, List.drop_zero, List.flatten_cons, ← hx, List.take_left]; rfl
  | succ i =>
   rw [List.flatten_cons, show 32 * (i + 1) = x.length + 32 * i by omega, List.drop_length_add_append]
   exact ih (fun y hy => h y (by simp [hy])) i (by simpa using hi)
section
variable (t : BitVec 32) (s : Site) (seed c m : List (BitVec 8))
theorem sig_T : sigT (signS t s seed c m) = t := by
 rw [sigT, ← numS_take _ 4 (by decide), signS, List.append_assoc]
 show numS (wordB t) = t
 exact numS_wordB t
variable (hc : c.length = 32)
include hc
theorem sig_C : sigC (signS t s seed c m) = c := by
 rw [sigC, signS, List.append_assoc]
 show (c ++ (partsS t.toNat s seed c m (pT t.toNat)).flatten).take 32 = c
 have h := List.take_left (l₁ := c) (l₂ := (partsS t.toNat s seed c m (pT t.toNat)).flatten)
 rw [hc] at h
 exact h
theorem sig_chunk (i : Nat) (hi : i < pT t.toNat) : chunk (signS t s seed c m) i = chS s.id s.q i ((dgS t.toNat s c m).getD i 0) 0 (secS s.id s.q i seed) := by
 have h36 : (wordB t ++ c).length = 36 := by rw [List.length_append, hc]; rfl
 have hpl : (partsS t.toNat s seed c m (pT t.toNat)).length = pT t.toNat := by simp [partsS]
 rw [chunk, signS, show 36 + 32 * i = (wordB t ++ c).length + 32 * i by omega, List.drop_length_add_append, flat_chunk (parts_len _ _ _ _ _ _) i (by omega)]
 simp [partsS]
theorem claim_sign (ht : okT t.toNat = true) : claimS s (signS t s seed c m) m = pubS t.toNat s seed := by
 have hT := sig_T t s seed c m
 have hC := sig_C t s seed c m hc
 rw [claimS, hT, pubS, endsS]
 congr 1
 apply List.map_congr_left
 intro i hi
 have hi := List.mem_range.1 hi
 have hle : (dgS t.toNat s c m).getD i 0 ≤ 2 ^ wT t.toNat - 1 := digs_le ht _ i
 rw [clE, hT, hC, sig_chunk t s seed c m hc i hi]
 generalize (dgS t.toNat s c m).getD i 0 = a at *
 have := chS_add s.id s.q i (2 ^ wT t.toNat - 1 - a) a 0 (secS s.id s.q i seed)
 rw [Nat.zero_add] at this
 rw [← this]
 congr 1
 omega
end
abbrev SKey : Sh := .cons L32 (.cons L32 (.cons (.ar 16 L8) (.cons (.ar 32 L8) .nil)))
noncomputable def fLNum : Fn := fn1 rdBs (fun a => Nat.ble 4 a.length) fun a => (.raw (u32 (numS a)), [])
theorem lnum_ok (C : Ctx) (hC : CtxOK C P) : Meets C.glob P 57 (Fn.run fLNum) := by
 refine fn_meets (m_lms_num C hC) fun ds rows r h => ?_
 obtain ⟨d, a, rfl, rfl, hd, hp, rfl⟩ := fn1_some h
 have ha := rdBs_some hd
 simp only [Nat.ble_eq] at hp
 refine ⟨rfl, afun_mk rfl ?_⟩
 unfold a_lms_num r_lms_num
 have e0 : ∀ (k : D → Rows → Prop) rows, kIdx (.leaf (.int .u8)) 0 rows k d = k (.cptr (.raw (u8 (a.getD 0 0#8)))) rows := fun k rows => by have := kIdx_bs (k := k) (rows := rows) (n := 0) ha (by omega); simpa using this
 have e1 : ∀ (k : D → Rows → Prop) rows, kIdx (.leaf (.int .u8)) 1 rows k d = k (.cptr (.raw (u8 (a.getD 1 0#8)))) rows := fun k rows => by have := kIdx_bs (k := k) (rows := rows) (n := 1) ha (by omega); simpa using this
 have e2 : ∀ (k : D → Rows → Prop) rows, kIdx (.leaf (.int .u8)) 2 rows k d = k (.cptr (.raw (u8 (a.getD 2 0#8)))) rows := fun k rows => by have := kIdx_bs (k := k) (rows := rows) (n := 2) ha (by omega); simpa using this
 have e3 : ∀ (k : D → Rows → Prop) rows, kIdx (.leaf (.int .u8)) 3 rows k d = k (.cptr (.raw (u8 (a.getD 3 0#8)))) rows := fun k rows => by have := kIdx_bs (k := k) (rows := rows) (n := 3) ha (by omega); simpa using this
 simp only [↓amD, amU, simprocAttr, zipEnv, e0, e1, e2, e3]
 exact .val _ rfl
theorem kLNum (rows : Rows) (k : D → Rows → Prop) (d : D) (p : List (BitVec 8)) (h : BsIn rows d p) (hp : 4 ≤ p.length) : kCall fLNum rows k [d] = k (.raw (u32 (numS p))) rows := by
 refine (kCall_rd1 (RdIn.bs h) (by simpa using hp) rfl k).trans ?_
 simp [shift, shiftRows]
def hT (t : Nat) : Nat := if 5 ≤ t ∧ t ≤ 9 then 5 * (t - 4) else if 3758096384 < t ∧ t ≤ 3758096388 then t - 3758096384 else 0
def okH (t : Nat) : Bool := decide (5 ≤ t ∧ t ≤ 9 ∨ 3758096384 < t ∧ t ≤ 3758096388)
theorem hT_le (t : Nat) : hT t ≤ 25 := by
 unfold hT; split
 ·omega
 ·split <;> omega
theorem okH_cases {t : BitVec 32} (h : okH t.toNat = true) : t = 5#32 ∨ t = 6#32 ∨ t = 7#32 ∨ t = 8#32 ∨ t = 9#32 ∨ t = 3758096385#32 ∨ t = 3758096386#32 ∨ t = 3758096387#32 ∨ t = 3758096388#32 := by
 simp only [okH, decide_eq_true_eq] at h
 have : t.toNat = 5 ∨ t.toNat = 6 ∨ t.toNat = 7 ∨ t.toNat = 8 ∨ t.toNat = 9 ∨ t.toNat = 3758096385 ∨ t.toNat = 3758096386 ∨ t.toNat = 3758096387 ∨ t.toNat = 3758096388 := by omega
 have g : ∀ n, n < 4294967296 → t.toNat = n → t = BitVec.ofNat 32 n := fun n hn e => BitVec.eq_of_toNat_eq (by rw [e, BitVec.toNat_ofNat, Nat.mod_eq_of_lt hn])
 rcases this with h | h | h | h | h | h | h | h | h <;> have := g _ (by decide) h <;> simp [this]
def fHeight : Fn := fn1 rd32 (fun _ => true) fun t => (.tup [.raw (it (hT t.toNat : Int)), .raw (.bool (okH t.toNat))], [])
theorem height_ok (C : Ctx) (hC : CtxOK C P) : Meets C.glob P 45 (Fn.run fHeight) := by
 refine fn_meets (m_lms_Height C hC) fun ds rows r h => ?_
 obtain ⟨d, t, rfl, rfl, hd, hp, rfl⟩ := fn1_some h
 cases rd32_some hd
 refine ⟨rfl, afun_mk rfl ?_⟩
 clear h hd
 unfold a_lms_Height r_lms_Height
 cases hk : okH t.toNat
 ·have hz : hT t.toNat = 0 := by
   simp only [okH, decide_eq_false_iff_not] at hk
   unfold hT; split
   ·omega
   ·split <;> omega
  rw [hz]
  simp only [okH, decide_eq_false_iff_not] at hk
  have a1 : (5#32 ≤ t) = (5 ≤ t.toNat) := propext BitVec.le_def
  have a2 : (t ≤ 9#32) = (t.toNat ≤ 9) := propext BitVec.le_def
  have a3 : (3758096384#32 < t) = (3758096384 < t.toNat) := propext BitVec.lt_def
  have a4 : (t ≤ 3758096388#32) = (t.toNat ≤ 3758096388) := propext BitVec.le_def
  by_cases c1 : 5 ≤ t.toNat <;> by_cases c2 : t.toNat ≤ 9 <;> by_cases c3 : 3758096384 < t.toNat <;> by_cases c4 : t.toNat ≤ 3758096388 <;>
   first
   | omega
   | (simp only [↓amD, amU, simprocAttr, zipEnv, a1, a2, a3, a4, c1, c2, c3, c4, decide_true, decide_false]; exact .val _ rfl)
 ·rcases okH_cases hk with rfl | rfl | rfl | rfl | rfl | rfl | rfl | rfl | rfl <;>
  ·simp only [↓amD, amU, simprocAttr, zipEnv, BitVec.reduceLT, BitVec.reduceLE, BitVec.reduceSub, BitVec.reduceToNat, decide_true, decide_false]
   exact .val _ rfl
theorem kHeight (rows : Rows) (k : D → Rows → Prop) (t : BitVec 32) : kCall fHeight rows k [.raw (u32 t)] = k (.tup [.raw (it (hT t.toNat : Int)), .raw (.bool (okH t.toNat))]) rows := by
 refine (kCall_rd1 (RdIn.raw (rd32_eq t)) rfl rfl k).trans ?_
 simp [shift, shiftL, shiftRows]
structure Key where
 t : BitVec 32
 o : BitVec 32
 id : List (BitVec 8)
 root : List (BitVec 8)
def keyD (k : Key) : D := .agg SKey [.raw (u32 k.t), .raw (u32 k.o), .agg (.ar 16 L8) (bs k.id), .agg (.ar 32 L8) (bs k.root)]
def key0 : Key := ⟨0#32, 0#32, List.replicate 16 0#8, List.replicate 32 0#8⟩
def keyOf (p : List (BitVec 8)) : Key := ⟨numS p, numS (p.drop 4), (p.drop 8).take 16, p.drop 24⟩
def readS (p : List (BitVec 8)) : Key × Int :=
 bif decide (p.length = 56) then
  (bif okH (numS p).toNat && okT (numS (p.drop 4)).toNat then (keyOf p, 0) else (key0, 6))
 else (key0, 2)
noncomputable def fReadK : Fn := fn1 rdBs (fun a => Nat.ble a.length most) fun p => (.tup [keyD (readS p).1, .raw (it (readS p).2)], [])
theorem kLNumL (rows : Rows) (k : D → Rows → Prop) (x : List (BitVec 8)) (e : Bool) (h : 4 ≤ x.length) : kCall fLNum rows k [.lst L8 (bs x) e] = k (.raw (u32 (numS x))) rows := by
 refine (kCall_val rfl (fn1_eq (rdBs_lst x e) (by simpa using h))).trans ?_
 simp [shift, shiftRows]
set_option maxHeartbeats 2000000 in
theorem readK_ok (C : Ctx) (hC : CtxOK C P) (h1 : C.fn 57 = some fLNum) (h2 : C.fn 45 = some fHeight) (h3 : C.fn 40 = some fParams) : Meets C.glob P 39 (Fn.run fReadK) := by
 refine fn_meetsN (m_lms_read C hC) fun ds rows r h => ?_
 obtain ⟨d, p, rfl, rfl, hd, hp, rfl⟩ := fn1_some h
 obtain ⟨x, hx⟩ := rdBs_nrm hd
 refine ⟨rfl, _, .cons hx .nil, afun_mk rfl ?_⟩
 simp only [Nat.ble_eq] at hp
 unfold most at hp
 clear h hx hd
 unfold a_lms_read r_lms_read
 have hz : D.fits (.agg SKey [.raw (u32 0#32), .raw (u32 0#32), .agg (.ar 16 L8) (List.replicate 16 (.raw (u8 0#8))), .agg (.ar 32 L8) (List.replicate 32 (.raw (u8 0#8)))]) SKey = true := rfl
 by_cases hl : p.length = 56
 ·have d0 : 4 ≤ p.length := by omega
  have d4 : 4 ≤ (p.drop 4).length := by rw [List.length_drop]; omega
  have tk4 : (bs (p.drop 4)).take 52 = bs (p.drop 4) := List.take_of_length_le (by rw [bs_len, List.length_drop]; omega)
  have tk8 : (bs (p.drop 8)).take 16 = bs ((p.drop 8).take 16) := bs_take _ _
  have tkk : (bs ((p.drop 8).take 16)).take 16 = bs ((p.drop 8).take 16) := List.take_of_length_le (by rw [bs_len, List.length_take]; omega)
  have tk24 : (bs (p.drop 24)).take 32 = bs (p.drop 24) := List.take_of_length_le (by rw [bs_len, List.length_drop]; omega)
  simp only [↓amD, amU, simprocAttr, zipEnv, bs_len, hl, h1, kLNumL _ _ _ _ d0, kLNumL _ _ _ _ d4, bs_drop, tk4, tk8, tkk, tk24, List.length_drop, hz]
  have l16 : (List.take 16 (List.drop 8 p)).length = 16 := by rw [List.length_take, List.length_drop]; omega
  have l32 : (List.drop 24 p).length = 32 := by rw [List.length_drop]; omega
  refine ⟨by omega, ?_⟩
  simp only [↓amD, amU, simprocAttr, zipEnv, amR, l16, l32, h2, h3, kHeight, kParams, hz, parD, tkk, tk24]
  have hq : readS p = if okH (numS p).toNat && okT (numS (p.drop 4)).toNat then (keyOf p, 0) else (key0, 6) := by
   simp only [readS, hl, decide_true, cond_true]
   cases okH (numS p).toNat && okT (numS (p.drop 4)).toNat <;> rfl
  rw [hq]
  cases g1 : okH (numS p).toNat <;> cases g2 : okT (numS (p.drop 4)).toNat <;>
  ·simp only [↓amD, amU, simprocAttr, zipEnv, Bool.not_true, Bool.not_false, Bool.and_self, Bool.and_false, Bool.false_and, if_true, Bool.false_eq_true, if_false, D.fits]
   try exact .val _ rfl
 ·have hl1 : ((p.length : Int) = 56) = False := eq_false (by omega)
  have hq : readS p = (key0, 2) := by simp [readS, hl]
  rw [hq]
  simp only [↓amD, amU, simprocAttr, zipEnv, bs_len, hl1]
  exact .val _ rfl
theorem lfour_ok (C : Ctx) (hC : CtxOK C P) : Meets C.glob P 27 (Fn.run fFour) := by
 refine fn_meets (m_lms_four C hC) fun ds rows r h => ?_
 obtain ⟨d, n, rfl, rfl, hd, hp, rfl⟩ := fn1_some h
 cases rd32_some hd
 refine ⟨rfl, afun_mk rfl ?_⟩
 clear h hd
 unfold a_lms_four r_lms_four
 simp only [↓amD, amU, simprocAttr, zipEnv]
 exact .own _ 0 0 4 true false _ rfl rfl (fun h => by cases h)
def hashS (id : List (BitVec 8)) (r : BitVec 32) (kd : Nat) (l : List (List (BitVec 8))) : List (BitVec 8) := sumS (id ++ wordB r ++ be2 kd ++ l.flatten)
def nodeS (id : List (BitVec 8)) (r : BitVec 32) (a b : List (BitVec 8)) : List (BitVec 8) := hashS id r 33667 [a, b]
def leafS (id : List (BitVec 8)) (r : BitVec 32) (k : List (BitVec 8)) : List (BitVec 8) := hashS id r 33410 [k]
theorem nodeS_len (id : List (BitVec 8)) (r : BitVec 32) (a b : List (BitVec 8)) : (nodeS id r a b).length = 32 := sumS_len _
theorem leafS_len (id : List (BitVec 8)) (r : BitVec 32) (a : List (BitVec 8)) : (leafS id r a).length = 32 := sumS_len _
noncomputable def fHash : Fn := gn4 (rdOf id16D) rd32 rdI (rdLst (.ar 32 L8) d32D) (fun id _ n l => decide (id.length = 16) && inI n 65536 && all32 l && decide (l.length ≤ 1000000)) fun id r n l => (d32D (hashS id r n.toNat l), [])
theorem hash_ok (C : Ctx) (hC : CtxOK C P) (h1 : C.fn 69 = some fNew) (h2 : C.fn 27 = some fFour) (h3 : C.fn 70 = some fFeed) (h4 : C.fn 72 = some fStSum) : Meets C.glob P 76 (Fn.run fHash) := by
 refine fn_meetsN (m_lms_hash C hC) fun ds rows r h => ?_
 obtain ⟨d0, d1, d2, d3, id, r, n, l, rfl, rfl, g0, g1, g2, g3, hp, rfl⟩ := gn4_some h
 cases rdOf_some g0
 cases rd32_some g1
 cases rdI_some g2
 obtain ⟨ex, hx⟩ := rdLst_nrm g3
 simp only [Bool.and_eq_true, decide_eq_true_eq, all32_eq, inI_eq] at hp
 obtain ⟨⟨⟨hid, hn⟩, h32⟩, hll⟩ := hp
 refine ⟨rfl, _, .cons (.refl _) (.cons (.refl _) (.cons (.refl _) (.cons hx .nil))), afun_mk rfl ?_⟩
 clear h g0 g1 g2 g3 hx
 obtain ⟨m, rfl⟩ := Int.eq_ofNat_of_zero_le hn.1
 have hm : m < 65536 := by omega
 unfold a_lms_hash r_lms_hash
 have e8 : ∀ k, aBin .shr (it (m : Int)) (u64 8#64) k = k (.raw (it ((m / 256 : Nat) : Int))) := fun k => shr_n m 8 .u64 (by decide) k
 have e1 : BitVec.ofInt 8 ((m / 256 : Nat) : Int) = BitVec.ofNat 8 (m / 256) := BitVec.ofInt_natCast _ _
 have e2 : BitVec.ofInt 8 (m : Int) = BitVec.ofNat 8 m := BitVec.ofInt_natCast _ _
 have id_fits : (id16D id).fits (.ar 16 L8) = true := rfl
 simp only [z32_eq, stZ_eq]
 simp only [↓amD, amU, simprocAttr, zipEnv, amR, id16D, st_fits, h1, kNew, h3]
 refine Eq.mpr (kFeed _ _ _ _ id (BsIn.atAll (n := 16) rfl rfl hid) st0_ok) ?_
 have o0 := feed_ok id st0 st0_ok
 simp only [↓amD, amU, simprocAttr, zipEnv, amR, h2, kFour, h3]
 refine Eq.mpr (kFeed _ _ _ _ (wordB r) (BsIn.own rfl _ rfl) o0) ?_
 have o1 := feed_ok (wordB r) _ o0
 simp only [↓amD, amU, simprocAttr, zipEnv, amR, e8, e1, e2, h3]
 refine Eq.mpr (kFeed _ _ _ _ (be2 m) (BsIn.own rfl _ rfl) o1) ?_
 have o2 := feed_ok (be2 m) _ o1
 simp only [↓amD, amU, simprocAttr, zipEnv, amR, st_fits, List.length_map]
 have hok : ∀ i, (feed (feed (feed (feed st0 id) (wordB r)) (be2 m)) (l.take i).flatten).ok = true := fun i => feed_ok _ _ o2
 have e : sumSt (feed (feed (feed (feed st0 id) (wordB r)) (be2 m)) (l.take l.length).flatten) = hashS id r m l := by
  rw [List.take_length, hashS, sumS, ← feed_app, ← feed_app, ← feed_app]
  simp only [List.append_assoc]
 have hst : feed (feed (feed (feed st0 id) (wordB r)) (be2 m)) (l.take 0).flatten = feed (feed (feed st0 id) (wordB r)) (be2 m) := by rw [List.take_zero]; rfl
 rw [← hst]
 have hsucc : ∀ i (h : i < l.length), feed (feed (feed (feed (feed st0 id) (wordB r)) (be2 m)) (l.take i).flatten) l[i] = feed (feed (feed (feed st0 id) (wordB r)) (be2 m)) (l.take (i + 1)).flatten := fun i h => by
  rw [← feed_app, List.take_succ_eq_append_getElem h, List.flatten_append]; simp
 generalize feed (feed (feed st0 id) (wordB r)) (be2 m) = B at *
 refine kLoop_up l.length (fun i env rows => has env [(27, .raw (it (i : Int))), (26, .raw (it (l.length : Int))), (25, .lst (.ar 32 L8) (l.map d32D) ex), (9, .ptr S10 4 [0]), (8, .ptr (.ar 32 L8) 1 [0])] ∧
  live rows 4 = some ⟨S10, [stD (feed B (l.take i).flatten)]⟩ ∧ live rows 1 = some ⟨.ar 32 L8, [.agg (.ar 32 L8) (bs z32)]⟩) ?_ ?_ ⟨?_, rfl, rfl⟩
 ·rintro i hi env rows ⟨hh, r3, r1⟩ R hR
  simp only [has] at hh
  have e0 : ((i : Int) < (l.length : Int)) = True := eq_true (by omega)
  have b0 : ∀ n : Nat, ((0 : Int) ≤ (n : Int)) = True := fun n => eq_true (by omega)
  have e1 := wz_succ i (by omega)
  have hx := h32 _ (List.getElem_mem hi)
  have g : (l.map d32D)[i]? = some (.agg (.ar 32 L8) (bs l[i])) := by simp [d32D, hi]
  have hs := hsucc i hi
  generalize l[i] = xi at *
  have r3A := fun L => live_app r3 L
  simp only [↓amD, amU, simprocAttr, zipEnv, amR, hh, e0, e1, b0, List.length_map, g, r3A, h3]
  refine Eq.mpr (kFeed _ _ _ _ xi (BsIn.atAll (n := 32) (by rw [lv_app0]; rfl) rfl hx) (hok i)) ?_
  rw [hs]
  simp only [↓amD, amU, simprocAttr, zipEnv, amR, hh, e1, r3A, st_fits]
  exact hR _ _ ⟨by simp only [has, ↓amD, amU, simprocAttr, zipEnv, hh], live_set_eq (r3A _), live_set_o (live_app r1 _) (by decide)⟩
 ·rintro env rows ⟨hh, r3, r1⟩ R
  simp only [has] at hh
  have e0 : ((l.length : Int) < (l.length : Int)) = False := eq_false (by omega)
  have w1 := fun x => live_set_eq (y := x) r1
  simp only [↓amD, amU, simprocAttr, zipEnv, amR, hh, e0, r3, r1, h4, kStSum _ _ _ (hok _), e, w1]
  exact .val _ rfl
 ·simp only [has, ↓amD, amU, simprocAttr, zipEnv]
theorem kHash (rows : Rows) (k : D → Rows → Prop) (id : List (BitVec 8)) (r : BitVec 32) (m : Nat) (d : D) (l : List (List (BitVec 8))) (hd : RdIn rows (rdLst (.ar 32 L8) d32D) d l) (hid : id.length = 16) (hm : m < 65536) (h32 : ∀ x ∈ l, x.length = 32) (hll : l.length ≤ 1000000) :
  kCall fHash rows k [.agg (.ar 16 L8) (bs id), .raw (u32 r), .raw (it (m : Int)), d] = k (.agg (.ar 32 L8) (bs (hashS id r m l))) rows := by
 refine (kCall_g4 (rdIn_id id) (RdIn.raw (rd32_eq r)) (RdIn.int _) hd (by simp [hid, all32_eq.2 h32, hll, inI]; omega) rfl k).trans ?_
 simp [d32D, shift, shiftRows, Sh.pure]
noncomputable def fLeaf : Fn := fn3 (rdOf id16D) rd32 (rdOf d32D) (fun id _ x => decide (id.length = 16) && decide (x.length = 32)) fun id r x => (d32D (leafS id r x), [])
theorem leaf_ok (C : Ctx) (hC : CtxOK C P) (h1 : C.fn 76 = some fHash) : Meets C.glob P 46 (Fn.run fLeaf) := by
 refine fn_meets (m_lms_Leaf C hC) fun ds rows r h => ?_
 obtain ⟨d0, d1, d2, id, r, x, rfl, rfl, g0, g1, g2, hp, rfl⟩ := fn3_some h
 cases rdOf_some g0
 cases rd32_some g1
 cases rdOf_some g2
 simp only [Bool.and_eq_true, decide_eq_true_eq] at hp
 refine ⟨rfl, afun_mk rfl ?_⟩
 clear h g0 g1 g2
 unfold a_lms_Leaf r_lms_Leaf
 simp only [z32_eq]
 have kH := fun rows k d hd => kHash rows k id r 33410 d [x] hd hp.1 (by decide) (by simp [hp.2]) (by simp)
 rw [show ((33410 : Nat) : Int) = 33410 from rfl] at kH
 simp only [↓amD, amU, simprocAttr, zipEnv, amR, id16D, d32D, h1]
 refine Eq.mpr (kH _ _ _ (RdIn.dl (l := [x]) rfl rfl)) ?_
 simp only [↓amD, amU, simprocAttr, zipEnv, amR]
 exact .val _ rfl
theorem kLeaf (rows : Rows) (k : D → Rows → Prop) (id : List (BitVec 8)) (r : BitVec 32) (x : List (BitVec 8)) (hid : id.length = 16) (hx : x.length = 32) :
  kCall fLeaf rows k [.agg (.ar 16 L8) (bs id), .raw (u32 r), .agg (.ar 32 L8) (bs x)] = k (.agg (.ar 32 L8) (bs (leafS id r x))) rows := by
 refine (kCall_rd3 (rdIn_id id) (RdIn.raw (rd32_eq r)) (rdIn_d32 x) (by simp [hid, hx]) rfl k).trans ?_
 simp [d32D, shift, shiftRows, Sh.pure]
noncomputable def fNode : Fn := gn4 (rdOf id16D) rd32 (rdOf d32D) (rdOf d32D) (fun id _ x y => decide (id.length = 16) && decide (x.length = 32) && decide (y.length = 32)) fun id r x y => (d32D (nodeS id r x y), [])
theorem node_ok (C : Ctx) (hC : CtxOK C P) (h1 : C.fn 76 = some fHash) : Meets C.glob P 47 (Fn.run fNode) := by
 refine fn_meets (m_lms_Node C hC) fun ds rows r h => ?_
 obtain ⟨d0, d1, d2, d3, id, r, x, y, rfl, rfl, g0, g1, g2, g3, hp, rfl⟩ := gn4_some h
 cases rdOf_some g0
 cases rd32_some g1
 cases rdOf_some g2
 cases rdOf_some g3
 simp only [Bool.and_eq_true, decide_eq_true_eq] at hp
 refine ⟨rfl, afun_mk rfl ?_⟩
 clear h g0 g1 g2 g3
 unfold a_lms_Node r_lms_Node
 simp only [z32_eq]
 have kH := fun rows k d hd => kHash rows k id r 33667 d [x, y] hd hp.1.1 (by decide) (by simp [hp.1.2, hp.2]) (by simp)
 rw [show ((33667 : Nat) : Int) = 33667 from rfl] at kH
 simp only [↓amD, amU, simprocAttr, zipEnv, amR, id16D, d32D, h1]
 refine Eq.mpr (kH _ _ _ (RdIn.dl (l := [x, y]) rfl rfl)) ?_
 simp only [↓amD, amU, simprocAttr, zipEnv, amR]
 exact .val _ rfl
theorem kNode (rows : Rows) (k : D → Rows → Prop) (id : List (BitVec 8)) (r : BitVec 32) (x y : List (BitVec 8)) (hid : id.length = 16) (hx : x.length = 32) (hy : y.length = 32) :
  kCall fNode rows k [.agg (.ar 16 L8) (bs id), .raw (u32 r), .agg (.ar 32 L8) (bs x), .agg (.ar 32 L8) (bs y)] = k (.agg (.ar 32 L8) (bs (nodeS id r x y))) rows := by
 refine (kCall_g4 (rdIn_id id) (RdIn.raw (rd32_eq r)) (rdIn_d32 x) (rdIn_d32 y) (by simp [hid, hx, hy]) rfl k).trans ?_
 simp [d32D, shift, shiftRows, Sh.pure]
theorem kReadK (rows : Rows) (k : D → Rows → Prop) (d : D) (p : List (BitVec 8)) (h : BsIn rows d p) (hp : p.length ≤ 1099511627776) : kCall fReadK rows k [d] = k (.tup [keyD (readS p).1, .raw (it (readS p).2)]) rows := by
 refine (kCall_rd1 (RdIn.bs h) (by simpa [most] using hp) rfl k).trans ?_
 simp [shift, shiftL, shiftRows, keyD, Sh.pure]
def fNoneP : Fn := fn1 rdI (fun _ => true) fun e => (.tup [.raw (u32 0#32), .raw (.slice none 0 0), .raw (u32 0#32), .raw (.slice none 0 0), .raw (it e)], [])
theorem nonep_ok (C : Ctx) (hC : CtxOK C P) : Meets C.glob P 55 (Fn.run fNoneP) := by
 refine fn_meets (m_lms_Parts_1 C hC) fun ds rows r h => ?_
 obtain ⟨d, t, rfl, rfl, hd, hp, rfl⟩ := fn1_some h
 cases rdI_some hd
 refine ⟨rfl, afun_mk rfl ?_⟩
 clear h hd
 unfold a_lms_Parts_1 r_lms_Parts_1
 simp only [↓amD, amU, simprocAttr, zipEnv]
 exact .val _ rfl
theorem kNoneP (rows : Rows) (k : D → Rows → Prop) (e : Int) : kCall fNoneP rows k [.raw (it e)] = k (.tup [.raw (u32 0#32), .raw (.slice none 0 0), .raw (u32 0#32), .raw (.slice none 0 0), .raw (it e)]) rows := by
 refine (kCall_rd1 (RdIn.int e) rfl rfl k).trans ?_
 simp [shift, shiftL, shiftRows]
theorem readS_le (p : List (BitVec 8)) : (readS p).2 = 0 ∨ (readS p).2 = 6 ∨ (readS p).2 = 2 := by
 unfold readS
 cases decide (p.length = 56)
 ·exact .inr (.inr rfl)
 ·cases okH (numS p).toNat && okT (numS (p.drop 4)).toNat
  ·exact .inr (.inl rfl)
  ·exact .inl rfl
end Job
end Go.Am
