import Derived.Test.YtpepmhbdblldeaaDoorPa17
namespace Go.Am
set_option linter.unusedSimpArgs false
set_option linter.unusedVariables false
namespace Job
def gn4 {α β γ δ : Type} (r0 : D → Option α) (r1 : D → Option β) (r2 : D → Option γ) (r3 : D → Option δ) (pre : α → β → γ → δ → Bool) (out : α → β → γ → δ → D × Rows) : Fn
 | [d0, d1, d2, d3], [] => match r0 d0, r1 d1, r2 d2, r3 d3 with
  | some x0, some x1, some x2, some x3 => bif pre x0 x1 x2 x3 then some (out x0 x1 x2 x3) else none
  | _, _, _, _ => none
 | _, _ => none
theorem gn4_some {α β γ δ : Type} {r0 : D → Option α} {r1 : D → Option β} {r2 : D → Option γ} {r3 : D → Option δ} {pre : α → β → γ → δ → Bool} {out : α → β → γ → δ → D × Rows} {ds : List D} {rows : Rows} {r : D × Rows} (h : gn4 r0 r1 r2 r3 pre out ds rows = some r) :
  ∃ d0 d1 d2 d3 x0 x1 x2 x3, ds = [d0, d1, d2, d3] ∧ rows = [] ∧ r0 d0 = some x0 ∧ r1 d1 = some x1 ∧ r2 d2 = some x2 ∧ r3 d3 = some x3 ∧ pre x0 x1 x2 x3 = true ∧ r = out x0 x1 x2 x3 := by
 unfold gn4 at h
 split at h
 ·rename_i d0 d1 d2 d3
  split at h
  ·rename_i x0 x1 x2 x3 h0 h1 h2 h3
   cases hp : pre x0 x1 x2 x3 with
   | false => rw [hp] at h; cases h
   | true => rw [hp] at h; cases h; exact ⟨d0, d1, d2, d3, x0, x1, x2, x3, rfl, rfl, h0, h1, h2, h3, hp, rfl⟩
  ·cases h
 ·cases h
theorem gn4_eq {α β γ δ : Type} {r0 : D → Option α} {r1 : D → Option β} {r2 : D → Option γ} {r3 : D → Option δ} {pre : α → β → γ → δ → Bool} {out : α → β → γ → δ → D × Rows} {d0 d1 d2 d3 : D} {x0 : α} {x1 : β} {x2 : γ} {x3 : δ} (h0 : r0 d0 = some x0) (h1 : r1 d1 = some x1) (h2 : r2 d2 = some x2) (h3 : r3 d3 = some x3) (hp : pre x0 x1 x2 x3 = true) :
  gn4 r0 r1 r2 r3 pre out [d0, d1, d2, d3] [] = some (out x0 x1 x2 x3) := by
 simp [gn4, h0, h1, h2, h3, hp]
theorem kCall_g4 {α β γ δ : Type} {r0 : D → Option α} {r1 : D → Option β} {r2 : D → Option γ} {r3 : D → Option δ} {pre : α → β → γ → δ → Bool} {out : α → β → γ → δ → D × Rows} {rows : Rows} {d0 d1 d2 d3 : D} {x0 : α} {x1 : β} {x2 : γ} {x3 : δ} (h0 : RdIn rows r0 d0 x0) (h1 : RdIn rows r1 d1 x1) (h2 : RdIn rows r2 d2 x2) (h3 : RdIn rows r3 d3 x3) (hp : pre x0 x1 x2 x3 = true)
  (hr : (noLst (out x0 x1 x2 x3).1 && noLstRows (out x0 x1 x2 x3).2) = true) (k : D → Rows → Prop) :
  kCall (gn4 r0 r1 r2 r3 pre out) rows k [d0, d1, d2, d3] = k (shift rows.length (out x0 x1 x2 x3).1) (rows ++ shiftRows rows.length (out x0 x1 x2 x3).2) := by
 obtain ⟨⟨y0, a0, b0⟩, c0⟩ := h0
 obtain ⟨⟨y1, a1, b1⟩, c1⟩ := h1
 obtain ⟨⟨y2, a2, b2⟩, c2⟩ := h2
 obtain ⟨⟨y3, a3, b3⟩, c3⟩ := h3
 refine kCall_rd (ds' := [y0, y1, y2, y3]) (by simp only [mapO, a0, a1, a2, a3]) (gn4_eq b0 b1 b2 b3 hp) (fun hh => ?_) hr
 simp only [hasRefL, Bool.or_eq_false_iff, and_true] at hh
 exact gn4_eq (c0 hh.1) (c1 hh.2.1) (c2 hh.2.2.1) (c3 hh.2.2.2) hp
def gn5 {α β γ δ ε : Type} (r0 : D → Option α) (r1 : D → Option β) (r2 : D → Option γ) (r3 : D → Option δ) (r4 : D → Option ε) (pre : α → β → γ → δ → ε → Bool) (out : α → β → γ → δ → ε → D × Rows) : Fn
 | [d0, d1, d2, d3, d4], [] => match r0 d0, r1 d1, r2 d2, r3 d3, r4 d4 with
  | some x0, some x1, some x2, some x3, some x4 => bif pre x0 x1 x2 x3 x4 then some (out x0 x1 x2 x3 x4) else none
  | _, _, _, _, _ => none
 | _, _ => none
theorem gn5_some {α β γ δ ε : Type} {r0 : D → Option α} {r1 : D → Option β} {r2 : D → Option γ} {r3 : D → Option δ} {r4 : D → Option ε} {pre : α → β → γ → δ → ε → Bool} {out : α → β → γ → δ → ε → D × Rows} {ds : List D} {rows : Rows} {r : D × Rows} (h : gn5 r0 r1 r2 r3 r4 pre out ds rows = some r) :
  ∃ d0 d1 d2 d3 d4 x0 x1 x2 x3 x4, ds = [d0, d1, d2, d3, d4] ∧ rows = [] ∧ r0 d0 = some x0 ∧ r1 d1 = some x1 ∧ r2 d2 = some x2 ∧ r3 d3 = some x3 ∧ r4 d4 = some x4 ∧ pre x0 x1 x2 x3 x4 = true ∧ r = out x0 x1 x2 x3 x4 := by
 unfold gn5 at h
 split at h
 ·rename_i d0 d1 d2 d3 d4
  split at h
  ·rename_i x0 x1 x2 x3 x4 h0 h1 h2 h3 h4
   cases hp : pre x0 x1 x2 x3 x4 with
   | false => rw [hp] at h; cases h
   | true => rw [hp] at h; cases h; exact ⟨d0, d1, d2, d3, d4, x0, x1, x2, x3, x4, rfl, rfl, h0, h1, h2, h3, h4, hp, rfl⟩
  ·cases h
 ·cases h
theorem gn5_eq {α β γ δ ε : Type} {r0 : D → Option α} {r1 : D → Option β} {r2 : D → Option γ} {r3 : D → Option δ} {r4 : D → Option ε} {pre : α → β → γ → δ → ε → Bool} {out : α → β → γ → δ → ε → D × Rows} {d0 d1 d2 d3 d4 : D} {x0 : α} {x1 : β} {x2 : γ} {x3 : δ} {x4 : ε} (h0 : r0 d0 = some x0) (h1 : r1 d1 = some x1) (h2 : r2 d2 = some x2) (h3 : r3 d3 = some x3) (h4 : r4 d4 = some x4) (hp : pre x0 x1 x2 x3 x4 = true) :
  gn5 r0 r1 r2 r3 r4 pre out [d0, d1, d2, d3, d4] [] = some (out x0 x1 x2 x3 x4) := by
 simp [gn5, h0, h1, h2, h3, h4, hp]
theorem kCall_g5 {α β γ δ ε : Type} {r0 : D → Option α} {r1 : D → Option β} {r2 : D → Option γ} {r3 : D → Option δ} {r4 : D → Option ε} {pre : α → β → γ → δ → ε → Bool} {out : α → β → γ → δ → ε → D × Rows} {rows : Rows} {d0 d1 d2 d3 d4 : D} {x0 : α} {x1 : β} {x2 : γ} {x3 : δ} {x4 : ε} (h0 : RdIn rows r0 d0 x0) (h1 : RdIn rows r1 d1 x1) (h2 : RdIn rows r2 d2 x2) (h3 : RdIn rows r3 d3 x3) (h4 : RdIn rows r4 d4 x4) (hp : pre x0 x1 x2 x3 x4 = true)
  (hr : (noLst (out x0 x1 x2 x3 x4).1 && noLstRows (out x0 x1 x2 x3 x4).2) = true) (k : D → Rows → Prop) :
  kCall (gn5 r0 r1 r2 r3 r4 pre out) rows k [d0, d1, d2, d3, d4] = k (shift rows.length (out x0 x1 x2 x3 x4).1) (rows ++ shiftRows rows.length (out x0 x1 x2 x3 x4).2) := by
 obtain ⟨⟨y0, a0, b0⟩, c0⟩ := h0
 obtain ⟨⟨y1, a1, b1⟩, c1⟩ := h1
 obtain ⟨⟨y2, a2, b2⟩, c2⟩ := h2
 obtain ⟨⟨y3, a3, b3⟩, c3⟩ := h3
 obtain ⟨⟨y4, a4, b4⟩, c4⟩ := h4
 refine kCall_rd (ds' := [y0, y1, y2, y3, y4]) (by simp only [mapO, a0, a1, a2, a3, a4]) (gn5_eq b0 b1 b2 b3 b4 hp) (fun hh => ?_) hr
 simp only [hasRefL, Bool.or_eq_false_iff, and_true] at hh
 exact gn5_eq (c0 hh.1) (c1 hh.2.1) (c2 hh.2.2.1) (c3 hh.2.2.2.1) (c4 hh.2.2.2.2) hp
end Job
end Go.Am
namespace Go.Am
set_option linter.unusedSimpArgs false
set_option linter.unusedVariables false
attribute [local congr] bnd_congr kCond_congr kGd_congr kPick_congr kCall_congr kIdx_congr kSlice_congr kLoop_congr cond_congr' aBin_congr aBounds_congr aApp_congr aCopy_congr kFn_congr
namespace Job
open Go.Am.F
set_option maxRecDepth 10000
abbrev SPar : Sh := .cons LI (.cons LI (.cons LI .nil))
theorem u32_inj {x y : BitVec 32} (h : u32 x = u32 y) : x = y := by
 injection h with _ h
 exact BitVec.eq_of_toNat_eq (by omega)
def wT (t : Nat) : Nat := if t = 1 then 1 else if t = 2 then 2 else if t = 3 then 4 else if t = 4 then 8 else 0
def pT (t : Nat) : Nat := if t = 1 then 265 else if t = 2 then 133 else if t = 3 then 67 else if t = 4 then 34 else 0
def lT (t : Nat) : Nat := if t = 1 then 7 else if t = 2 then 6 else if t = 3 then 4 else 0
def okT (t : Nat) : Bool := decide (1 ≤ t) && decide (t ≤ 4)
theorem okT_cases {t : BitVec 32} (h : okT t.toNat = true) : t = 1#32 ∨ t = 2#32 ∨ t = 3#32 ∨ t = 4#32 := by
 simp only [okT, Bool.and_eq_true, decide_eq_true_eq] at h
 have : t.toNat = 1 ∨ t.toNat = 2 ∨ t.toNat = 3 ∨ t.toNat = 4 := by omega
 rcases this with h | h | h | h
 ·exact .inl (BitVec.eq_of_toNat_eq h)
 ·exact .inr (.inl (BitVec.eq_of_toNat_eq h))
 ·exact .inr (.inr (.inl (BitVec.eq_of_toNat_eq h)))
 ·exact .inr (.inr (.inr (BitVec.eq_of_toNat_eq h)))
theorem okT_not {t : Nat} (h : okT t = false) : wT t = 0 ∧ pT t = 0 ∧ lT t = 0 := by
 simp only [okT, Bool.and_eq_false_iff, decide_eq_false_iff_not] at h
 refine ⟨?_, ?_, ?_⟩ <;> simp only [wT, pT, lT] <;> (repeat' split) <;> omega
structure Par where
 w : Nat
 p : Nat
 l : Nat
def parD (x : Par) : D := .agg SPar [.raw (it (x.w : Int)), .raw (it (x.p : Int)), .raw (it (x.l : Int))]
theorem it_injN {x y : Nat} (h : it (x : Int) = it (y : Int)) : x = y := by
 injection h with _ h; omega
theorem parD_inj (x y : Par) (h : parD x = parD y) : x = y := by
 obtain ⟨a, b, c⟩ := x
 obtain ⟨d, e, f⟩ := y
 simp only [parD, D.agg.injEq, List.cons.injEq, D.raw.injEq, true_and, and_true] at h
 rw [it_injN h.1, it_injN h.2.1, it_injN h.2.2]
theorem par_fits (x : Par) : (parD x).fits SPar = true := rfl
def parT (t : Nat) : Par := ⟨wT t, pT t, lT t⟩
theorem rdIn_par {rows : Rows} (x : Par) : RdIn rows (rdOf parD) (parD x) x := RdIn.agg rfl (rdOf_eq parD_inj x)
def typesD : D := .agg (.ar 4 SPar) [parD ⟨1, 265, 7⟩, parD ⟨2, 133, 6⟩, parD ⟨4, 67, 4⟩, parD ⟨8, 34, 0⟩]
def fParams : Fn := fn1 rd32 (fun _ => true) fun t => (.tup [parD (parT t.toNat), .raw (.bool (okT t.toNat))], [])
theorem params_ok (C : Ctx) (hC : CtxOK C P) (hg : C.glob 0 = some typesD) : Meets C.glob P 40 (Fn.run fParams) := by
 refine fn_meets (m_ots_Params C hC) fun ds rows r h => ?_
 obtain ⟨d, t, rfl, rfl, hd, hp, rfl⟩ := fn1_some h
 cases rd32_some hd
 refine ⟨rfl, afun_mk rfl ?_⟩
 clear h hd
 unfold a_ots_Params r_ots_Params
 have hz : D.agg SPar [.raw (it 0), .raw (it 0), .raw (it 0)] = parD ⟨0, 0, 0⟩ := rfl
 simp only [hz]
 cases hk : okT t.toNat
 ·obtain ⟨hw, hp, hl⟩ := okT_not hk
  have e : parT t.toNat = ⟨0, 0, 0⟩ := by rw [parT, hw, hp, hl]
  rw [e]
  simp only [okT, Bool.and_eq_false_iff, decide_eq_false_iff_not] at hk
  have h32 := t.isLt
  by_cases c : t < 1#32
  ·have c1 : (t < 1#32) = True := eq_true c
   simp only [↓amD, amU, simprocAttr, zipEnv, amR, par_fits, c1, decide_true]
   exact .val _ rfl
  ·have c1 : (t < 1#32) = False := eq_false c
   have c2 : (4#32 < t) = True := eq_true (by
    rw [BitVec.lt_def] at c ⊢
    have e1 : (1#32).toNat = 1 := rfl
    have e4 : (4#32).toNat = 4 := rfl
    omega)
   simp only [↓amD, amU, simprocAttr, zipEnv, amR, par_fits, c1, c2, decide_true, decide_false]
   exact .val _ rfl
 ·rcases okT_cases hk with rfl | rfl | rfl | rfl
  ·simp only [↓amD, amU, simprocAttr, zipEnv, amR, par_fits, hg, typesD, BitVec.reduceLT, BitVec.reduceSub, BitVec.reduceToNat, decide_true, decide_false]
   exact .val _ rfl
  ·simp only [↓amD, amU, simprocAttr, zipEnv, amR, par_fits, hg, typesD, BitVec.reduceLT, BitVec.reduceSub, BitVec.reduceToNat, decide_true, decide_false]
   exact .val _ rfl
  ·simp only [↓amD, amU, simprocAttr, zipEnv, amR, par_fits, hg, typesD, BitVec.reduceLT, BitVec.reduceSub, BitVec.reduceToNat, decide_true, decide_false]
   exact .val _ rfl
  ·simp only [↓amD, amU, simprocAttr, zipEnv, amR, par_fits, hg, typesD, BitVec.reduceLT, BitVec.reduceSub, BitVec.reduceToNat, decide_true, decide_false]
   exact .val _ rfl
theorem kParams (rows : Rows) (k : D → Rows → Prop) (t : BitVec 32) : kCall fParams rows k [.raw (u32 t)] = k (.tup [parD (parT t.toNat), .raw (.bool (okT t.toNat))]) rows := by
 refine (kCall_rd1 (RdIn.raw (rd32_eq t)) rfl rfl k).trans ?_
 simp [parD, shift, shiftL, shiftRows, Sh.pure]
abbrev SSite : Sh := .cons (.ar 16 L8) (.cons L32 .nil)
structure Site where
 id : List (BitVec 8)
 q : BitVec 32
def siteD (s : Site) : D := .agg SSite [.agg (.ar 16 L8) (bs s.id), .raw (u32 s.q)]
theorem siteD_inj (x y : Site) (h : siteD x = siteD y) : x = y := by
 obtain ⟨a, b⟩ := x
 obtain ⟨c, d⟩ := y
 simp only [siteD, D.agg.injEq, List.cons.injEq, D.raw.injEq, true_and, and_true] at h
 rw [bs_inj h.1, u32_inj h.2]
theorem site_fits (s : Site) : (siteD s).fits SSite = true := rfl
theorem site_pure (s : Site) (rows : Rows) : RdIn rows (rdOf siteD) (siteD s) s := RdIn.agg rfl (rdOf_eq siteD_inj s)
theorem shr_n (m b : Nat) (kd : IntKind) (hb : b ≤ 64) (k : D → Prop) : aBin .shr (it (m : Int)) (.int kd (b : Int)) k = k (.raw (it ((m / 2 ^ b : Nat) : Int))) := by
 have e : (m : Int).fdiv (2 ^ (min (b : Int).toNat IntKind.i64.bits)) = ((m / 2 ^ b : Nat) : Int) := by
  have : min (b : Int).toNat IntKind.i64.bits = b := by show min (b : Int).toNat 64 = b; omega
  rw [this, Int.fdiv_eq_ediv_of_nonneg _ (Int.le_of_lt (Int.pow_pos (by decide)))]
  rw [show ((2 : Int) ^ b) = ((2 ^ b : Nat) : Int) by simp]
  omega
 simp only [aBin, it]
 rw [e]
 simp
def fTwo : Fn := fn1 rdI (fun n => decide (0 ≤ n) && decide (n < 65536)) fun n => outBs (be2 n.toNat) false
theorem two_ok (C : Ctx) (hC : CtxOK C P) : Meets C.glob P 78 (Fn.run fTwo) := by
 refine fn_meets (m_ots_two C hC) fun ds rows r h => ?_
 obtain ⟨d, n, rfl, rfl, hd, hp, rfl⟩ := fn1_some h
 cases rdI_some hd
 simp only [Bool.and_eq_true, decide_eq_true_eq] at hp
 refine ⟨rfl, afun_mk rfl ?_⟩
 clear h hd
 obtain ⟨m, rfl⟩ := Int.eq_ofNat_of_zero_le hp.1
 have hm : m < 65536 := by omega
 unfold a_ots_two r_ots_two
 have e8 : ∀ k, aBin .shr (it (m : Int)) (u64 8#64) k = k (.raw (it ((m / 256 : Nat) : Int))) := fun k => shr_n m 8 .u64 (by decide) k
 have e1 : BitVec.ofInt 8 ((m / 256 : Nat) : Int) = BitVec.ofNat 8 (m / 256) := BitVec.ofInt_natCast _ _
 have e2 : BitVec.ofInt 8 (m : Int) = BitVec.ofNat 8 m := BitVec.ofInt_natCast _ _
 simp only [↓amD, amU, simprocAttr, zipEnv, e8, e1, e2]
 exact .own _ 0 0 2 true false _ rfl rfl (fun h => by cases h)
theorem kTwo (rows : Rows) (k : D → Rows → Prop) (n : Nat) (h : n < 65536) : kCall fTwo rows k [.raw (it (n : Int))] = k (.sl L8 (0 + rows.length) [] 0 2 false) (rows ++ [some ⟨L8, bs (be2 n)⟩]) := by
 refine (kCall_rd1 (RdIn.int _) (by simp; omega) rfl k).trans ?_
 simp [outBs, shift, shiftRows, Sh.pure, be2]
def fFour : Fn := fn1 rd32 (fun _ => true) fun q => outBs (wordB q) false
theorem four_ok (C : Ctx) (hC : CtxOK C P) : Meets C.glob P 51 (Fn.run fFour) := by
 refine fn_meets (m_ots_four C hC) fun ds rows r h => ?_
 obtain ⟨d, n, rfl, rfl, hd, hp, rfl⟩ := fn1_some h
 cases rd32_some hd
 refine ⟨rfl, afun_mk rfl ?_⟩
 clear h hd
 unfold a_ots_four r_ots_four
 simp only [↓amD, amU, simprocAttr, zipEnv]
 exact .own _ 0 0 4 true false _ rfl rfl (fun h => by cases h)
theorem kFour (rows : Rows) (k : D → Rows → Prop) (q : BitVec 32) : kCall fFour rows k [.raw (u32 q)] = k (.sl L8 (0 + rows.length) [] 0 4 false) (rows ++ [some ⟨L8, bs (wordB q)⟩]) := by
 refine (kCall_rd1 (RdIn.raw (rd32_eq q)) rfl rfl k).trans ?_
 simp [outBs, shift, shiftRows, Sh.pure, wordB]
def stZ : St := ⟨List.replicate 8 0#32, List.replicate 64 0#8, 0#64⟩
theorem stZ_eq : D.agg S10 [.agg (.ar 8 L32) (List.replicate 8 (.raw (u32 0#32))), .agg (.ar 64 L8) (List.replicate 64 (.raw (u8 0#8))), .raw (u64 0#64)] = stD stZ := rfl
def frontS (s : Site) : St := feed st0 (s.id ++ wordB s.q)
theorem frontS_ok (s : Site) : (frontS s).ok = true := feed_ok _ _ st0_ok
noncomputable def fFront : Fn := fn1 (rdOf siteD) (fun s => decide (s.id.length = 16)) fun s => (stD (frontS s), [])
theorem front_ok (C : Ctx) (hC : CtxOK C P) (h1 : C.fn 69 = some fNew) (h2 : C.fn 70 = some fFeed) (h3 : C.fn 51 = some fFour) : Meets C.glob P 79 (Fn.run fFront) := by
 refine fn_meets (m_ots_front C hC) fun ds rows r h => ?_
 obtain ⟨d, s, rfl, rfl, hd, hp, rfl⟩ := fn1_some h
 cases rdOf_some hd
 simp only [decide_eq_true_eq] at hp
 refine ⟨rfl, afun_mk rfl ?_⟩
 clear h hd
 unfold a_ots_front r_ots_front
 simp only [stZ_eq]
 have hg0 : (siteD s).get [0] = some (.agg (.ar 16 L8) (bs s.id)) := rfl
 have hg1 : (siteD s).get [1] = some (.raw (u32 s.q)) := rfl
 simp only [↓amD, amU, simprocAttr, zipEnv, amR, site_fits, st_fits, h1, h2, kNew]
 refine Eq.mpr (kFeed _ _ _ _ s.id (BsIn.atAll (n := 16) rfl (by simp only [↓amD, amU, simprocAttr, zipEnv, hg0]) hp) st0_ok) ?_
 have hok1 := feed_ok s.id st0 st0_ok
 have hfr : feed (feed st0 s.id) (wordB s.q) = frontS s := (feed_app _ _ _).symm
 simp only [↓amD, amU, simprocAttr, zipEnv, amR, hg1, h3, kFour, h2]
 refine Eq.mpr (kFeed _ _ _ _ (wordB s.q) (BsIn.own rfl _ rfl) hok1) ?_
 rw [hfr]
 simp only [↓amD, amU, simprocAttr, zipEnv, amR, st_fits]
 exact .val _ rfl
theorem kFront (rows : Rows) (k : D → Rows → Prop) (s : Site) (h : s.id.length = 16) : kCall fFront rows k [siteD s] = k (stD (frontS s)) rows := by
 refine (kCall_rd1 (site_pure s rows) (by simp [h]) rfl k).trans ?_
 simp [stD, shift, shiftRows, Sh.pure]
theorem numq2 (i : Nat) (h : i < 65536) : numL 2 (BitVec.ofNat 64 i) = be2 i := by
 simp only [numL, List.nil_append, List.cons_append, be2, List.cons.injEq, and_true]
 constructor <;> apply BitVec.eq_of_toNat_eq <;> simp [BitVec.toNat_umod, BitVec.toNat_udiv, BitVec.toNat_setWidth] <;> try omega
theorem numq1 (j : Nat) (h : j < 256) : numL 1 (BitVec.ofNat 64 j) = [BitVec.ofNat 8 j] := by
 simp only [numL, List.nil_append, List.cons.injEq, and_true]
 apply BitVec.eq_of_toNat_eq; simp [BitVec.toNat_umod, BitVec.toNat_setWidth] <;> try omega
def inI (i n : Int) : Bool := decide (0 ≤ i) && decide (i < n)
theorem inI_eq {i n : Int} : inI i n = true ↔ 0 ≤ i ∧ i < n := by simp [inI]
noncomputable def fStep : Fn := gn4 (rdOf siteD) rdI rdI (rdOf d32D) (fun s i j x => decide (s.id.length = 16) && inI i 65536 && inI j 256 && decide (x.length = 32)) fun s i j x => (d32D (stepS s.id s.q i.toNat j.toNat x), [])
theorem step_ok (C : Ctx) (hC : CtxOK C P) (h1 : C.fn 79 = some fFront) (h2 : C.fn 78 = some fTwo) (h3 : C.fn 70 = some fFeed) (h4 : C.fn 72 = some fStSum) : Meets C.glob P 80 (Fn.run fStep) := by
 refine fn_meets (m_ots_Step C hC) fun ds rows r h => ?_
 obtain ⟨d0, d1, d2, d3, s, i, j, x, rfl, rfl, g0, g1, g2, g3, hp, rfl⟩ := gn4_some h
 cases rdOf_some g0
 cases rdI_some g1
 cases rdI_some g2
 cases rdOf_some g3
 simp only [Bool.and_eq_true, decide_eq_true_eq, inI_eq] at hp
 obtain ⟨⟨⟨hid, hi⟩, hj⟩, hx⟩ := hp
 refine ⟨rfl, afun_mk rfl ?_⟩
 clear h g0 g1 g2 g3
 obtain ⟨i, rfl⟩ := Int.eq_ofNat_of_zero_le hi.1
 obtain ⟨j, rfl⟩ := Int.eq_ofNat_of_zero_le hj.1
 have hi' : i < 65536 := by omega
 have hj' : j < 256 := by omega
 unfold a_ots_Step r_ots_Step
 simp only [z32_eq]
 have ej : BitVec.ofInt 8 (j : Int) = BitVec.ofNat 8 j := BitVec.ofInt_natCast _ _
 have kT := fun rows k => kTwo rows k i hi'
 simp only [↓amD, amU, simprocAttr, zipEnv, amR, d32D, site_fits, h1, kFront _ _ s hid, h2, kT, h3]
 refine Eq.mpr (kFeed _ _ _ _ (be2 i) (BsIn.own rfl _ rfl) (frontS_ok s)) ?_
 simp only [↓amD, amU, simprocAttr, zipEnv, amR, ej, h3]
 have o1 := feed_ok (be2 i) _ (frontS_ok s)
 refine Eq.mpr (kFeed _ _ _ _ [BitVec.ofNat 8 j] (BsIn.own rfl _ rfl) o1) ?_
 simp only [↓amD, amU, simprocAttr, zipEnv, amR, h3]
 have o2 := feed_ok [BitVec.ofNat 8 j] _ o1
 refine Eq.mpr (kFeed _ _ _ _ x (BsIn.atAll (n := 32) rfl rfl hx) o2) ?_
 have o3 := feed_ok x _ o2
 simp only [↓amD, amU, simprocAttr, zipEnv, amR, h4, kStSum _ _ _ o3]
 have e : sumSt (feed (feed (feed (frontS s) (be2 i)) [BitVec.ofNat 8 j]) x) = stepS s.id s.q i j x := by
  rw [stepS, sumS, frontS, ← feed_app, ← feed_app, ← feed_app]
  simp only [List.append_assoc]
 rw [e]
 exact .val _ rfl
theorem kStep (rows : Rows) (k : D → Rows → Prop) (s : Site) (i j : Nat) (x : List (BitVec 8)) (hid : s.id.length = 16) (hi : i < 65536) (hj : j < 256) (hx : x.length = 32) :
  kCall fStep rows k [siteD s, .raw (it (i : Int)), .raw (it (j : Int)), .agg (.ar 32 L8) (bs x)] = k (.agg (.ar 32 L8) (bs (stepS s.id s.q i j x))) rows := by
 refine (kCall_g4 (site_pure s rows) (RdIn.int _) (RdIn.int _) (rdIn_d32 x) (by simp [hid, hx, inI]; omega) rfl k).trans ?_
 simp [d32D, shift, shiftRows, Sh.pure]
noncomputable def fSecret : Fn := fn3 (rdOf siteD) rdI (rdOf d32D) (fun s i x => decide (s.id.length = 16) && inI i 65536 && decide (x.length = 32)) fun s i x => (d32D (secS s.id s.q i.toNat x), [])
theorem secret_ok (C : Ctx) (hC : CtxOK C P) (h1 : C.fn 80 = some fStep) : Meets C.glob P 53 (Fn.run fSecret) := by
 refine fn_meets (m_ots_Secret C hC) fun ds rows r h => ?_
 obtain ⟨d0, d1, d2, s, i, x, rfl, rfl, g0, g1, g2, hp, rfl⟩ := fn3_some h
 cases rdOf_some g0
 cases rdI_some g1
 cases rdOf_some g2
 simp only [Bool.and_eq_true, decide_eq_true_eq, inI_eq] at hp
 obtain ⟨⟨hid, hi⟩, hx⟩ := hp
 refine ⟨rfl, afun_mk rfl ?_⟩
 clear h g0 g1 g2
 obtain ⟨i, rfl⟩ := Int.eq_ofNat_of_zero_le hi.1
 have hi' : i < 65536 := by omega
 unfold a_ots_Secret r_ots_Secret
 simp only [z32_eq]
 have kS := fun rows k => kStep rows k s i 255 x hid hi' (by decide) hx
 rw [show ((255 : Nat) : Int) = 255 from rfl] at kS
 simp only [↓amD, amU, simprocAttr, zipEnv, amR, d32D, site_fits, h1, kS]
 exact .val _ rfl
theorem kSecret (rows : Rows) (k : D → Rows → Prop) (s : Site) (i : Nat) (x : List (BitVec 8)) (hid : s.id.length = 16) (hi : i < 65536) (hx : x.length = 32) :
  kCall fSecret rows k [siteD s, .raw (it (i : Int)), .agg (.ar 32 L8) (bs x)] = k (.agg (.ar 32 L8) (bs (secS s.id s.q i x))) rows := by
 refine (kCall_rd3 (site_pure s rows) (RdIn.int _) (rdIn_d32 x) (by simp [hid, hx, inI]; omega) rfl k).trans ?_
 simp [d32D, shift, shiftRows, Sh.pure]
noncomputable def fChain : Fn := gn5 (rdOf siteD) rdI rdI rdI (rdOf d32D) (fun s i a b x => decide (s.id.length = 16) && inI i 65536 && inI a 257 && inI b 257 && decide (x.length = 32)) fun s i a b x => (d32D (chS s.id s.q i.toNat (b.toNat - a.toNat) a.toNat x), [])
theorem chain_ok (C : Ctx) (hC : CtxOK C P) (h1 : C.fn 80 = some fStep) : Meets C.glob P 52 (Fn.run fChain) := by
 refine fn_meets (m_ots_Chain C hC) fun ds rows r h => ?_
 obtain ⟨d0, d1, d2, d3, d4, s, i, a, b, x, rfl, rfl, g0, g1, g2, g3, g4, hp, rfl⟩ := gn5_some h
 cases rdOf_some g0
 cases rdI_some g1
 cases rdI_some g2
 cases rdI_some g3
 cases rdOf_some g4
 simp only [Bool.and_eq_true, decide_eq_true_eq, inI_eq] at hp
 obtain ⟨⟨⟨⟨hid, hi⟩, ha⟩, hb⟩, hx⟩ := hp
 refine ⟨rfl, afun_mk rfl ?_⟩
 clear h g0 g1 g2 g3 g4
 obtain ⟨i, rfl⟩ := Int.eq_ofNat_of_zero_le hi.1
 obtain ⟨a, rfl⟩ := Int.eq_ofNat_of_zero_le ha.1
 obtain ⟨b, rfl⟩ := Int.eq_ofNat_of_zero_le hb.1
 have hi' : i < 65536 := by omega
 unfold a_ots_Chain r_ots_Chain
 simp only [z32_eq]
 simp only [↓amD, amU, simprocAttr, zipEnv, amR, d32D, site_fits, h1]
 have em : max (a : Int) 0 = (a : Int) := by omega
 have eb : min (b : Int) 256 = (b : Int) := by omega
 simp only [em]
 refine kLoop_up (b - a) (fun j env rows => has env [(11, .raw (it ((a + j : Nat) : Int))), (10, .ptr (.ar 32 L8) 2 [0]), (9, .ptr (.ar 32 L8) 1 [0]), (5, .ptr SSite 0 [0]), (1, .raw (it (i : Int))), (3, .raw (it (b : Int)))] ∧
  rows = [some ⟨SSite, [siteD s]⟩, some ⟨.ar 32 L8, [.agg (.ar 32 L8) (bs (chS s.id s.q i j a x))]⟩, some ⟨.ar 32 L8, [.agg (.ar 32 L8) (bs z32)]⟩]) ?_ ?_ ⟨?_, rfl⟩
 ·rintro j hj env rows ⟨hh, rfl⟩ R hR
  simp only [has] at hh
  have e0 : (((a + j : Nat) : Int) < (b : Int)) = True := eq_true (by omega)
  have e1 : wz (((a + j : Nat) : Int) + 1) = ((a + (j + 1) : Nat) : Int) := by rw [wz_id (by omega)]; omega
  have kS := fun rows k => kStep rows k s i (a + j) _ hid hi' (by omega) (chS_len s.id s.q i j a x hx)
  simp only [↓amD, amU, simprocAttr, zipEnv, amR, hh, eb, e0, e1, site_fits, h1, kS, ← chS_succ]
  exact hR _ _ ⟨by simp only [has, ↓amD, amU, simprocAttr, zipEnv, hh], rfl⟩
 ·rintro env rows ⟨hh, rfl⟩ R
  simp only [has] at hh
  have e0 : (((a + (b - a) : Nat) : Int) < (b : Int)) = False := eq_false (by omega)
  simp only [↓amD, amU, simprocAttr, zipEnv, amR, hh, eb, e0]
  exact .val _ rfl
 ·simp only [has, ↓amD, amU, simprocAttr, zipEnv]
  simp
theorem kChain (rows : Rows) (k : D → Rows → Prop) (s : Site) (i a b : Nat) (x : List (BitVec 8)) (hid : s.id.length = 16) (hi : i < 65536) (ha : a ≤ 256) (hb : b ≤ 256) (hx : x.length = 32) :
  kCall fChain rows k [siteD s, .raw (it (i : Int)), .raw (it (a : Int)), .raw (it (b : Int)), .agg (.ar 32 L8) (bs x)] = k (.agg (.ar 32 L8) (bs (chS s.id s.q i (b - a) a x))) rows := by
 refine (kCall_g5 (site_pure s rows) (RdIn.int _) (RdIn.int _) (RdIn.int _) (rdIn_d32 x) (by simp [hid, hx, inI]; omega) rfl k).trans ?_
 simp [d32D, shift, shiftRows, Sh.pure]
def mashS (id : List (BitVec 8)) (q : BitVec 32) (c msg : List (BitVec 8)) : List (BitVec 8) := sumS (id ++ wordB q ++ be2 33153 ++ c ++ msg)
noncomputable def fMash : Fn := fn3 (rdOf siteD) (rdOf d32D) rdBs (fun s c _ => decide (s.id.length = 16) && decide (c.length = 32)) fun s c m => (d32D (mashS s.id s.q c m), [])
theorem mash_ok (C : Ctx) (hC : CtxOK C P) (h1 : C.fn 79 = some fFront) (h2 : C.fn 78 = some fTwo) (h3 : C.fn 70 = some fFeed) (h4 : C.fn 72 = some fStSum) : Meets C.glob P 50 (Fn.run fMash) := by
 refine fn_meets (m_ots_Mash C hC) fun ds rows r h => ?_
 obtain ⟨d0, d1, d2, s, c, m, rfl, rfl, g0, g1, g2, hp, rfl⟩ := fn3_some h
 cases rdOf_some g0
 cases rdOf_some g1
 have gm := rdBs_some g2
 simp only [Bool.and_eq_true, decide_eq_true_eq] at hp
 obtain ⟨hid, hc⟩ := hp
 refine ⟨rfl, afun_mk rfl ?_⟩
 clear h g0 g1 g2
 unfold a_ots_Mash r_ots_Mash
 simp only [z32_eq]
 have kT := fun rows k => kTwo rows k 33153 (by decide)
 rw [show ((33153 : Nat) : Int) = 33153 from rfl] at kT
 simp only [↓amD, amU, simprocAttr, zipEnv, amR, d32D, site_fits, h1, kFront _ _ s hid, h2, kT, h3]
 refine Eq.mpr (kFeed _ _ _ _ (be2 33153) (BsIn.own rfl _ rfl) (frontS_ok s)) ?_
 simp only [↓amD, amU, simprocAttr, zipEnv, amR, h3]
 have o1 := feed_ok (be2 33153) _ (frontS_ok s)
 refine Eq.mpr (kFeed _ _ _ _ c (BsIn.atAll (n := 32) rfl rfl hc) o1) ?_
 simp only [↓amD, amU, simprocAttr, zipEnv, amR, h3]
 have o2 := feed_ok c _ o1
 refine Eq.mpr (kFeed _ _ _ _ m gm.to o2) ?_
 have o3 := feed_ok m _ o2
 simp only [↓amD, amU, simprocAttr, zipEnv, amR, h4, kStSum _ _ _ o3]
 have e : sumSt (feed (feed (feed (frontS s) (be2 33153)) c) m) = mashS s.id s.q c m := by
  rw [mashS, sumS, frontS, ← feed_app, ← feed_app, ← feed_app]
  simp only [List.append_assoc]
 rw [e]
 exact .val _ rfl
theorem kMash (rows : Rows) (k : D → Rows → Prop) (s : Site) (c m : List (BitVec 8)) (d : D) (hd : BsIn rows d m) (hid : s.id.length = 16) (hc : c.length = 32) :
  kCall fMash rows k [siteD s, .agg (.ar 32 L8) (bs c), d] = k (.agg (.ar 32 L8) (bs (mashS s.id s.q c m))) rows := by
 refine (kCall_rd3 (site_pure s rows) (rdIn_d32 c) (.bs hd) (by simp [hid, hc]) rfl k).trans ?_
 simp [d32D, shift, shiftRows, Sh.pure]
noncomputable def fRStep : Fn := gn5 (rdOf id16D) rd32 rdI rdI (rdOf d32D) (fun id q i j x => decide (id.length = 16) && inI i 65536 && inI j 256 && decide (x.length = 32)) fun id q i j x => (d32D (stepS id q i.toNat j.toNat x), [])
theorem rstep_ok (C : Ctx) (hC : CtxOK C P) (h1 : C.fn 42 = some fNumS) (h2 : C.fn 44 = some fJoin) (h3 : C.fn 18 = some fRSum) : Meets C.glob P 19 (Fn.run fRStep) := by
 refine fn_meets (m_ref05_Step C hC) fun ds rows r h => ?_
 obtain ⟨d0, d1, d2, d3, d4, id, q, i, j, x, rfl, rfl, g0, g1, g2, g3, g4, hp, rfl⟩ := gn5_some h
 cases rdOf_some g0
 cases rd32_some g1
 cases rdI_some g2
 cases rdI_some g3
 cases rdOf_some g4
 simp only [Bool.and_eq_true, decide_eq_true_eq, inI_eq] at hp
 obtain ⟨⟨⟨hid, hi⟩, hj⟩, hx⟩ := hp
 refine ⟨rfl, afun_mk rfl ?_⟩
 clear h g0 g1 g2 g3 g4
 obtain ⟨i, rfl⟩ := Int.eq_ofNat_of_zero_le hi.1
 obtain ⟨j, rfl⟩ := Int.eq_ofNat_of_zero_le hj.1
 have hi' : i < 65536 := by omega
 have hj' : j < 256 := by omega
 unfold a_ref05_Step r_ref05_Step
 simp only [z32_eq]
 have k4 := fun rows k => kNumN rows k (q.setWidth 64) 4 (by decide) (by decide)
 have k2 := fun rows k => kNumN rows k (BitVec.ofNat 64 i) 2 (by decide) (by decide)
 have k1 := fun rows k => kNumN rows k (BitVec.ofNat 64 j) 1 (by decide) (by decide)
 rw [show (4 : Int).toNat = 4 from rfl, numq4] at k4
 rw [show (2 : Int).toNat = 2 from rfl, numq2 i hi'] at k2
 rw [show (1 : Int).toNat = 1 from rfl, numq1 j hj'] at k1
 have ei : BitVec.ofInt 64 (i : Int) = BitVec.ofNat 64 i := BitVec.ofInt_natCast _ _
 have ej : BitVec.ofInt 64 (j : Int) = BitVec.ofNat 64 j := BitVec.ofInt_natCast _ _
 simp only [↓amD, amU, simprocAttr, zipEnv, amR, id16D, d32D, h1, h2, k4, k2, k1, ei, ej]
 refine Eq.mpr (kJoin _ _ _ 5 _ _ [id, wordB q, be2 i, [BitVec.ofNat 8 j], x] rfl rfl (.cons (BsIn.atAll (n := 16) rfl rfl hid) (.cons (BsIn.own rfl _ rfl) (.cons (BsIn.own rfl _ rfl) (.cons (BsIn.own rfl _ rfl) (.cons (BsIn.atAll (n := 32) rfl rfl hx) .nil))))) (by simp) (by simp [hid, hx, wordB, be2])) ?_
 have hl : ([id, wordB q, be2 i, [BitVec.ofNat 8 j], x].flatten).length = 55 := by simp [hid, hx, wordB, be2]
 have e : sumS [id, wordB q, be2 i, [BitVec.ofNat 8 j], x].flatten = stepS id q i j x := by rw [stepS]; congr 1; simp
 generalize [id, wordB q, be2 i, [BitVec.ofNat 8 j], x].flatten = T at hl e ⊢
 simp only [↓amD, amU, simprocAttr, zipEnv, amR, h3]
 refine Eq.mpr (kRSum _ _ _ T (BsIn.own rfl _ rfl) (by omega)) ?_
 rw [e]
 simp only [↓amD, amU, simprocAttr, zipEnv, amR]
 exact .val _ rfl
theorem RdIn.dl {rows : Rows} {r n : Nat} {ex : Bool} {l : List (List (BitVec 8))} (hl : live rows r = some ⟨.ar 32 L8, l.map d32D⟩) (hn : l.length = n) : RdIn rows (rdLst (.ar 32 L8) d32D) (.sl (.ar 32 L8) r [] 0 n ex) l := by
 refine ⟨⟨.lst (.ar 32 L8) (l.map d32D) ex, ?_, rdLst_eq d32D_inj l ex⟩, fun h => by simp [hasRef] at h⟩
 have : elems rows (.sl (.ar 32 L8) r [] 0 n ex) = some (l.map d32D) := by
  simp only [elems, hl]; simp [List.take_of_length_le, hn]
 simp only [view]
 rw [this]
 simp [Sh.pure, hn]
noncomputable def fFold : Fn := fn2 (rdOf siteD) (rdLst (.ar 32 L8) d32D) (fun s l => decide (s.id.length = 16) && all32 l && decide (l.length ≤ 1000000)) fun s l => (d32D (foldS s.id s.q l), [])
theorem fold_ok (C : Ctx) (hC : CtxOK C P) (h1 : C.fn 79 = some fFront) (h2 : C.fn 78 = some fTwo) (h3 : C.fn 70 = some fFeed) (h4 : C.fn 72 = some fStSum) : Meets C.glob P 60 (Fn.run fFold) := by
 refine fn_meetsN (m_ots_Fold C hC) fun ds rows r h => ?_
 obtain ⟨d0, d1, s, l, rfl, rfl, g0, g1, hp, rfl⟩ := fn2_some h
 cases rdOf_some g0
 obtain ⟨ex, hx⟩ := rdLst_nrm g1
 simp only [Bool.and_eq_true, decide_eq_true_eq, all32_eq] at hp
 obtain ⟨⟨hid, h32⟩, hll⟩ := hp
 refine ⟨rfl, _, .cons (.refl _) (.cons hx .nil), afun_mk rfl ?_⟩
 clear h g0 g1 hx
 unfold a_ots_Fold r_ots_Fold
 simp only [z32_eq, stZ_eq]
 have kT := fun rows k => kTwo rows k 32896 (by decide)
 rw [show ((32896 : Nat) : Int) = 32896 from rfl] at kT
 simp only [↓amD, amU, simprocAttr, zipEnv, amR, d32D, site_fits, st_fits, h1, kFront _ _ s hid, h2, kT, h3]
 refine Eq.mpr (kFeed _ _ _ _ (be2 32896) (BsIn.own rfl _ rfl) (frontS_ok s)) ?_
 have o1 := feed_ok (be2 32896) _ (frontS_ok s)
 simp only [↓amD, amU, simprocAttr, zipEnv, amR, st_fits, List.length_map]
 have hok : ∀ i, (feed (feed (frontS s) (be2 32896)) (l.take i).flatten).ok = true := fun i => feed_ok _ _ o1
 have e : sumSt (feed (feed (frontS s) (be2 32896)) (l.take l.length).flatten) = foldS s.id s.q l := by
  rw [List.take_length, foldS, sumS, frontS, ← feed_app, ← feed_app]
  simp only [List.append_assoc]
 have hst : feed (feed (frontS s) (be2 32896)) (l.take 0).flatten = feed (frontS s) (be2 32896) := by rw [List.take_zero]; rfl
 rw [← hst]
 have hsucc : ∀ i (h : i < l.length), feed (feed (feed (frontS s) (be2 32896)) (l.take i).flatten) l[i] = feed (feed (frontS s) (be2 32896)) (l.take (i + 1)).flatten := fun i h => by
  rw [← feed_app, List.take_succ_eq_append_getElem h, List.flatten_append]; simp
 generalize feed (frontS s) (be2 32896) = B at *
 refine kLoop_up l.length (fun i env rows => has env [(14, .raw (it (i : Int))), (13, .raw (it (l.length : Int))), (12, .lst (.ar 32 L8) (l.map d32D) ex), (5, .ptr S10 3 [0]), (4, .ptr (.ar 32 L8) 1 [0])] ∧
  live rows 3 = some ⟨S10, [stD (feed B (l.take i).flatten)]⟩ ∧ live rows 1 = some ⟨.ar 32 L8, [.agg (.ar 32 L8) (bs z32)]⟩) ?_ ?_ ⟨?_, rfl, rfl⟩
 ·rintro i hi env rows ⟨hh, r3, r1⟩ R hR
  simp only [has] at hh
  have e0 : ((i : Int) < (l.length : Int)) = True := eq_true (by omega)
  have b0 : ∀ n : Nat, ((0 : Int) ≤ (n : Int)) = True := fun n => eq_true (by omega)
  have e1 := wz_succ i (by omega)
  have hx := h32 _ (List.getElem_mem hi)
  have g : (l.map d32D)[i]? = some (.agg (.ar 32 L8) (bs l[i])) := by simp [d32D, hi]
  have hs := hsucc i hi
  generalize l[i] = xi at *
  have r3A := fun L => live_app r3 L
  simp only [↓amD, amU, simprocAttr, zipEnv, amR, hh, e0, e1, b0, List.length_map, g, r3A, h3]
  refine Eq.mpr (kFeed _ _ _ _ xi (BsIn.atAll (n := 32) (by rw [lv_app0]; rfl) rfl hx) (hok i)) ?_
  rw [hs]
  simp only [↓amD, amU, simprocAttr, zipEnv, amR, hh, e1, r3A, st_fits]
  exact hR _ _ ⟨by simp only [has, ↓amD, amU, simprocAttr, zipEnv, hh], live_set_eq (r3A _), live_set_o (live_app r1 _) (by decide)⟩
 ·rintro env rows ⟨hh, r3, r1⟩ R
  simp only [has] at hh
  have e0 : ((l.length : Int) < (l.length : Int)) = False := eq_false (by omega)
  have w1 := fun x => live_set_eq (y := x) r1
  simp only [↓amD, amU, simprocAttr, zipEnv, amR, hh, e0, r3, r1, h4, kStSum _ _ _ (hok _), e, w1]
  exact .val _ rfl
 ·simp only [has, ↓amD, amU, simprocAttr, zipEnv]
theorem kFold (rows : Rows) (k : D → Rows → Prop) (s : Site) (d : D) (l : List (List (BitVec 8))) (hd : RdIn rows (rdLst (.ar 32 L8) d32D) d l) (hid : s.id.length = 16) (h32 : ∀ x ∈ l, x.length = 32) (hll : l.length ≤ 1000000) :
  kCall fFold rows k [siteD s, d] = k (.agg (.ar 32 L8) (bs (foldS s.id s.q l))) rows := by
 refine (kCall_rd2 (site_pure s rows) hd (by simp [hid, all32_eq.2 h32, hll]) rfl k).trans ?_
 simp [d32D, shift, shiftRows, Sh.pure]
def fTable : Fn := fn1 rd32 (fun _ => true) fun t => (.tup [.raw (it (wT t.toNat : Int)), .raw (it (pT t.toNat : Int)), .raw (it (lT t.toNat : Int))], [])
theorem table_ok (C : Ctx) (hC : CtxOK C P) : Meets C.glob P 23 (Fn.run fTable) := by
 refine fn_meets (m_ref05_Table C hC) fun ds rows r h => ?_
 obtain ⟨d, t, rfl, rfl, hd, hp, rfl⟩ := fn1_some h
 cases rd32_some hd
 refine ⟨rfl, afun_mk rfl ?_⟩
 clear h hd
 unfold a_ref05_Table r_ref05_Table
 cases hk : okT t.toNat
 ·obtain ⟨hw, hp, hl⟩ := okT_not hk
  rw [hw, hp, hl]
  have n1 : (t = 1#32) = False := eq_false (fun e => by rw [e] at hk; cases hk)
  have n2 : (t = 2#32) = False := eq_false (fun e => by rw [e] at hk; cases hk)
  have n3 : (t = 3#32) = False := eq_false (fun e => by rw [e] at hk; cases hk)
  have n4 : (t = 4#32) = False := eq_false (fun e => by rw [e] at hk; cases hk)
  simp only [↓amD, amU, simprocAttr, zipEnv, n1, n2, n3, n4, decide_false]
  exact .val _ rfl
 ·rcases okT_cases hk with rfl | rfl | rfl | rfl
  ·simp only [↓amD, amU, simprocAttr, zipEnv]
   exact .val _ rfl
  ·simp only [↓amD, amU, simprocAttr, zipEnv]
   exact .val _ rfl
  ·simp only [↓amD, amU, simprocAttr, zipEnv]
   exact .val _ rfl
  ·simp only [↓amD, amU, simprocAttr, zipEnv]
   exact .val _ rfl
theorem kTable (rows : Rows) (k : D → Rows → Prop) (t : BitVec 32) : kCall fTable rows k [.raw (u32 t)] = k (.tup [.raw (it (wT t.toNat : Int)), .raw (it (pT t.toNat : Int)), .raw (it (lT t.toNat : Int))]) rows := by
 refine (kCall_rd1 (RdIn.raw (rd32_eq t)) rfl rfl k).trans ?_
 simp [shift, shiftL, shiftRows, Sh.pure]
theorem shl_n (m b : Nat) (kd : IntKind) (hb : b ≤ 64) (hm : m * 2 ^ b < 9223372036854775808) (k : D → Prop) : aBin .shl (it (m : Int)) (.int kd (b : Int)) k = k (.raw (it ((m * 2 ^ b : Nat) : Int))) := by
 have e : IntKind.i64.wrap ((m : Int) * 2 ^ (min (b : Int).toNat IntKind.i64.bits)) = ((m * 2 ^ b : Nat) : Int) := by
  have : min (b : Int).toNat IntKind.i64.bits = b := by show min (b : Int).toNat 64 = b; omega
  rw [this, show ((2 : Int) ^ b) = ((2 ^ b : Nat) : Int) by simp, ← Int.natCast_mul]
  exact wz_id (by omega)
 simp only [aBin, it]
 rw [e]
 simp
def w4 (w : Nat) : Bool := decide (w = 1) || decide (w = 2) || decide (w = 4) || decide (w = 8)
theorem w4_eq {w : Nat} : w4 w = true ↔ w = 1 ∨ w = 2 ∨ w = 4 ∨ w = 8 := by simp [w4]; omega
noncomputable def fEnd : Fn := fn1 (rdOf parD) (fun x => w4 x.w) fun x => (.raw (it ((2 ^ x.w - 1 : Nat) : Int)), [])
theorem end_ok (C : Ctx) (hC : CtxOK C P) : Meets C.glob P 59 (Fn.run fEnd) := by
 refine fn_meets (m_ots_Param_end C hC) fun ds rows r h => ?_
 obtain ⟨d, x, rfl, rfl, hd, hp, rfl⟩ := fn1_some h
 cases rdOf_some hd
 have hp := w4_eq.1 hp
 refine ⟨rfl, afun_mk rfl ?_⟩
 clear h hd
 unfold a_ots_Param_end r_ots_Param_end
 obtain ⟨w, p, l⟩ := x
 have hf : ∀ x, (parD x).fits SPar = true := fun x => rfl
 have hg0 : ∀ w p l, (parD ⟨w, p, l⟩).get [0] = some (.raw (it (w : Int))) := fun w p l => rfl
 have s1 : ∀ k, aBin .shl (it 1) (it 1) k = k (.raw (it 2)) := fun k => shl_n 1 1 .i64 (by decide) (by decide) k
 have s2 : ∀ k, aBin .shl (it 1) (it 2) k = k (.raw (it 4)) := fun k => shl_n 1 2 .i64 (by decide) (by decide) k
 have s4 : ∀ k, aBin .shl (it 1) (it 4) k = k (.raw (it 16)) := fun k => shl_n 1 4 .i64 (by decide) (by decide) k
 have s8 : ∀ k, aBin .shl (it 1) (it 8) k = k (.raw (it 256)) := fun k => shl_n 1 8 .i64 (by decide) (by decide) k
 rcases hp with rfl | rfl | rfl | rfl
 ·simp only [↓amD, amU, simprocAttr, zipEnv, amR, hf, hg0, s1]
  exact .val _ rfl
 ·simp only [↓amD, amU, simprocAttr, zipEnv, amR, hf, hg0, s2]
  exact .val _ rfl
 ·simp only [↓amD, amU, simprocAttr, zipEnv, amR, hf, hg0, s4]
  exact .val _ rfl
 ·simp only [↓amD, amU, simprocAttr, zipEnv, amR, hf, hg0, s8]
  exact .val _ rfl
theorem kEnd (rows : Rows) (k : D → Rows → Prop) (x : Par) (h : w4 x.w = true) : kCall fEnd rows k [parD x] = k (.raw (it ((2 ^ x.w - 1 : Nat) : Int))) rows := by
 refine (kCall_rd1 (rdIn_par x) h rfl k).trans ?_
 simp [shift, shiftRows]
def coefN (p : List (BitVec 8)) (i w : Nat) : Nat := ((p.getD (i / (8 / w)) 0#8 >>> (8 - w * (i % (8 / w)) - w)) &&& BitVec.ofNat 8 (2 ^ w - 1)).toNat
def coefZ (p : List (BitVec 8)) (i w : Int) : Int := if (w = 1 ∨ w = 2 ∨ w = 4 ∨ w = 8) ∧ 0 ≤ i ∧ i < (p.length * (8 / w.toNat) : Nat) then (coefN p i.toNat w.toNat : Int) else 0
def fCoef : Fn := fn3 rdBs rdI rdI (fun p _ _ => decide (p.length ≤ 1099511627776)) fun p i w => (.raw (it (coefZ p i w)), [])
theorem coef_ok (C : Ctx) (hC : CtxOK C P) : Meets C.glob P 77 (Fn.run fCoef) := by
 refine fn_meets (m_ots_Coef C hC) fun ds rows r h => ?_
 obtain ⟨d, d1, d2, p, i, w, rfl, rfl, g0, g1, g2, hp, rfl⟩ := fn3_some h
 have gb := rdBs_some g0
 cases rdI_some g1
 cases rdI_some g2
 simp only [decide_eq_true_eq] at hp
 refine ⟨rfl, afun_mk rfl ?_⟩
 clear h g0 g1 g2
 have hsl := gb.slen
 unfold a_ots_Coef r_ots_Coef
 have hfit : d.fits .ref = true := by rcases gb with ⟨rfl, _⟩ | ⟨e, rfl⟩ <;> rfl
 by_cases c4 : w = 4
 ·subst c4
  by_cases h0 : i < 0
  ·have h0' : (i < 0) = True := eq_true h0
   have hz : coefZ p i 4 = 0 := by rw [coefZ, if_neg (fun h => by omega)]
   rw [hz]
   simp only [↓amD, amU, simprocAttr, zipEnv, hsl, h0', decide_true]
   exact .val _ rfl
  have h0' : (i < 0) = False := eq_false h0
  obtain ⟨i, rfl⟩ := Int.eq_ofNat_of_zero_le (Int.not_lt.1 h0)
  have h84 : wz (Int.tdiv 8 4) = 2 := by decide
  have hm : wz ((p.length : Int) * 2) = ((p.length * 2 : Nat) : Int) := by rw [wz_id (by omega)]; omega
  by_cases hc : i < p.length * 2
  ·have hc' : (((p.length * 2 : Nat) : Int) ≤ (i : Int)) = False := eq_false (by omega)
   have hz : coefZ p (i : Int) 4 = (coefN p i 4 : Int) := by
    rw [coefZ, if_pos ⟨by decide, by omega, by show (i : Int) < ((p.length * 2 : Nat) : Int); omega⟩]
    rfl
   have hr : i % 2 < 2 := Nat.mod_lt _ (by decide)
   have q1 : wz ((i : Int).tdiv 2) = ((i / 2 : Nat) : Int) := by rw [Int.tdiv_eq_ediv_of_nonneg (by omega), wz_id (by omega)]; omega
   have q2 : (i : Int).tmod 2 = ((i % 2 : Nat) : Int) := by rw [Int.tmod_eq_emod_of_nonneg (by omega)]; omega
   have q3 : wz (4 * ((i % 2 : Nat) : Int)) = ((4 * (i % 2) : Nat) : Int) := by rw [wz_id (by omega)]; omega
   have q4 : wz (8 - ((4 * (i % 2) : Nat) : Int)) = ((8 - 4 * (i % 2) : Nat) : Int) := by rw [wz_id (by omega)]; omega
   have q5 : wz (((8 - 4 * (i % 2) : Nat) : Int) - 4) = ((8 - 4 * (i % 2) - 4 : Nat) : Int) := by rw [wz_id (by omega)]; omega
   have b0 : ∀ n : Nat, ((0 : Int) ≤ (n : Int)) = True := fun n => eq_true (by omega)
   have ki := fun k => kIdx_bs (k := k) (rows := ([] : Rows)) (n := ((i / 2 : Nat) : Int)) gb (by have : i / 2 < p.length := Nat.div_lt_of_lt_mul (by rw [Nat.mul_comm]; exact hc); omega)
   rw [hz]
   simp only [↓amD, amU, simprocAttr, zipEnv, hsl, h0', h84, hm, hc', q1, q2, q3, q4, q5, b0, ki, decide_false, Int.toNat_natCast]
   exact .val _ rfl
  ·have hc' : (((p.length * 2 : Nat) : Int) ≤ (i : Int)) = True := eq_true (by omega)
   have hz : coefZ p (i : Int) 4 = 0 := by
    rw [coefZ, if_neg (fun h => by have h2 : (i : Int) < ((p.length * 2 : Nat) : Int) := h.2.2; omega)]
   rw [hz]
   simp only [↓amD, amU, simprocAttr, zipEnv, hsl, h0', h84, hm, hc', decide_true, decide_false]
   exact .val _ rfl
 have n4 : (w = 4) = False := eq_false c4
 by_cases c1 : w = 1
 ·subst c1
  by_cases h0 : i < 0
  ·have h0' : (i < 0) = True := eq_true h0
   have hz : coefZ p i 1 = 0 := by rw [coefZ, if_neg (fun h => by omega)]
   rw [hz]
   simp only [↓amD, amU, simprocAttr, zipEnv, hsl, h0', decide_true]
   exact .val _ rfl
  have h0' : (i < 0) = False := eq_false h0
  obtain ⟨i, rfl⟩ := Int.eq_ofNat_of_zero_le (Int.not_lt.1 h0)
  have h81 : wz (Int.tdiv 8 1) = 8 := by decide
  have hm : wz ((p.length : Int) * 8) = ((p.length * 8 : Nat) : Int) := by rw [wz_id (by omega)]; omega
  by_cases hc : i < p.length * 8
  ·have hc' : (((p.length * 8 : Nat) : Int) ≤ (i : Int)) = False := eq_false (by omega)
   have hz : coefZ p (i : Int) 1 = (coefN p i 1 : Int) := by
    rw [coefZ, if_pos ⟨by decide, by omega, by show (i : Int) < ((p.length * 8 : Nat) : Int); omega⟩]
    rfl
   have hr : i % 8 < 8 := Nat.mod_lt _ (by decide)
   have q1 : wz ((i : Int).tdiv 8) = ((i / 8 : Nat) : Int) := by rw [Int.tdiv_eq_ediv_of_nonneg (by omega), wz_id (by omega)]; omega
   have q2 : (i : Int).tmod 8 = ((i % 8 : Nat) : Int) := by rw [Int.tmod_eq_emod_of_nonneg (by omega)]; omega
   have q3 : wz (1 * ((i % 8 : Nat) : Int)) = ((1 * (i % 8) : Nat) : Int) := by rw [wz_id (by omega)]; omega
   have q4 : wz (8 - ((1 * (i % 8) : Nat) : Int)) = ((8 - 1 * (i % 8) : Nat) : Int) := by rw [wz_id (by omega)]; omega
   have q5 : wz (((8 - 1 * (i % 8) : Nat) : Int) - 1) = ((8 - 1 * (i % 8) - 1 : Nat) : Int) := by rw [wz_id (by omega)]; omega
   have b0 : ∀ n : Nat, ((0 : Int) ≤ (n : Int)) = True := fun n => eq_true (by omega)
   have ki := fun k => kIdx_bs (k := k) (rows := ([] : Rows)) (n := ((i / 8 : Nat) : Int)) gb (by have : i / 8 < p.length := Nat.div_lt_of_lt_mul (by rw [Nat.mul_comm]; exact hc); omega)
   rw [hz]
   simp only [↓amD, amU, simprocAttr, zipEnv, hsl, h0', h81, hm, hc', q1, q2, q3, q4, q5, b0, ki, decide_false, Int.toNat_natCast]
   exact .val _ rfl
  ·have hc' : (((p.length * 8 : Nat) : Int) ≤ (i : Int)) = True := eq_true (by omega)
   have hz : coefZ p (i : Int) 1 = 0 := by
    rw [coefZ, if_neg (fun h => by have h2 : (i : Int) < ((p.length * 8 : Nat) : Int) := h.2.2; omega)]
   rw [hz]
   simp only [↓amD, amU, simprocAttr, zipEnv, hsl, h0', h81, hm, hc', decide_true, decide_false]
   exact .val _ rfl
 have n1 : (w = 1) = False := eq_false c1
 by_cases c2 : w = 2
 ·subst c2
  by_cases h0 : i < 0
  ·have h0' : (i < 0) = True := eq_true h0
   have hz : coefZ p i 2 = 0 := by rw [coefZ, if_neg (fun h => by omega)]
   rw [hz]
   simp only [↓amD, amU, simprocAttr, zipEnv, hsl, h0', decide_true]
   exact .val _ rfl
  have h0' : (i < 0) = False := eq_false h0
  obtain ⟨i, rfl⟩ := Int.eq_ofNat_of_zero_le (Int.not_lt.1 h0)
  have h82 : wz (Int.tdiv 8 2) = 4 := by decide
  have hm : wz ((p.length : Int) * 4) = ((p.length * 4 : Nat) : Int) := by rw [wz_id (by omega)]; omega
  by_cases hc : i < p.length * 4
  ·have hc' : (((p.length * 4 : Nat) : Int) ≤ (i : Int)) = False := eq_false (by omega)
   have hz : coefZ p (i : Int) 2 = (coefN p i 2 : Int) := by
    rw [coefZ, if_pos ⟨by decide, by omega, by show (i : Int) < ((p.length * 4 : Nat) : Int); omega⟩]
    rfl
   have hr : i % 4 < 4 := Nat.mod_lt _ (by decide)
   have q1 : wz ((i : Int).tdiv 4) = ((i / 4 : Nat) : Int) := by rw [Int.tdiv_eq_ediv_of_nonneg (by omega), wz_id (by omega)]; omega
   have q2 : (i : Int).tmod 4 = ((i % 4 : Nat) : Int) := by rw [Int.tmod_eq_emod_of_nonneg (by omega)]; omega
   have q3 : wz (2 * ((i % 4 : Nat) : Int)) = ((2 * (i % 4) : Nat) : Int) := by rw [wz_id (by omega)]; omega
   have q4 : wz (8 - ((2 * (i % 4) : Nat) : Int)) = ((8 - 2 * (i % 4) : Nat) : Int) := by rw [wz_id (by omega)]; omega
   have q5 : wz (((8 - 2 * (i % 4) : Nat) : Int) - 2) = ((8 - 2 * (i % 4) - 2 : Nat) : Int) := by rw [wz_id (by omega)]; omega
   have b0 : ∀ n : Nat, ((0 : Int) ≤ (n : Int)) = True := fun n => eq_true (by omega)
   have ki := fun k => kIdx_bs (k := k) (rows := ([] : Rows)) (n := ((i / 4 : Nat) : Int)) gb (by have : i / 4 < p.length := Nat.div_lt_of_lt_mul (by rw [Nat.mul_comm]; exact hc); omega)
   rw [hz]
   simp only [↓amD, amU, simprocAttr, zipEnv, hsl, h0', h82, hm, hc', q1, q2, q3, q4, q5, b0, ki, decide_false, Int.toNat_natCast]
   exact .val _ rfl
  ·have hc' : (((p.length * 4 : Nat) : Int) ≤ (i : Int)) = True := eq_true (by omega)
   have hz : coefZ p (i : Int) 2 = 0 := by
    rw [coefZ, if_neg (fun h => by have h2 : (i : Int) < ((p.length * 4 : Nat) : Int) := h.2.2; omega)]
   rw [hz]
   simp only [↓amD, amU, simprocAttr, zipEnv, hsl, h0', h82, hm, hc', decide_true, decide_false]
   exact .val _ rfl
 have n2 : (w = 2) = False := eq_false c2
 by_cases c8 : w = 8
 ·subst c8
  by_cases h0 : i < 0
  ·have h0' : (i < 0) = True := eq_true h0
   have hz : coefZ p i 8 = 0 := by rw [coefZ, if_neg (fun h => by omega)]
   rw [hz]
   simp only [↓amD, amU, simprocAttr, zipEnv, hsl, h0', decide_true]
   exact .val _ rfl
  have h0' : (i < 0) = False := eq_false h0
  obtain ⟨i, rfl⟩ := Int.eq_ofNat_of_zero_le (Int.not_lt.1 h0)
  have h88 : wz (Int.tdiv 8 8) = 1 := by decide
  have hm : wz ((p.length : Int) * 1) = ((p.length * 1 : Nat) : Int) := by rw [wz_id (by omega)]; omega
  by_cases hc : i < p.length * 1
  ·have hc' : (((p.length * 1 : Nat) : Int) ≤ (i : Int)) = False := eq_false (by omega)
   have hz : coefZ p (i : Int) 8 = (coefN p i 8 : Int) := by
    rw [coefZ, if_pos ⟨by decide, by omega, by show (i : Int) < ((p.length * 1 : Nat) : Int); omega⟩]
    rfl
   have hr : i % 1 < 1 := Nat.mod_lt _ (by decide)
   have q1 : wz ((i : Int).tdiv 1) = ((i / 1 : Nat) : Int) := by rw [Int.tdiv_eq_ediv_of_nonneg (by omega), wz_id (by omega)]; omega
   have q2 : (i : Int).tmod 1 = ((i % 1 : Nat) : Int) := by rw [Int.tmod_eq_emod_of_nonneg (by omega)]; omega
   have q3 : wz (8 * ((i % 1 : Nat) : Int)) = ((8 * (i % 1) : Nat) : Int) := by rw [wz_id (by omega)]; omega
   have q4 : wz (8 - ((8 * (i % 1) : Nat) : Int)) = ((8 - 8 * (i % 1) : Nat) : Int) := by rw [wz_id (by omega)]; omega
   have q5 : wz (((8 - 8 * (i % 1) : Nat) : Int) - 8) = ((8 - 8 * (i % 1) - 8 : Nat) : Int) := by rw [wz_id (by omega)]; omega
   have b0 : ∀ n : Nat, ((0 : Int) ≤ (n : Int)) = True := fun n => eq_true (by omega)
   have ki := fun k => kIdx_bs (k := k) (rows := ([] : Rows)) (n := ((i / 1 : Nat) : Int)) gb (by have : i / 1 < p.length := Nat.div_lt_of_lt_mul (by rw [Nat.mul_comm]; exact hc); omega)
   rw [hz]
   simp only [↓amD, amU, simprocAttr, zipEnv, hsl, h0', h88, hm, hc', q1, q2, q3, q4, q5, b0, ki, decide_false, Int.toNat_natCast]
   exact .val _ rfl
  ·have hc' : (((p.length * 1 : Nat) : Int) ≤ (i : Int)) = True := eq_true (by omega)
   have hz : coefZ p (i : Int) 8 = 0 := by
    rw [coefZ, if_neg (fun h => by have h2 : (i : Int) < ((p.length * 1 : Nat) : Int) := h.2.2; omega)]
   rw [hz]
   simp only [↓amD, amU, simprocAttr, zipEnv, hsl, h0', h88, hm, hc', decide_true, decide_false]
   exact .val _ rfl
 have n8 : (w = 8) = False := eq_false c8
 have hz : coefZ p i w = 0 := by rw [coefZ, if_neg (fun h => by omega)]
 rw [hz]
 simp only [↓amD, amU, simprocAttr, zipEnv, n1, n2, n4, n8, decide_false, Bool.not_false]
 exact .val _ rfl
theorem coefZ_nat {p : List (BitVec 8)} {i w : Nat} (hw : w4 w = true) (hi : i < p.length * (8 / w)) : coefZ p (i : Int) (w : Int) = (coefN p i w : Int) := by
 have h := w4_eq.1 hw
 rw [coefZ, if_pos ⟨by omega, by omega, by rw [Int.toNat_natCast]; omega⟩]
 simp
theorem kCoef (rows : Rows) (k : D → Rows → Prop) (d : D) (p : List (BitVec 8)) (i w : Int) (hd : BsIn rows d p) (hp : p.length ≤ 1099511627776) : kCall fCoef rows k [d, .raw (it i), .raw (it w)] = k (.raw (it (coefZ p i w))) rows := by
 refine (kCall_rd3 (.bs hd) (RdIn.int i) (RdIn.int w) (by simp [hp]) rfl k).trans ?_
 simp [shift, shiftRows]
theorem kCoefN (rows : Rows) (k : D → Rows → Prop) (d : D) (p : List (BitVec 8)) (i w : Nat) (hd : BsIn rows d p) (hp : p.length ≤ 1099511627776) (hw : w4 w = true) (hi : i < p.length * (8 / w)) : kCall fCoef rows k [d, .raw (it (i : Int)), .raw (it (w : Int))] = k (.raw (it (coefN p i w : Int))) rows := by
 rw [kCoef rows k d p i w hd hp, coefZ_nat hw hi]
theorem coefN_le (p : List (BitVec 8)) (i w : Nat) (hw : w4 w = true) : coefN p i w ≤ 2 ^ w - 1 := by
 have h : ∀ x : BitVec 8, (x &&& BitVec.ofNat 8 (2 ^ w - 1)).toNat ≤ 2 ^ w - 1 := fun x => by
  rw [BitVec.toNat_and, BitVec.toNat_ofNat]
  refine Nat.le_trans Nat.and_le_right ?_
  exact Nat.mod_le _ _
 exact h _
def sumD (d : List (BitVec 8)) (w : Nat) : Nat → Nat
 | 0 => 0
 | n + 1 => sumD d w n + (2 ^ w - 1 - coefN d n w)
theorem sumD_le (d : List (BitVec 8)) (w n : Nat) : sumD d w n ≤ n * (2 ^ w - 1) := by
 induction n with
 | zero => simp [sumD]
 | succ n ih => rw [sumD, Nat.add_mul]; omega
def fullD (x : Par) (d : List (BitVec 8)) : List (BitVec 8) := d ++ be2 (sumD d x.w (256 / x.w) * 2 ^ x.l)
def digsP (x : Par) (d : List (BitVec 8)) (n : Nat) : List Nat := (List.range n).map fun i => coefN (fullD x d) i x.w
def digitsS (t : Nat) (d : List (BitVec 8)) : List Nat := digsP (parT t) d (pT t)
def natD (n : Nat) : D := .raw (it (n : Int))
def outI (l : List Nat) : D × Rows := (.sl LI 0 [] 0 l.length false, [some ⟨LI, l.map natD⟩])
def parOK (x : Par) : Prop := w4 x.w = true ∧ x.p ≤ 34 * (8 / x.w) ∧ x.p ≤ 265 ∧ 256 / x.w * (2 ^ x.w - 1) * 2 ^ x.l < 65536 ∧ x.l ≤ 7 ∧ 256 / x.w ≤ 32 * (8 / x.w)
theorem parT_ok {t : Nat} (h : okT t = true) : parOK (parT t) := by
 simp only [okT, Bool.and_eq_true, decide_eq_true_eq] at h
 have : t = 1 ∨ t = 2 ∨ t = 3 ∨ t = 4 := by omega
 rcases this with rfl | rfl | rfl | rfl <;> exact ⟨by decide, by decide, by decide, by decide, by decide, by decide⟩
theorem tdivN (a b : Nat) (ha : a < 9223372036854775808) : wz ((a : Int).tdiv (b : Int)) = ((a / b : Nat) : Int) := by
 have h : a / b ≤ a := Nat.div_le_self _ _
 rw [Int.tdiv_eq_ediv_of_nonneg (by omega), ← Int.natCast_ediv]
 generalize a / b = c at *
 exact wz_id (by omega)
theorem Own.expoL {s : Sh} {d : D} {rows : Rows} {els : List D} (h : Own s d rows els) (hs : s.pure = true) : Expo rows d (.sl s 0 [] 0 els.length false) [some ⟨s, els⟩] := by
 rcases h with ⟨rfl, rfl⟩ | ⟨r, ex, rfl, h⟩
 ·exact .nil0 s
 ·exact .own s r 0 _ ex false _ h hs (fun h => by cases h)
theorem app_arr {rows : Rows} {r i len : Nat} {q : List Nat} {old news : List D} {k : D → Rows → Prop} (he : elems rows (.sl L8 r (i :: q) 0 len true) = some old) (hn : old.length = len) (hne : news.length ≠ 0) (hb : len + news.length ≤ most)
  (hk : k (.sl L8 rows.length [] 0 (len + news.length) false) (rows ++ [some ⟨L8, old ++ news⟩])) : aApp rows L8 1 (.sl L8 r (i :: q) 0 len true) news k := by
 unfold aApp
 rw [he]
 refine ⟨rfl, hn, by rw [Nat.mul_one]; exact hb, hb, ?_⟩
 exact ⟨rfl, fun h => absurd h hne, fun _ => hk⟩
noncomputable def fDigits : Fn := fn2 rd32 (rdOf d32D) (fun _ d => decide (d.length = 32)) fun t d => outI (bif okT t.toNat then digitsS t.toNat d else [])
theorem digits_ok (C : Ctx) (hC : CtxOK C P) (h1 : C.fn 40 = some fParams) (h2 : C.fn 59 = some fEnd) (h3 : C.fn 77 = some fCoef) (h4 : C.fn 78 = some fTwo) : Meets C.glob P 49 (Fn.run fDigits) := by
 refine fn_meets (m_ots_Digits C hC) fun ds rows r h => ?_
 obtain ⟨d0, d1, t, d, rfl, rfl, g0, g1, hp, rfl⟩ := fn2_some h
 cases rd32_some g0
 cases rdOf_some g1
 simp only [decide_eq_true_eq] at hp
 refine ⟨rfl, afun_mk rfl ?_⟩
 clear h g0 g1
 unfold a_ots_Digits r_ots_Digits
 have hz : D.agg SPar [.raw (it 0), .raw (it 0), .raw (it 0)] = parD ⟨0, 0, 0⟩ := rfl
 simp only [hz]
 cases hk : okT t.toNat
 ·have kP := fun rows k => kParams rows k t
  rw [hk] at kP
  simp only [↓amD, amU, simprocAttr, zipEnv, amR, d32D, h1, kP, par_fits, Bool.not_false, cond_false]
  exact .nil0 _
 ·have kP := fun rows k => kParams rows k t
  have hx := parT_ok hk
  have hpt : pT t.toNat = (parT t.toNat).p := rfl
  rw [digitsS, hpt]
  rw [hk] at kP
  generalize parT t.toNat = x at *
  obtain ⟨hw, hp1, hp2, hs, hl, h32⟩ := hx
  have kE := fun rows k => kEnd rows k x hw
  have g0 : (parD x).get [0] = some (.raw (it (x.w : Int))) := rfl
  have g1 : (parD x).get [1] = some (.raw (it (x.p : Int))) := rfl
  have g2 : (parD x).get [2] = some (.raw (it (x.l : Int))) := rfl
  have q1 : wz (Int.tdiv 256 (x.w : Int)) = ((256 / x.w : Nat) : Int) := tdivN 256 x.w (by decide)
  have hw0 : ((x.w : Int) = 0) = False := eq_false (by have := w4_eq.1 hw; omega)
  have hw0' : ((x.w : Int) ≠ 0) = True := eq_true (by have := w4_eq.1 hw; omega)
  simp only [↓amD, amU, simprocAttr, zipEnv, amR, d32D, h1, kP, par_fits, g0, q1, hw0, hw0', Bool.not_true, cond_true]
  have hpw : 2 ^ x.w ≤ 256 := by rcases w4_eq.1 hw with h | h | h | h <;> rw [h] <;> decide
  have h256 : 256 / x.w ≤ 256 := Nat.div_le_self _ _
  have b0 : ∀ n : Nat, ((0 : Int) ≤ (n : Int)) = True := fun n => eq_true (by omega)
  refine kLoop_up (256 / x.w) (fun i env rows => has env [(22, .raw (it (i : Int))), (21, .raw (it ((256 / x.w : Nat) : Int))), (7, .raw (it (sumD d x.w i : Int))), (5, .ptr SPar 1 [0]), (3, .ptr (.ar 32 L8) 0 [0])] ∧
   rows = [some ⟨.ar 32 L8, [.agg (.ar 32 L8) (bs d)]⟩, some ⟨SPar, [parD x]⟩]) ?_ ?_ ⟨?_, rfl⟩
  ·rintro i hi env rows ⟨hh, rfl⟩ R hR
   simp only [has] at hh
   have e0 : ((i : Int) < ((256 / x.w : Nat) : Int)) = True := eq_true (by omega)
   have e1 := wz_succ i (by omega)
   have hc := coefN_le d i x.w hw
   have hsl := sumD_le d x.w i
   have hsl2 : i * (2 ^ x.w - 1) ≤ 256 * 255 := Nat.mul_le_mul (by omega) (by omega)
   have kc := fun k => kCoefN [some ⟨.ar 32 L8, [.agg (.ar 32 L8) (bs d)]⟩, some ⟨SPar, [parD x]⟩] k (.sl L8 0 [0] 0 32 true) d i x.w (BsIn.atAll (n := 32) rfl rfl hp) (by omega) hw (by rw [hp]; omega)
   have q2 : wz (((2 ^ x.w - 1 : Nat) : Int) - (coefN d i x.w : Int)) = ((2 ^ x.w - 1 - coefN d i x.w : Nat) : Int) := by rw [wz_id (by omega)]; omega
   have q3 : wz ((sumD d x.w i : Int) + ((2 ^ x.w - 1 - coefN d i x.w : Nat) : Int)) = (sumD d x.w (i + 1) : Int) := by rw [wz_id (by omega), sumD]; omega
   simp only [↓amD, amU, simprocAttr, zipEnv, amR, hh, e0, e1, par_fits, h2, kE, g0, h3, kc, q2, q3]
   exact hR _ _ ⟨by simp only [has, ↓amD, amU, simprocAttr, zipEnv, hh], rfl⟩
  ·rintro env rows ⟨hh, rfl⟩ R
   simp only [has] at hh
   have e0 : (((256 / x.w : Nat) : Int) < ((256 / x.w : Nat) : Int)) = False := eq_false (by omega)
   have hsl := sumD_le d x.w (256 / x.w)
   have hbd : sumD d x.w (256 / x.w) * 2 ^ x.l < 65536 := Nat.lt_of_le_of_lt (Nat.mul_le_mul_right _ hsl) hs
   have kS := fun k => shl_n (sumD d x.w (256 / x.w)) x.l .i64 (by omega) (by omega) k
   have kS' : ∀ k, aBin .shl (it (sumD d x.w (256 / x.w) : Int)) (it (x.l : Int)) k = k (.raw (it ((sumD d x.w (256 / x.w) * 2 ^ x.l : Nat) : Int))) := kS
   have kT := fun rows k => kTwo rows k _ hbd
   have hfl : (fullD x d).length = 34 := by rw [fullD, List.length_append, hp]; rfl
   have hfd : bs d ++ bs (be2 (sumD d x.w (256 / x.w) * 2 ^ x.l)) = bs (fullD x d) := bs_app _ _
   have ea : ∀ L ex, elems ([some ⟨.ar 32 L8, [.agg (.ar 32 L8) (bs d)]⟩, some ⟨SPar, [parD x]⟩] ++ L) (.sl L8 0 [0] 0 32 ex) = some (bs d) := fun L ex => elems_arr (n := 32) rfl rfl hp
   simp only [↓amD, amU, simprocAttr, zipEnv, amR, hh, e0, par_fits, g2, kS', h4, kT]
   have tk : ∀ m, List.take 2 (bs (be2 m)) = bs (be2 m) := fun m => rfl
   have bl : ∀ m, (bs (be2 m)).length = 2 := fun m => rfl
   rw [tk]
   refine ⟨rfl, app_arr (elems_arr (n := 32) rfl rfl hp) (by rw [bs_len]; exact hp) (by rw [bl]; decide) (by rw [bl]; decide) ?_⟩
   rw [hfd, bl]
   simp only [↓amD, amU, simprocAttr, zipEnv, amR, hh, par_fits, g1]
   refine ⟨by omega, by omega, by omega, ?_⟩
   have hdl : ∀ i, (digsP x d i).length = i := fun i => by simp [digsP]
   have hds : ∀ i, (digsP x d i).map natD ++ [.raw (it (coefN (fullD x d) i x.w : Int))] = (digsP x d (i + 1)).map natD := fun i => by simp [digsP, List.range_succ, natD]
   refine kLoop_up x.p (fun i env rows => has env [(48, .raw (it (i : Int))), (47, .raw (it (x.p : Int))), (9, .sl L8 3 [] 0 34 false), (5, .ptr SPar 1 [0])] ∧
    live rows 3 = some ⟨L8, bs (fullD x d)⟩ ∧ live rows 1 = some ⟨SPar, [parD x]⟩ ∧ ∃ d', look env 10 = some d' ∧ Own LI d' rows ((digsP x d i).map natD)) ?_ ?_ ⟨?_, rfl, rfl, .sl LI 4 [] 0 0 (decide (0 = (x.p : Int))), ?_, .inr ⟨4, _, rfl, rfl⟩⟩
   ·clear hh
    rintro i hi env rows ⟨hh, r3, r1, d', h10, hO⟩ R hR
    simp only [has] at hh
    have e0 : ((i : Int) < (x.p : Int)) = True := eq_true (by omega)
    have e1 := wz_succ i (by omega)
    have kc := fun k => kCoefN rows k (.sl L8 3 [] 0 34 false) (fullD x d) i x.w (BsIn.own r3 _ hfl.symm) (by omega) hw (by rw [hfl]; omega)
    have eb : ∀ v ex, elems (rows ++ [some ⟨LI, [.raw (it v)]⟩]) (.sl LI rows.length [] 0 1 ex) = some [.raw (it v)] := fun v ex => by
     have : live (rows ++ [some ⟨LI, [.raw (it v)]⟩]) rows.length = some ⟨LI, [.raw (it v)]⟩ := by rw [lv_app0]; rfl
     simp only [elems, this]; rfl
    simp only [↓amD, amU, simprocAttr, zipEnv, amR, hh, e0, e1, h10, par_fits, r1, g0, h3, kc, eb]
    refine app_own hO.push (by rw [List.length_map, hdl]; simp [most]; omega) (by rw [List.length_map, hdl]; simp [most]; omega) fun d2 rows' hO' hfr hlen' _ => ?_
    rw [hds] at hO'
    have r3' := hfr 3 _ (live_app r3 _) (fun ex => own_neA hO r3 (by decide) ex _)
    have r1' := hfr 1 _ (live_app r1 _) (fun ex => own_neA hO r1 (by decide) ex _)
    simp only [↓amD, amU, simprocAttr, zipEnv, amR, hh, e1]
    exact hR _ _ ⟨by simp only [has, ↓amD, amU, simprocAttr, zipEnv, hh], r3', r1', d2, by simp only [↓amD, amU, simprocAttr, zipEnv], hO'⟩
   ·clear hh
    rintro env rows ⟨hh, r3, r1, d', h10, hO⟩ R
    simp only [has] at hh
    have e0 : ((x.p : Int) < (x.p : Int)) = False := eq_false (by omega)
    simp only [↓amD, amU, simprocAttr, zipEnv, amR, hh, e0, h10, hO.nTup]
    have := Own.expoL hO rfl
    rw [List.length_map] at this
    exact this
   ·simp only [has, ↓amD, amU, simprocAttr, zipEnv, hh]
   ·simp only [↓amD, amU, simprocAttr, zipEnv]
  ·simp only [has, ↓amD, amU, simprocAttr, zipEnv]
   rfl
theorem kDigits (rows : Rows) (k : D → Rows → Prop) (t : BitVec 32) (d : List (BitVec 8)) (hd : d.length = 32) (ht : okT t.toNat = true) :
  kCall fDigits rows k [.raw (u32 t), .agg (.ar 32 L8) (bs d)] = k (.sl LI (0 + rows.length) [] 0 (pT t.toNat) false) (rows ++ [some ⟨LI, (digitsS t.toNat d).map natD⟩]) := by
 refine (kCall_rd2 (RdIn.raw (rd32_eq t)) (rdIn_d32 d) (by simp [hd]) rfl k).trans ?_
 have hl : (digitsS t.toNat d).length = pT t.toNat := by simp [digitsS, digsP]
 simp [ht, outI, shift, shiftRows, Sh.pure, hl]
def pubS (t : Nat) (s : Site) (seed : List (BitVec 8)) : List (BitVec 8) := foldS s.id s.q (endsS s.id s.q seed (2 ^ wT t - 1) (pT t))
theorem RdIn.dlOwn {rows : Rows} {d : D} {l : List (List (BitVec 8))} (h : Own (.ar 32 L8) d rows (l.map d32D)) : RdIn rows (rdLst (.ar 32 L8) d32D) d l := by
 rcases h with ⟨h, rfl⟩ | ⟨r, ex, rfl, h⟩
 ·have : l = [] := by cases l with | nil => rfl | cons x l => cases h
  subst this
  exact RdIn.raw (by rfl)
 ·exact RdIn.dl h (by rw [List.length_map])
theorem pow_le {w : Nat} (h : w4 w = true) : 2 ^ w ≤ 256 := by rcases w4_eq.1 h with h | h | h | h <;> rw [h] <;> decide
theorem elems_one {s : Sh} {rows : Rows} {d : D} (ex : Bool) : elems (rows ++ [some ⟨s, [d]⟩]) (.sl s rows.length [] 0 1 ex) = some [d] := by
 have : live (rows ++ [some ⟨s, [d]⟩]) rows.length = some ⟨s, [d]⟩ := by rw [lv_app0]; rfl
 simp only [elems, this]; rfl
noncomputable def fPublic : Fn := fn3 rd32 (rdOf siteD) (rdOf d32D) (fun _ s x => decide (s.id.length = 16) && decide (x.length = 32)) fun t s x => bif okT t.toNat then (.tup [d32D (pubS t.toNat s x), .raw (it 0)], []) else (.tup [d32D z32, .raw (it 6)], [])
theorem public_ok (C : Ctx) (hC : CtxOK C P) (h1 : C.fn 40 = some fParams) (h2 : C.fn 59 = some fEnd) (h3 : C.fn 53 = some fSecret) (h4 : C.fn 52 = some fChain) (h5 : C.fn 60 = some fFold) : Meets C.glob P 33 (Fn.run fPublic) := by
 refine fn_meets (m_ots_Public C hC) fun ds rows r h => ?_
 obtain ⟨d0, d1, d2, t, s, seed, rfl, rfl, g0, g1, g2, hp, rfl⟩ := fn3_some h
 cases rd32_some g0
 cases rdOf_some g1
 cases rdOf_some g2
 simp only [Bool.and_eq_true, decide_eq_true_eq] at hp
 obtain ⟨hid, hsd⟩ := hp
 clear h g0 g1 g2
 have hz : D.agg SPar [.raw (it 0), .raw (it 0), .raw (it 0)] = parD ⟨0, 0, 0⟩ := rfl
 have kP := fun rows k => kParams rows k t
 cases hk : okT t.toNat
 ·rw [hk] at kP
  refine ⟨rfl, afun_mk rfl ?_⟩
  unfold a_ots_Public r_ots_Public
  simp only [hz, z32_eq]
  simp only [↓amD, amU, simprocAttr, zipEnv, amR, d32D, h1, kP, par_fits, site_fits, Bool.not_false, cond_false]
  exact .val _ rfl
 ·have hx := parT_ok hk
  have ew : wT t.toNat = (parT t.toNat).w := rfl
  have ep : pT t.toNat = (parT t.toNat).p := rfl
  have hps : pubS t.toNat s seed = foldS s.id s.q (endsS s.id s.q seed (2 ^ (parT t.toNat).w - 1) (parT t.toNat).p) := rfl
  rw [hps]
  rw [hk] at kP
  refine ⟨rfl, afun_mk rfl ?_⟩
  unfold a_ots_Public r_ots_Public
  simp only [hz, z32_eq]
  generalize parT t.toNat = x at *
  obtain ⟨hw, hp1, hp2, hs, hl, h32⟩ := hx
  have hpw := pow_le hw
  have kE := fun rows k => kEnd rows k x hw
  have g1 : (parD x).get [1] = some (.raw (it (x.p : Int))) := rfl
  simp only [↓amD, amU, simprocAttr, zipEnv, amR, d32D, h1, kP, par_fits, site_fits, g1, Bool.not_true, cond_true]
  refine ⟨by omega, by omega, by omega, ?_⟩
  have hds : ∀ i, (endsS s.id s.q seed (2 ^ x.w - 1) i).map d32D ++ [.agg (.ar 32 L8) (bs (chS s.id s.q i (2 ^ x.w - 1 - 0) 0 (secS s.id s.q i seed)))] = (endsS s.id s.q seed (2 ^ x.w - 1) (i + 1)).map d32D := fun i => by simp [endsS, List.range_succ, d32D]
  have hdl : ∀ i, (endsS s.id s.q seed (2 ^ x.w - 1) i).length = i := fun i => by simp [endsS]
  refine kLoop_up x.p (fun i env rows => has env [(25, .raw (it (i : Int))), (24, .raw (it (x.p : Int))), (8, .ptr SPar 3 [0]), (6, .ptr (.ar 32 L8) 2 [0]), (5, .ptr (.ar 32 L8) 1 [0]), (4, .ptr SSite 0 [0])] ∧
   live rows 0 = some ⟨SSite, [siteD s]⟩ ∧ live rows 1 = some ⟨.ar 32 L8, [.agg (.ar 32 L8) (bs seed)]⟩ ∧ live rows 2 = some ⟨.ar 32 L8, [.agg (.ar 32 L8) (bs z32)]⟩ ∧ live rows 3 = some ⟨SPar, [parD x]⟩ ∧
   ∃ d', look env 10 = some d' ∧ Own (.ar 32 L8) d' rows ((endsS s.id s.q seed (2 ^ x.w - 1) i).map d32D) ∧ (∀ r ex n, d' = .sl (.ar 32 L8) r [] 0 n ex → 4 ≤ r)) ?_ ?_ ⟨?_, rfl, rfl, rfl, rfl, .sl (.ar 32 L8) 4 [] 0 0 (decide (0 = (x.p : Int))), ?_, .inr ⟨4, _, rfl, rfl⟩, fun r ex n h => ?_⟩
  ·rintro i hi env rows ⟨hh, r0, r1, r2, r3, d', h10, hO, hne⟩ R hR
   simp only [has] at hh
   have e0 : ((i : Int) < (x.p : Int)) = True := eq_true (by omega)
   have e1 := wz_succ i (by omega)
   have kS := fun rows k => kSecret rows k s i seed hid (by omega) hsd
   have kC := fun rows k => kChain rows k s i 0 (2 ^ x.w - 1) (secS s.id s.q i seed) hid (by omega) (by decide) (by omega) (stepS_len _ _ _ _ _)
   rw [show ((0 : Nat) : Int) = 0 from rfl] at kC
   have lt3 := live_lt r3
   simp only [↓amD, amU, simprocAttr, zipEnv, amR, hh, e0, e1, h10, par_fits, site_fits, r0, r1, r3, h2, kE, h3, kS, h4, kC, elems_one]
   refine app_ownA hO.push (by rw [List.length_map, hdl]; simp [most]; omega) (by rw [List.length_map, hdl]; simp [most]; omega) fun rows' hl' hfr hlen' => ?_
   rw [hds, List.length_append] at hl'
   have hl' : live rows' (rows.length + 1) = _ := hl'
   have hfr' : ∀ r row, r < 4 → live rows r = some row → live rows' r = some row := fun r row hr hl => hfr r row (live_app hl _) (fun ex n e => by have := hne _ _ _ e; omega)
   simp only [↓amD, amU, simprocAttr, zipEnv, amR, hh, e1]
   exact hR _ _ ⟨by simp only [has, ↓amD, amU, simprocAttr, zipEnv, hh], hfr' 0 _ (by omega) r0, hfr' 1 _ (by omega) r1, hfr' 2 _ (by omega) r2, hfr' 3 _ (by omega) r3, .sl (.ar 32 L8) (rows.length + 1) [] 0 ((endsS s.id s.q seed (2 ^ x.w - 1) i).length + 1) false, by simp only [↓amD, amU, simprocAttr, zipEnv], .inr ⟨_, false, by rw [List.length_map, hdl, hdl], hl'⟩, fun r ex n e => by injection e with _ e; omega⟩
  ·rintro env rows ⟨hh, r0, r1, r2, r3, d', h10, hO, hne⟩ R
   simp only [has] at hh
   have e0 : ((x.p : Int) < (x.p : Int)) = False := eq_false (by omega)
   have w2 := fun y => live_set_eq (y := y) r2
   simp only [↓amD, amU, simprocAttr, zipEnv, amR, hh, e0, h10, r0, site_fits, h5]
   refine Eq.mpr (kFold _ _ s _ _ (RdIn.dlOwn hO) hid (ends_len _ _ _ _ _) (by rw [hdl]; omega)) ?_
   simp only [↓amD, amU, simprocAttr, zipEnv, amR, hh, r2, w2]
   exact .val _ rfl
  ·simp only [has, ↓amD, amU, simprocAttr, zipEnv]
  ·simp only [↓amD, amU, simprocAttr, zipEnv]
  ·injection h with _ h; omega
theorem kPublic (rows : Rows) (k : D → Rows → Prop) (t : BitVec 32) (s : Site) (x : List (BitVec 8)) (hid : s.id.length = 16) (hx : x.length = 32) (ht : okT t.toNat = true) :
  kCall fPublic rows k [.raw (u32 t), siteD s, .agg (.ar 32 L8) (bs x)] = k (.tup [.agg (.ar 32 L8) (bs (pubS t.toNat s x)), .raw (it 0)]) rows := by
 refine (kCall_rd3 (RdIn.raw (rd32_eq t)) (site_pure s rows) (rdIn_d32 x) (by simp [hid, hx]) (by simp [ht, noLst, noLstL, d32D, Sh.pure, noLstRows]) k).trans ?_
 simp [ht, d32D, shift, shiftL, shiftRows, Sh.pure]
end Job
end Go.Am
