/- tokens: bodies and back -/
import Derived.Test.YtbkdhjecjdnoeaaDoorTok1
namespace Go.Am
set_option linter.unusedSimpArgs false
set_option linter.unusedVariables false
attribute [local congr] bnd_congr kCond_congr kGd_congr kPick_congr kCall_congr kIdx_congr kSlice_congr kLoop_congr cond_congr' aBin_congr aBounds_congr aApp_congr aCopy_congr kFn_congr
namespace Job.Tk
open Go.Am.F
set_option maxRecDepth 10000
structure Tok where
  kind : Int
  nonce : BitVec 32
  chip : List (BitVec 8)
def tokD (t : Tok) : D := .agg S1 [.raw (it t.kind), .raw (u32 t.nonce), .agg (.ar 16 L8) (bs t.chip)]
def z16 : List (BitVec 8) := List.replicate 16 0#8
def zeroT : Tok := ⟨0, 0#32, z16⟩
def Tok.ok (t : Tok) : Bool := t.chip.length == 16
theorem u8_inj' {x y : BitVec 8} (h : u8 x = u8 y) : x = y := by
  unfold u8 at h
  injection h with _ h
  exact BitVec.eq_of_toNat_eq (by omega)
theorem bs_inj : ∀ {x y : List (BitVec 8)}, bs x = bs y → x = y := fun {x y} h => by
  have h1 := mapO_bs x
  rw [h, mapO_bs y] at h1
  injection h1 with h1
  exact h1.symm
theorem tokD_inj : ∀ x y, tokD x = tokD y → x = y := by
  rintro ⟨a, n, l⟩ ⟨c, m, k⟩ h
  simp only [tokD, D.agg.injEq, List.cons.injEq, D.raw.injEq, it_inj, u32_inj, and_true, true_and] at h
  obtain ⟨h1, h2, h3⟩ := h
  rw [h1, h2, bs_inj h3]
def tokn : List (BitVec 8) := [84#8, 79#8, 75#8, 78#8]
def k32 (k : Int) : BitVec 32 := BitVec.ofInt 32 k
def bodyL (t : Tok) : List (BitVec 8) := tokn ++ wordB (k32 t.kind) ++ wordB t.nonce ++ t.chip
noncomputable def fBody : Fn := fn1 (rdOf tokD) (fun t => t.ok) fun t => bif kindS t.kind then (.tup [.sl L8 0 [] 0 28 false, .raw (it 0)], [some ⟨L8, bs (bodyL t)⟩]) else (.tup [.raw (.slice none 0 0), .raw (it 1)], [])
theorem kKind (rows : Rows) (k : D → Rows → Prop) (m : Int) : kCall fKind rows k [.raw (it m)] = k (.raw (.bool (kindS m))) rows := by
  refine (kCall_val rfl (fn1_eq (rdI_eq m) rfl)).trans ?_
  simp [shift, shiftRows]
theorem own_ne {s s' : Sh} {d : D} {rows : Rows} {els els' : List D} {r : Nat} (h : Own s d rows els) (hl : live rows r = some ⟨s', els'⟩) (hs : s' ≠ s) : ∀ ex n, d ≠ .sl s r [] 0 n ex := by
  intro ex n e
  rcases h with ⟨-, rfl⟩ | ⟨r2, ex2, rfl, hl2⟩
  · cases e
  · injection e with _ e
    subst e
    rw [hl2] at hl
    injection hl with hl
    injection hl with h1 h2
    exact hs h1.symm
def preL (t : Tok) : Nat → List (BitVec 8)
  | 0 => tokn
  | 1 => tokn ++ wordB (k32 t.kind)
  | _ => tokn ++ wordB (k32 t.kind) ++ wordB t.nonce
theorem body_ok (C : Ctx) (hC : CtxOK C P) (h15 : C.fn 15 = some fKind) : Meets C.glob P 9 (Fn.run fBody) := by
  refine fn_meets (m_token_Token_Body C hC) fun ds rows r h => ?_
  obtain ⟨d, t, rfl, rfl, hd, hp, rfl⟩ := fn1_some h
  cases rdOf_some hd
  refine ⟨rfl, afun_mk rfl ?_⟩
  clear h hd
  unfold a_token_Token_Body r_token_Token_Body
  have hl : t.chip.length = 16 := by simpa [Tok.ok] using hp
  cases hk : kindS t.kind
  · unfold tokD
    simp only [↓amD, amU, Nat.reduceBEq, Nat.reduceAdd, Nat.reduceSub, Nat.reduceMul, Nat.reduceMod, Nat.reducePow, Nat.reduceLT, Nat.reduceDiv, Int.reduceToNat, BitVec.reduceToNat, zipEnv, Int.reduceLE, Int.reduceLT, Int.reduceNeg, BitVec.reduceEq, Int.reduceAdd, Int.reduceSub, Int.reduceMul, Nat.reduceLeDiff, Int.reduceEq, h15, kKind, hk, cond_false]
    exact .val _ rfl
  · unfold tokD
    simp only [↓amD, amU, Nat.reduceBEq, Nat.reduceAdd, Nat.reduceSub, Nat.reduceMul, Nat.reduceMod, Nat.reducePow, Nat.reduceLT, Nat.reduceDiv, Int.reduceToNat, BitVec.reduceToNat, zipEnv, Int.reduceLE, Int.reduceLT, Int.reduceNeg, BitVec.reduceEq, Int.reduceAdd, Int.reduceSub, Int.reduceMul, Nat.reduceLeDiff, Int.reduceEq, h15, kKind, hk, cond_true]
    refine kLoop_up 2 (fun i env rows => ∃ x, has env [(1, .ptr S1 0 [0]), (4, x), (18, .sl L32 2 [] 0 2 true), (19, .raw (it 2)), (20, .raw (it i))] ∧
      Own L8 x rows (bs (preL t i)) ∧ live rows 0 = some ⟨S1, [.agg S1 [.raw (it t.kind), .raw (u32 t.nonce), .agg (.ar 16 L8) (bs t.chip)]]⟩ ∧ live rows 2 = some ⟨L32, [.raw (u32 (BitVec.ofInt 32 t.kind)), .raw (u32 t.nonce)]⟩) ?_ ?_ ⟨.sl L8 1 [] 0 4 true, ?_, .inr ⟨1, true, rfl, rfl⟩, rfl, rfl⟩
    · rintro i hi env rows ⟨x, hh, how, r0, r2⟩ R hR
      simp only [has] at hh
      have hi2 : i = 0 ∨ i = 1 := by omega
      have n0 := own_ne how r0 (by decide)
      have n2 := own_ne how r2 (by decide)
      rcases hi2 with rfl | rfl
      all_goals
        simp only [↓amD, amU, Nat.reduceBEq, Nat.reduceAdd, Nat.reduceSub, Nat.reduceMul, Nat.reduceMod, Nat.reducePow, Nat.reduceLT, Nat.reduceDiv, Int.reduceToNat, BitVec.reduceToNat, zipEnv, Int.reduceLE, Int.reduceLT, Int.reduceNeg, BitVec.reduceEq, Int.reduceAdd, Int.reduceSub, Int.reduceMul, Nat.reduceLeDiff, Int.reduceEq, lv_app0, lv_appk, set_app0, set_appk, List.append_assoc, List.append_nil, Nat.add_assoc, hh, r0, r2]
        refine app_own how.push (Nat.le_of_ble_eq_true rfl) (Nat.le_of_ble_eq_true rfl) ?_
        intro x' r' how' hk' _ _
        simp only [↓amD, amU, Nat.reduceBEq, Nat.reduceAdd, Nat.reduceSub, Nat.reduceMul, Nat.reduceMod, Nat.reducePow, Nat.reduceLT, Nat.reduceDiv, Int.reduceToNat, BitVec.reduceToNat, zipEnv, Int.reduceLE, Int.reduceLT, Int.reduceNeg, BitVec.reduceEq, Int.reduceAdd, Int.reduceSub, Int.reduceMul, Nat.reduceLeDiff, Int.reduceEq, hh]
        refine hR _ _ ⟨x', ?_, how', hk' 0 _ (live_app r0 _) (fun ex => n0 ex _), hk' 2 _ (live_app r2 _) (fun ex => n2 ex _)⟩
        simp only [has, ↓amD, amU, Nat.reduceBEq, Nat.reduceAdd, Nat.reduceSub, Nat.reduceMul, Nat.reduceMod, Nat.reducePow, Nat.reduceLT, Nat.reduceDiv, Int.reduceToNat, BitVec.reduceToNat, zipEnv, Int.reduceLE, Int.reduceLT, Int.reduceNeg, BitVec.reduceEq, Int.reduceAdd, Int.reduceSub, Int.reduceMul, Nat.reduceLeDiff, Int.reduceEq, hh]
    · rintro env rows ⟨x, hh, how, r0, r2⟩ R
      simp only [has] at hh
      have e16 : (bs t.chip).length = 16 := by rw [bs_len, hl]
      have hE : Am.elems rows (.sl L8 0 [0, 2] 0 16 true) = some (bs t.chip) := by
        simp only [Am.elems, r0]
        show some (List.take 16 ((bs t.chip).drop 0)) = _
        rw [List.drop_zero, List.take_of_length_le (by omega)]
      simp only [↓amD, amU, Nat.reduceBEq, Nat.reduceAdd, Nat.reduceSub, Nat.reduceMul, Nat.reduceMod, Nat.reducePow, Nat.reduceLT, Nat.reduceDiv, Int.reduceToNat, BitVec.reduceToNat, zipEnv, Int.reduceLE, Int.reduceLT, Int.reduceNeg, BitVec.reduceEq, Int.reduceAdd, Int.reduceSub, Int.reduceMul, Nat.reduceLeDiff, Int.reduceEq, lv_app0, lv_appk, set_app0, set_appk, List.append_assoc, List.append_nil, Nat.add_assoc, hh, r0, r2, hE, e16]
      have b16 : (bs (preL t 2)).length = 12 := rfl
      refine app_own how (by rw [e16, b16]; decide) (by rw [e16, b16]; decide) ?_
      intro x' r' how' _ _ _
      simp only [↓amD, amU, Nat.reduceBEq, Nat.reduceAdd, Nat.reduceSub, Nat.reduceMul, Nat.reduceMod, Nat.reducePow, Nat.reduceLT, Nat.reduceDiv, Int.reduceToNat, BitVec.reduceToNat, zipEnv, Int.reduceLE, Int.reduceLT, Int.reduceNeg, BitVec.reduceEq, Int.reduceAdd, Int.reduceSub, Int.reduceMul, Nat.reduceLeDiff, Int.reduceEq, hh, how'.nTup]
      have hb : bs (preL t 2) ++ bs t.chip = bs (bodyL t) := by rw [bs_app]; rfl
      have hn : (bs (bodyL t)).length = 28 := by rw [← hb, List.length_append, b16, e16]
      rw [hb] at how'
      rcases how' with ⟨h1, -⟩ | ⟨r2, ex2, rfl, hl2⟩
      · rw [h1] at hn; simp at hn
      · rw [hn]
        exact .ownT L8 r2 0 28 ex2 false ⟨L8, _⟩ [.raw (it 0)] hl2 rfl rfl (fun h => by cases h)
    · simp only [has, ↓amD, amU, Nat.reduceBEq, Nat.reduceAdd, Nat.reduceSub, Nat.reduceMul, Nat.reduceMod, Nat.reducePow, Nat.reduceLT, Nat.reduceDiv, Int.reduceToNat, BitVec.reduceToNat, zipEnv, Int.reduceLE, Int.reduceLT, Int.reduceNeg, BitVec.reduceEq, Int.reduceAdd, Int.reduceSub, Int.reduceMul, Nat.reduceLeDiff, Int.reduceEq]
noncomputable def fRefBody : Fn := fn1 (rdOf tokD) (fun t => t.ok && kindS t.kind) fun t => outBs (bodyL t) false
theorem num4k (k : Int) (h : kindS k = true) : numL 4 (BitVec.ofInt 64 k) = wordB (k32 k) := by
  have hk : k = 1 ∨ k = 2 ∨ k = 3 := by
    simp only [kindS, Bool.and_eq_true, decide_eq_true_eq] at h
    omega
  rcases hk with rfl | rfl | rfl <;> rfl
theorem kNum' (rows : Rows) (k : D → Rows → Prop) (n : BitVec 64) : kCall fNumS rows k [.raw (u64 n), .raw (it 4)] = k (.sl L8 (0 + rows.length) [] 0 4 false) (rows ++ [some ⟨L8, bs (numL 4 n)⟩]) := by
  refine (kCall_val rfl (fn2_eq (rd64_eq _) (rdI_eq _) rfl)).trans ?_
  rfl
end Job.Tk
end Go.Am
