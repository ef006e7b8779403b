/- SHA-256: calls with parts; the document's example -/
import Derived.Test.YtbipaoihfpklgaaDoorSha9
namespace Go.Am
set_option linter.unusedSimpArgs false
set_option linter.unusedVariables false
attribute [local congr] bnd_congr kCond_congr kGd_congr kPick_congr kCall_congr kIdx_congr kSlice_congr kLoop_congr cond_congr' aBin_congr aBounds_congr aApp_congr aCopy_congr kFn_congr
namespace Job
open Go.Am.F
set_option maxRecDepth 10000
theorem view8 {rows : Rows} {x : D} {y : List (BitVec 8)} (h : BsIn rows x y) : ∃ x', view rows 8 x = some x' ∧ IsBs x' y := by
  obtain ⟨⟨d', h1, h2⟩, -⟩ := h
  have key : view rows 8 x = some d' := by
    cases x with
    | raw v => exact h1
    | sl s r p off len e =>
      simp only [view] at h1 ⊢
      cases he : elems rows (.sl s r p off len e) with
      | none => rw [he] at h1; cases h1
      | some l =>
        rw [he] at h1
        simp only at h1 ⊢
        cases hl : (!(l.length == len)) with
        | true => rw [hl] at h1; cases h1
        | false =>
          rw [hl] at h1
          cases hp : s.pure with
          | true => rw [hp] at h1; exact h1
          | false =>
            rw [hp] at h1
            simp only [cond_false] at h1
            split at h1
            · cases h1
              rcases h2 with ⟨h, _⟩ | ⟨e2, h⟩
              · cases h
              · injection h with hs; subst hs; cases hp
            · cases h1
    | lst s l e =>
      simp only [view] at h1 ⊢
      cases hp : s.pure with
      | true => rw [hp] at h1; exact h1
      | false =>
        rw [hp] at h1
        simp only [cond_false] at h1
        split at h1
        · cases h1
          rcases h2 with ⟨h, _⟩ | ⟨e2, h⟩
          · cases h
          · injection h with hs; subst hs; cases hp
        · cases h1
    | ptr s r p =>
      simp only [view] at h1
      split at h1
      · split at h1
        · cases hp : s.pure <;> rw [hp] at h1
          · simp only [cond_false] at h1
            split at h1
            · cases h1; rcases h2 with ⟨h, _⟩ | ⟨e2, h⟩ <;> cases h
            · cases h1
          · cases h1; rcases h2 with ⟨h, _⟩ | ⟨e2, h⟩ <;> cases h
        · cases h1
      · cases h1
    | agg s l =>
      simp only [view] at h1
      cases hp : s.pure <;> rw [hp] at h1
      · simp only [cond_false] at h1
        split at h1
        · cases h1; rcases h2 with ⟨h, _⟩ | ⟨e2, h⟩ <;> cases h
        · cases h1
      · cases h1; rcases h2 with ⟨h, _⟩ | ⟨e2, h⟩ <;> cases h
    | aptr => simp [view] at h1
    | cptr => simp [view] at h1
    | tup => simp [view] at h1
  exact ⟨d', key, h2⟩
theorem view_parts {rows : Rows} : ∀ {l : List D} {ls : List (List (BitVec 8))}, All2 (fun x y => BsIn rows x y) l ls → ∃ l', mapO (view rows 8) l = some l' ∧ mapO rdBs l' = some ls := by
  intro l
  induction l with
  | nil =>
    intro ls h
    have : ls = [] := List.eq_nil_of_length_eq_zero h.len.symm
    subst this
    exact ⟨[], rfl, rfl⟩
  | cons x l ih =>
    intro ls h
    match ls, h.len with
    | y :: ls, _ =>
      obtain ⟨x', h1, h2⟩ := view8 h.head
      obtain ⟨l', h3, h4⟩ := ih h.tail
      exact ⟨x' :: l', by simp only [mapO, h1, h3], by simp only [mapO, h2.rd, h4]⟩
theorem kCall_parts {pre : List (List (BitVec 8)) → Bool} {out : List (List (BitVec 8)) → D × Rows} {rows : Rows} {k : D → Rows → Prop} {r n : Nat} {ex : Bool} {l : List D} {ls : List (List (BitVec 8))} (hl : live rows r = some ⟨.ref, l⟩) (hn : l.length = n)
    (hv : All2 (fun x y => BsIn rows x y) l ls) (hp : pre ls = true) (hr : (noLst (out ls).1 && noLstRows (out ls).2) = true) : kCall (fn1 rdBss pre out) rows k [.sl .ref r [] 0 n ex] = k (shift rows.length (out ls).1) (rows ++ shiftRows rows.length (out ls).2) := by
  obtain ⟨l', h1, h2⟩ := view_parts hv
  have he : elems rows (.sl .ref r [] 0 n ex) = some l := by simp [elems, hl, ← hn]
  have hvw : view rows 9 (.sl .ref r [] 0 n ex) = some (.lst .ref l' ex) := by
    simp only [view, he, hn, beq_self_eq_true, Bool.not_true, cond_false, Sh.pure, h1]
  refine view_nonref1 (fun d2 hd2 => ?_) ⟨_, hvw⟩ (fun hh => by simp [hasRef] at hh) hr
  rw [hvw] at hd2
  cases hd2
  exact fn1_eq (by simpa [rdBss] using h2) hp
theorem kSum (rows : Rows) (k : D → Rows → Prop) (r n : Nat) (ex : Bool) (l : List D) (ls : List (List (BitVec 8))) (hl : live rows r = some ⟨.ref, l⟩) (hn : l.length = n)
    (hv : All2 (fun x y => BsIn rows x y) l ls) (hp : ls.length ≤ 1099511627776) (hp2 : ls.flatten.length ≤ 1099511627776) : kCall fSum rows k [.sl .ref r [] 0 n ex] = k (.agg (.ar 32 L8) (bs (sumS ls.flatten))) rows := by
  refine (kCall_parts hl hn hv (by simp only [Bool.and_eq_true, Nat.ble_eq]; exact ⟨hp, hp2⟩) (by simp [d32D, noLst, noLstRows, Sh.pure])).trans ?_
  simp [d32D, shift, shiftRows, Sh.pure]
theorem kJoin (rows : Rows) (k : D → Rows → Prop) (r n : Nat) (ex : Bool) (l : List D) (ls : List (List (BitVec 8))) (hl : live rows r = some ⟨.ref, l⟩) (hn : l.length = n)
    (hv : All2 (fun x y => BsIn rows x y) l ls) (hp : ls.length ≤ 1099511627776) (hp2 : ls.flatten.length ≤ 1099511627776) : kCall fJoin rows k [.sl .ref r [] 0 n ex] = k (.sl L8 (0 + rows.length) [] 0 ls.flatten.length false) (rows ++ [some ⟨L8, bs ls.flatten⟩]) := by
  refine (kCall_parts hl hn hv (by simp only [Bool.and_eq_true, Nat.ble_eq]; exact ⟨hp, hp2⟩) (by simp [outBs, noLst, noLstRows, Sh.pure])).trans ?_
  simp [outBs, shift, shiftRows, Sh.pure]
theorem kRSum (rows : Rows) (k : D → Rows → Prop) (d : D) (p : List (BitVec 8)) (h : BsIn rows d p) (hp : p.length ≤ 1099511627000) : kCall fRSum rows k [d] = k (.agg (.ar 32 L8) (bs (sumS p))) rows := by
  refine (kCall_bs1 h (by simpa using hp) (by simp [d32D, noLst, noLstRows, Sh.pure])).trans ?_
  simp [d32D, shift, shiftRows, Sh.pure]
theorem eqL_bs (l : List (BitVec 8)) : eqL (bs l) (bs l) = some true := by
  induction l with
  | nil => rfl
  | cons b l ih =>
    have e1 : eqD (.raw (u8 b)) (.raw (u8 b)) = some true := by simp [eqD, eqLeaf, u8]
    show eqL (.raw (u8 b) :: bs l) (.raw (u8 b) :: bs l) = _
    rw [eL_c, e1, ih]; rfl
theorem eqL_us (l : List (BitVec 32)) : eqL (us l) (us l) = some true := by
  induction l with
  | nil => rfl
  | cons b l ih =>
    have e1 : eqD (.raw (u32 b)) (.raw (u32 b)) = some true := by simp [eqD, eqLeaf, u32]
    show eqL (.raw (u32 b) :: us l) (.raw (u32 b) :: us l) = _
    rw [eL_c, e1, ih]; rfl
theorem eqA_st (s : St) : eqA S2 (stD s) (stD s) = some true := by
  simp [eqA, stD, eqL, eqD, eqLeaf, u64, eqL_bs, eqL_us]
theorem st_fits (s : St) : D.fits (stD s) S2 = true := by simp [stD, D.fits]
theorem sumSt_len (s : St) (h : s.ok = true) : (sumSt s).length = 32 := by
  rw [sumSt, digS_len, (st_ok (feed_ok _ _ h)).1]
theorem sumS_len (p : List (BitVec 8)) : (sumS p).length = 32 := sumSt_len _ (feed_ok _ _ st0_ok)
def fAwake : Fn
  | [], [] => some (.raw (.bool true), [])
  | _, _ => none
theorem kAwake (rows : Rows) (k : D → Rows → Prop) : kCall fAwake rows k [] = k (.raw (.bool true)) rows := by
  refine (kCall_val rfl (r := (.raw (.bool true), [])) rfl).trans ?_
  simp [shift, shiftRows]
set_option maxRecDepth 1000000 in
theorem abc : sumS [97#8, 98#8, 99#8] = [0xba#8, 0x78#8, 0x16#8, 0xbf#8, 0x8f#8, 0x01#8, 0xcf#8, 0xea#8, 0x41#8, 0x41#8, 0x40#8, 0xde#8, 0x5d#8, 0xae#8, 0x22#8, 0x23#8, 0xb0#8, 0x03#8, 0x61#8, 0xa3#8, 0x96#8, 0x17#8, 0x7a#8, 0x9c#8, 0xb4#8, 0x10#8, 0xff#8, 0x61#8, 0xf2#8, 0x00#8, 0x15#8, 0xad#8] := by
  kernel_rfl
end Job
end Go.Am
