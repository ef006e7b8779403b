/- rows of our own: appending, setting; calls with a slice and a number -/
import Derived.Test.YthnodpihpkcaeaaDoorR1
namespace Go.Am
set_option linter.unusedSimpArgs false
set_option linter.unusedVariables false
attribute [local congr] bnd_congr kCond_congr kGd_congr kPick_congr kCall_congr kIdx_congr kSlice_congr kLoop_congr cond_congr' aBin_congr aBounds_congr aApp_congr aCopy_congr kFn_congr
namespace Job
open Go.Am.F
set_option maxRecDepth 10000
theorem app_ownA {s : Sh} {d : D} {rows : Rows} {els news : List D} {bytes : Nat} {k : D → Rows → Prop} (h : Own s d rows els) (hb : (els.length + news.length) * bytes ≤ most) (hb2 : els.length + news.length ≤ most)
    (hk : ∀ rows', live rows' rows.length = some ⟨s, els ++ news⟩ → (∀ r x, live rows r = some x → (∀ ex n, d ≠ .sl s r [] 0 n ex) → live rows' r = some x) → rows'.length = rows.length + 1 → k (.sl s rows.length [] 0 (els.length + news.length) false) rows') : aApp rows s bytes d news k := by
  unfold aApp
  rw [h.elems, h.slen]
  refine ⟨h.sshape, rfl, hb, hb2, ?_⟩
  rcases h with ⟨rfl, rfl⟩ | ⟨r, ex, rfl, hl⟩
  · simp only [isNil, Bool.true_or, cond_true, kill]
    exact hk _ live_len (fun r x hx _ => live_push hx) (by simp)
  · simp only [isNil, owned, Bool.false_or, cond_true, kill]
    have h1 : (rows.set r none).length = rows.length := by simp
    refine hk _ (by rw [← h1]; exact live_len) (fun r' x hx hne => ?_) (by simp)
    have hr : r ≠ r' := fun e => hne ex _ (by rw [e])
    refine live_push ?_
    unfold live at hx ⊢
    rw [List.getElem?_set_ne hr]; exact hx
theorem live_set_eq {rows : Rows} {r : Nat} {x y : Row} (h : live rows r = some x) : live (rows.set r (some y)) r = some y := by
  have := live_lt h
  simp [live, this]
theorem live_set_o {rows : Rows} {r q : Nat} {x y : Row} (h : live rows r = some x) (hn : q ≠ r) : live (rows.set q (some y)) r = some x := by
  unfold live at h ⊢
  rw [List.getElem?_set_ne hn]; exact h
theorem own_neA {s s' : Sh} {d : D} {rows : Rows} {els els' : List D} {r : Nat} (h : Own s d rows els) (hl : live rows r = some ⟨s', els'⟩) (hs : s' ≠ s) : ∀ ex n, d ≠ .sl s r [] 0 n ex := by
  intro ex n e
  rcases h with ⟨-, rfl⟩ | ⟨r2, ex2, rfl, hl2⟩
  · cases e
  · injection e with _ e
    subst e
    rw [hl2] at hl
    injection hl with hl
    injection hl with h1 h2
    exact hs h1.symm
theorem own_fitsA {s : Sh} {d : D} {rows : Rows} {els : List D} (h : Own s d rows els) : D.fits d .ref = true := by
  rcases h with ⟨-, rfl⟩ | ⟨r, ex, rfl, -⟩ <;> rfl
theorem kCall_bs_raw {β : Type} {rd2 : D → Option β} {y : β} {pre : List (BitVec 8) → β → Bool} {out : List (BitVec 8) → β → D × Rows} {rows : Rows} {k : D → Rows → Prop} {d : D} {v : Value} {a : List (BitVec 8)} (h : BsIn rows d a) (h2 : rd2 (.raw v) = some y) (hp : pre a y = true)
    (hr : (noLst (out a y).1 && noLstRows (out a y).2) = true) : kCall (fn2 rdBs rd2 pre out) rows k [d, .raw v] = k (shift rows.length (out a y).1) (rows ++ shiftRows rows.length (out a y).2) := by
  obtain ⟨⟨d', hd', hb⟩, hn⟩ := h
  have hv : view rows 9 (.raw v) = some (.raw v) := rfl
  unfold kCall
  simp only [mapO, hd', hv, bnd, fn2_eq hb.rd h2 hp, hr, true_and]
  cases hh : hasRefL [d, .raw v] with
  | true => simp
  | false =>
    simp [hasRefL] at hh
    simp only [fn2_eq (hn hh.1).rd h2 hp]
    simp
theorem kCutI (rows : Rows) (k : D → Rows → Prop) (d : D) (p : List (BitVec 8)) (n : Int) (h : BsIn rows d p) (hp : p.length ≤ 9223372036854775807) (hp2 : (p.take n.toNat).length ≤ 1099511627776) : kCall fCut rows k [d, .raw (it n)] = k (.sl L8 (0 + rows.length) [] 0 (p.take n.toNat).length false) (rows ++ [some ⟨L8, bs (p.take n.toNat)⟩]) := by
  refine (kCall_bs_raw h (rdI_eq n) (by rw [Bool.and_eq_true, Nat.ble_eq, Nat.ble_eq]; exact ⟨hp, hp2⟩) rfl).trans ?_
  rfl
def fClone : Fn := fn1 rdBs (fun a => Nat.ble a.length most) fun a => outBs a false
theorem kClone (rows : Rows) (k : D → Rows → Prop) (d : D) (p : List (BitVec 8)) (h : BsIn rows d p) (hp : p.length ≤ 1099511627776) : kCall fClone rows k [d] = k (.sl L8 (0 + rows.length) [] 0 p.length false) (rows ++ [some ⟨L8, bs p⟩]) := by
  refine (kCall_bs1 h (by simpa [most] using hp) rfl).trans ?_
  rfl
end Job
end Go.Am
