/- contracts of four and of five arguments -/
import Derived.Test.YthnodpihpkcaeaaDoorRd
namespace Go.Am
set_option linter.unusedSimpArgs false
set_option linter.unusedVariables false
namespace Job
def gn4 {α β γ δ : Type} (r0 : D → Option α) (r1 : D → Option β) (r2 : D → Option γ) (r3 : D → Option δ) (pre : α → β → γ → δ → Bool) (out : α → β → γ → δ → D × Rows) : Fn
  | [d0, d1, d2, d3], [] => match r0 d0, r1 d1, r2 d2, r3 d3 with
    | some x0, some x1, some x2, some x3 => bif pre x0 x1 x2 x3 then some (out x0 x1 x2 x3) else none
    | _, _, _, _ => none
  | _, _ => none
theorem gn4_some {α β γ δ : Type} {r0 : D → Option α} {r1 : D → Option β} {r2 : D → Option γ} {r3 : D → Option δ} {pre : α → β → γ → δ → Bool} {out : α → β → γ → δ → D × Rows} {ds : List D} {rows : Rows} {r : D × Rows} (h : gn4 r0 r1 r2 r3 pre out ds rows = some r) :
    ∃ d0 d1 d2 d3 x0 x1 x2 x3, ds = [d0, d1, d2, d3] ∧ rows = [] ∧ r0 d0 = some x0 ∧ r1 d1 = some x1 ∧ r2 d2 = some x2 ∧ r3 d3 = some x3 ∧ pre x0 x1 x2 x3 = true ∧ r = out x0 x1 x2 x3 := by
  unfold gn4 at h
  split at h
  · rename_i d0 d1 d2 d3
    split at h
    · rename_i x0 x1 x2 x3 h0 h1 h2 h3
      cases hp : pre x0 x1 x2 x3 with
      | false => rw [hp] at h; cases h
      | true => rw [hp] at h; cases h; exact ⟨d0, d1, d2, d3, x0, x1, x2, x3, rfl, rfl, h0, h1, h2, h3, hp, rfl⟩
    · cases h
  · cases h
theorem gn4_eq {α β γ δ : Type} {r0 : D → Option α} {r1 : D → Option β} {r2 : D → Option γ} {r3 : D → Option δ} {pre : α → β → γ → δ → Bool} {out : α → β → γ → δ → D × Rows} {d0 d1 d2 d3 : D} {x0 : α} {x1 : β} {x2 : γ} {x3 : δ} (h0 : r0 d0 = some x0) (h1 : r1 d1 = some x1) (h2 : r2 d2 = some x2) (h3 : r3 d3 = some x3) (hp : pre x0 x1 x2 x3 = true) :
    gn4 r0 r1 r2 r3 pre out [d0, d1, d2, d3] [] = some (out x0 x1 x2 x3) := by
  simp [gn4, h0, h1, h2, h3, hp]
theorem kCall_g4 {α β γ δ : Type} {r0 : D → Option α} {r1 : D → Option β} {r2 : D → Option γ} {r3 : D → Option δ} {pre : α → β → γ → δ → Bool} {out : α → β → γ → δ → D × Rows} {rows : Rows} {d0 d1 d2 d3 : D} {x0 : α} {x1 : β} {x2 : γ} {x3 : δ} (h0 : RdIn rows r0 d0 x0) (h1 : RdIn rows r1 d1 x1) (h2 : RdIn rows r2 d2 x2) (h3 : RdIn rows r3 d3 x3) (hp : pre x0 x1 x2 x3 = true)
    (hr : (noLst (out x0 x1 x2 x3).1 && noLstRows (out x0 x1 x2 x3).2) = true) (k : D → Rows → Prop) :
    kCall (gn4 r0 r1 r2 r3 pre out) rows k [d0, d1, d2, d3] = k (shift rows.length (out x0 x1 x2 x3).1) (rows ++ shiftRows rows.length (out x0 x1 x2 x3).2) := by
  obtain ⟨⟨y0, a0, b0⟩, c0⟩ := h0
  obtain ⟨⟨y1, a1, b1⟩, c1⟩ := h1
  obtain ⟨⟨y2, a2, b2⟩, c2⟩ := h2
  obtain ⟨⟨y3, a3, b3⟩, c3⟩ := h3
  refine kCall_rd (ds' := [y0, y1, y2, y3]) (by simp only [mapO, a0, a1, a2, a3]) (gn4_eq b0 b1 b2 b3 hp) (fun hh => ?_) hr
  simp only [hasRefL, Bool.or_eq_false_iff, and_true] at hh
  exact gn4_eq (c0 hh.1) (c1 hh.2.1) (c2 hh.2.2.1) (c3 hh.2.2.2) hp
def gn5 {α β γ δ ε : Type} (r0 : D → Option α) (r1 : D → Option β) (r2 : D → Option γ) (r3 : D → Option δ) (r4 : D → Option ε) (pre : α → β → γ → δ → ε → Bool) (out : α → β → γ → δ → ε → D × Rows) : Fn
  | [d0, d1, d2, d3, d4], [] => match r0 d0, r1 d1, r2 d2, r3 d3, r4 d4 with
    | some x0, some x1, some x2, some x3, some x4 => bif pre x0 x1 x2 x3 x4 then some (out x0 x1 x2 x3 x4) else none
    | _, _, _, _, _ => none
  | _, _ => none
theorem gn5_some {α β γ δ ε : Type} {r0 : D → Option α} {r1 : D → Option β} {r2 : D → Option γ} {r3 : D → Option δ} {r4 : D → Option ε} {pre : α → β → γ → δ → ε → Bool} {out : α → β → γ → δ → ε → D × Rows} {ds : List D} {rows : Rows} {r : D × Rows} (h : gn5 r0 r1 r2 r3 r4 pre out ds rows = some r) :
    ∃ d0 d1 d2 d3 d4 x0 x1 x2 x3 x4, ds = [d0, d1, d2, d3, d4] ∧ rows = [] ∧ r0 d0 = some x0 ∧ r1 d1 = some x1 ∧ r2 d2 = some x2 ∧ r3 d3 = some x3 ∧ r4 d4 = some x4 ∧ pre x0 x1 x2 x3 x4 = true ∧ r = out x0 x1 x2 x3 x4 := by
  unfold gn5 at h
  split at h
  · rename_i d0 d1 d2 d3 d4
    split at h
    · rename_i x0 x1 x2 x3 x4 h0 h1 h2 h3 h4
      cases hp : pre x0 x1 x2 x3 x4 with
      | false => rw [hp] at h; cases h
      | true => rw [hp] at h; cases h; exact ⟨d0, d1, d2, d3, d4, x0, x1, x2, x3, x4, rfl, rfl, h0, h1, h2, h3, h4, hp, rfl⟩
    · cases h
  · cases h
theorem gn5_eq {α β γ δ ε : Type} {r0 : D → Option α} {r1 : D → Option β} {r2 : D → Option γ} {r3 : D → Option δ} {r4 : D → Option ε} {pre : α → β → γ → δ → ε → Bool} {out : α → β → γ → δ → ε → D × Rows} {d0 d1 d2 d3 d4 : D} {x0 : α} {x1 : β} {x2 : γ} {x3 : δ} {x4 : ε} (h0 : r0 d0 = some x0) (h1 : r1 d1 = some x1) (h2 : r2 d2 = some x2) (h3 : r3 d3 = some x3) (h4 : r4 d4 = some x4) (hp : pre x0 x1 x2 x3 x4 = true) :
    gn5 r0 r1 r2 r3 r4 pre out [d0, d1, d2, d3, d4] [] = some (out x0 x1 x2 x3 x4) := by
  simp [gn5, h0, h1, h2, h3, h4, hp]
theorem kCall_g5 {α β γ δ ε : Type} {r0 : D → Option α} {r1 : D → Option β} {r2 : D → Option γ} {r3 : D → Option δ} {r4 : D → Option ε} {pre : α → β → γ → δ → ε → Bool} {out : α → β → γ → δ → ε → D × Rows} {rows : Rows} {d0 d1 d2 d3 d4 : D} {x0 : α} {x1 : β} {x2 : γ} {x3 : δ} {x4 : ε} (h0 : RdIn rows r0 d0 x0) (h1 : RdIn rows r1 d1 x1) (h2 : RdIn rows r2 d2 x2) (h3 : RdIn rows r3 d3 x3) (h4 : RdIn rows r4 d4 x4) (hp : pre x0 x1 x2 x3 x4 = true)
    (hr : (noLst (out x0 x1 x2 x3 x4).1 && noLstRows (out x0 x1 x2 x3 x4).2) = true) (k : D → Rows → Prop) :
    kCall (gn5 r0 r1 r2 r3 r4 pre out) rows k [d0, d1, d2, d3, d4] = k (shift rows.length (out x0 x1 x2 x3 x4).1) (rows ++ shiftRows rows.length (out x0 x1 x2 x3 x4).2) := by
  obtain ⟨⟨y0, a0, b0⟩, c0⟩ := h0
  obtain ⟨⟨y1, a1, b1⟩, c1⟩ := h1
  obtain ⟨⟨y2, a2, b2⟩, c2⟩ := h2
  obtain ⟨⟨y3, a3, b3⟩, c3⟩ := h3
  obtain ⟨⟨y4, a4, b4⟩, c4⟩ := h4
  refine kCall_rd (ds' := [y0, y1, y2, y3, y4]) (by simp only [mapO, a0, a1, a2, a3, a4]) (gn5_eq b0 b1 b2 b3 b4 hp) (fun hh => ?_) hr
  simp only [hasRefL, Bool.or_eq_false_iff, and_true] at hh
  exact gn5_eq (c0 hh.1) (c1 hh.2.1) (c2 hh.2.2.1) (c3 hh.2.2.2.1) (c4 hh.2.2.2.2) hp
end Job
end Go.Am
