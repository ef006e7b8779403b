/- calls of contracts, whatever each argument is read as -/
import Derived.Test.YthnodpihpkcaeaaDoorShaB
namespace Go.Am
set_option linter.unusedSimpArgs false
set_option linter.unusedVariables false
namespace Job
/-- data that a callee reads so -/
def RdIn {α : Type} (rows : Rows) (rd : D → Option α) (d : D) (a : α) : Prop := (∃ d', view rows 9 d = some d' ∧ rd d' = some a) ∧ (hasRef d = false → rd d = some a)
theorem RdIn.raw {α : Type} {rows : Rows} {rd : D → Option α} {v : Value} {a : α} (h : rd (.raw v) = some a) : RdIn rows rd (.raw v) a := ⟨⟨_, rfl, h⟩, fun _ => h⟩
theorem RdIn.int {rows : Rows} (n : Int) : RdIn rows rdI (.raw (it n)) n := .raw (rdI_eq n)
theorem RdIn.agg {α : Type} {rows : Rows} {rd : D → Option α} {s : Sh} {l : List D} {a : α} (hs : s.pure = true) (h : rd (.agg s l) = some a) : RdIn rows rd (.agg s l) a := ⟨⟨.agg s l, by simp [view, hs], h⟩, fun _ => h⟩
theorem RdIn.bs {rows : Rows} {d : D} {l : List (BitVec 8)} (h : BsIn rows d l) : RdIn rows rdBs d l := by
  obtain ⟨⟨d', hd', hb⟩, hn⟩ := h
  exact ⟨⟨d', hd', hb.rd⟩, fun hh => (hn hh).rd⟩
theorem RdIn.parts {rows : Rows} {r n : Nat} {ex : Bool} {l : List D} {ls : List (List (BitVec 8))} (hl : live rows r = some ⟨.ref, l⟩) (hn : l.length = n)
    (hv : All2 (fun x y => BsIn rows x y) l ls) : RdIn rows rdBss (.sl .ref r [] 0 n ex) ls := by
  obtain ⟨l', h1, h2⟩ := view_parts hv
  have he : elems rows (.sl .ref r [] 0 n ex) = some l := by simp [elems, hl, ← hn]
  have hvw : view rows 9 (.sl .ref r [] 0 n ex) = some (.lst .ref l' ex) := by
    simp only [view, he, hn, beq_self_eq_true, Bool.not_true, cond_false, Sh.pure, h1]
  exact ⟨⟨_, hvw, by simpa [rdBss] using h2⟩, fun h => by simp [hasRef] at h⟩
theorem kCall_rd {A : Fn} {rows : Rows} {k : D → Rows → Prop} {ds ds' : List D} {r : D × Rows} (hv : mapO (view rows 9) ds = some ds') (hA : A ds' [] = some r) (hn : hasRefL ds = false → A ds [] = some r) (hr : (noLst r.1 && noLstRows r.2) = true) :
    kCall A rows k ds = k (shift rows.length r.1) (rows ++ shiftRows rows.length r.2) := by
  unfold kCall
  cases hh : hasRefL ds with
  | true => simp [bnd, hv, hA, hr]
  | false => simp [bnd, hn hh]
theorem kCall_rd1 {α : Type} {rd : D → Option α} {pre : α → Bool} {out : α → D × Rows} {rows : Rows} {d : D} {a : α} (h : RdIn rows rd d a) (hp : pre a = true) (hr : (noLst (out a).1 && noLstRows (out a).2) = true) (k : D → Rows → Prop) :
    kCall (fn1 rd pre out) rows k [d] = k (shift rows.length (out a).1) (rows ++ shiftRows rows.length (out a).2) := by
  obtain ⟨⟨x, hx, hx'⟩, hn⟩ := h
  refine kCall_rd (ds' := [x]) (by simp only [mapO, hx]) (fn1_eq hx' hp) (fun hh => ?_) hr
  simp only [hasRefL, Bool.or_eq_false_iff, and_true] at hh
  exact fn1_eq (hn hh) hp
theorem kCall_rd2 {α β : Type} {rd : D → Option α} {rd' : D → Option β} {pre : α → β → Bool} {out : α → β → D × Rows} {rows : Rows} {d e : D} {a : α} {b : β} (h : RdIn rows rd d a) (h' : RdIn rows rd' e b) (hp : pre a b = true)
    (hr : (noLst (out a b).1 && noLstRows (out a b).2) = true) (k : D → Rows → Prop) :
    kCall (fn2 rd rd' pre out) rows k [d, e] = k (shift rows.length (out a b).1) (rows ++ shiftRows rows.length (out a b).2) := by
  obtain ⟨⟨x, hx, hx'⟩, hn⟩ := h
  obtain ⟨⟨y, hy, hy'⟩, hm⟩ := h'
  refine kCall_rd (ds' := [x, y]) (by simp only [mapO, hx, hy]) (fn2_eq hx' hy' hp) (fun hh => ?_) hr
  simp only [hasRefL, Bool.or_eq_false_iff, and_true] at hh
  exact fn2_eq (hn hh.1) (hm hh.2) hp
theorem kCall_rd3 {α β γ : Type} {rd : D → Option α} {rd' : D → Option β} {rd2 : D → Option γ} {pre : α → β → γ → Bool} {out : α → β → γ → D × Rows} {rows : Rows} {d e f : D} {a : α} {b : β} {c : γ} (h : RdIn rows rd d a) (h' : RdIn rows rd' e b) (h2 : RdIn rows rd2 f c) (hp : pre a b c = true)
    (hr : (noLst (out a b c).1 && noLstRows (out a b c).2) = true) (k : D → Rows → Prop) :
    kCall (fn3 rd rd' rd2 pre out) rows k [d, e, f] = k (shift rows.length (out a b c).1) (rows ++ shiftRows rows.length (out a b c).2) := by
  obtain ⟨⟨x, hx, hx'⟩, hn⟩ := h
  obtain ⟨⟨y, hy, hy'⟩, hm⟩ := h'
  obtain ⟨⟨z, hz, hz'⟩, ho⟩ := h2
  refine kCall_rd (ds' := [x, y, z]) (by simp only [mapO, hx, hy, hz]) (by simp only [fn3_ev, hx', hy', hz', Option.bind_some, hp, cond_true]) (fun hh => ?_) hr
  simp only [hasRefL, Bool.or_eq_false_iff, and_true] at hh
  simp only [fn3_ev, hn hh.1, hm hh.2.1, ho hh.2.2, Option.bind_some, hp, cond_true]
end Job
end Go.Am
