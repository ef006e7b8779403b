/- Reading: what lies where. -/
import Derived.Test.YtloclegkilgglaaAm4
namespace Go.Am
set_option linter.unusedVariables false
set_option linter.unusedSimpArgs false

theorem All2.seg {α β : Type} {R : α → β → Prop} {pre m post : List α} {cur : List β} {N : Nat} (h : All2 R (pre ++ (m ++ post)) (cur.take N)) :
    All2 R m ((cur.drop pre.length).take m.length) ∧ pre.length + m.length ≤ cur.length := by
  have hl := h.len
  simp only [List.length_append, List.length_take] at hl
  have h1 := (h.drop pre.length).take m.length
  rw [List.drop_left, List.take_left] at h1
  refine ⟨?_, by omega⟩
  have : ((cur.take N).drop pre.length).take m.length = (cur.drop pre.length).take m.length := by
    rw [List.drop_take, List.take_take, Nat.min_eq_left (by omega)]
  rwa [this] at h1

theorem addr_add (b o j : Nat) : (⟨b, o, none⟩ : Addr).add j = ⟨b, o + j, none⟩ := by
  unfold Addr.add
  split
  · rename_i h; subst h; rfl
  · rfl

/-- cells behind a place -/
def At (w : World) (b o : Nat) (cs : List Value) : Prop := ∀ (j : Nat) (x : Value), cs[j]? = some x → w.cell? ⟨b, o + j, none⟩ = some x

theorem At.take {w : World} {b o : Nat} {cs : List Value} (h : At w b o cs) (n : Nat) : At w b o (cs.take n) := by
  intro j x hx
  rw [List.getElem?_take] at hx
  split at hx
  · exact h j x hx
  · cases hx
theorem At.drop {w : World} {b o : Nat} {cs : List Value} (h : At w b o cs) (n : Nat) : At w b (o + n) (cs.drop n) := by
  intro j x hx
  rw [List.getElem?_drop] at hx
  rw [Nat.add_assoc]
  exact h _ x hx

theorem at_row {w : World} {b o n : Nat} {cur : Array Value} {t : TypeId} (hg : RowAt w b cur t) : At w b o ((cur.toList.drop o).take n) := by
  obtain ⟨fr, hg, _⟩ := hg
  intro j x hx
  rw [List.getElem?_take] at hx
  split at hx
  · rw [List.getElem?_drop] at hx
    rw [cell_of_row w b (o + j) cur t fr hg]
    simpa using hx
  · cases hx

variable {C : Ctx} {P : Program} {n : Nat} {ρ : Pl} {T : Nat → Prop} {env : Env} {rows : Rows} {a : Act} {w : World}

/-- a variable of ours -/
theorem RowsOK.readPtr (h : RowsOK ρ rows w T) {s : Sh} {r : Nat} {p : List Nat} {v : Value} {row : Row} {d : D} (hv : LR ρ w T (.ptr s r p) v) (hl : live rows r = some row) (hg : rowGet row.els p = some d) :
    ∃ b o cs, v = .pointer (some ⟨b, o, none⟩) ∧ HasSh s d ∧ All2 (LR ρ w T) d.flat cs ∧ At w b o cs := by
  cases hv with
  | ptr _ _ _ L hL hp =>
    have hr := h.row r row L hl hL
    obtain ⟨cur, t, h1, h2, h3, h4⟩ := hr.cells
    cases p with
    | nil => simp [Loc.at] at hp
    | cons i p =>
      simp only [Loc.at, hr.sh] at hp
      obtain ⟨h5, h6, pre, post, h7, h8⟩ := rowGet_spec hr.els hp hg
      rw [h7] at h4
      have h9 := h4.seg
      refine ⟨L.b, L.off (i :: p), _, rfl, h5, h9.1, ?_⟩
      have he : L.off (i :: p) = pre.length := by simp [Loc.off, hr.sh, h8]
      rw [he]
      exact at_row h1

theorem lr_at {d : D} {ls : List D} {b o : Nat} {f : Nat → Value} (h1 : ∀ i d, ls[i]? = some d → w.cell? ⟨b, o + i, none⟩ = some (f i)) (h2 : ∀ i d, ls[i]? = some d → LR ρ w T d (f i)) :
    All2 (LR ρ w T) ls ((List.range ls.length).map f) ∧ At w b o ((List.range ls.length).map f) := by
  refine ⟨⟨by simp, fun i x y hx hy => ?_⟩, fun j x hx => ?_⟩
  · simp only [List.getElem?_map] at hy
    rw [List.getElem?_range (lt_of_get hx)] at hy
    simp at hy
    subst hy
    exact h2 i x hx
  · have hj := lt_of_get hx
    simp at hj
    simp only [List.getElem?_map, List.getElem?_range hj] at hx
    simp at hx
    subst hx
    exact h1 j _ (List.getElem?_eq_getElem hj)

/-- an immutable variable -/
theorem LR.readCptr {d : D} {v : Value} (hv : LR ρ w T (.cptr d) v) : ∃ b o cs s, v = .pointer (some ⟨b, o, none⟩) ∧ HasSh s d ∧ T b ∧ All2 (LR ρ w T) d.flat cs ∧ At w b o cs := by
  cases hv with
  | cptr s d b o f h1 hb h2 h3 => exact ⟨b, o, _, s, rfl, h1, hb, (lr_at (d := d) h2 h3).1, (lr_at (d := d) h2 h3).2⟩

/-- a part of an immutable variable -/
theorem LR.mkCptr {d : D} {b o : Nat} {cs : List Value} {s : Sh} (h1 : HasSh s d) (hb : T b) (h2 : All2 (LR ρ w T) d.flat cs) (h3 : At w b o cs) : LR ρ w T (.cptr d) (.pointer (some ⟨b, o, none⟩)) := by
  refine .cptr s d b o (fun i => cs.getD i undef) h1 hb (fun i x hx => ?_) (fun i x hx => ?_)
  · obtain ⟨y, hy, _⟩ := h2.some hx
    rw [h3 i y hy]
    simp [List.getD, hy]
  · obtain ⟨y, hy, hr⟩ := h2.some hx
    simpa [List.getD, hy] using hr
theorem LR.mkLst {l : List D} {b o cap : Nat} {cs : List Value} {s : Sh} {ex : Bool} (h1 : ∀ d ∈ l, HasSh s d) (hb : T b) (h2 : All2 (LR ρ w T) (flatL l) cs) (h3 : At w b o cs)
    (h4 : l.length ≤ cap) (h5 : ex = true → cap = l.length) : LR ρ w T (.lst s l ex) (.slice (some ⟨b, o, none⟩) l.length cap) := by
  refine .lst s l ex b o cap (fun i => cs.getD i undef) h1 hb (fun i x hx => ?_) (fun i x hx => ?_) h4 h5
  · obtain ⟨y, hy, _⟩ := h2.some hx
    rw [h3 i y hy]
    simp [List.getD, hy]
  · obtain ⟨y, hy, hr⟩ := h2.some hx
    simpa [List.getD, hy] using hr

theorem flatL_zero {s : Sh} {l : List D} (h : ∀ d ∈ l, HasSh s d) (h0 : l.length = 0) : flatL l = [] := by
  have : l = [] := List.eq_nil_of_length_eq_zero h0
  subst this
  simp [flatL]

/-- a block of immutable data, or of a row of ours -/
def Blk (ρ : Pl) (T : Nat → Prop) (rows : Rows) (b : Nat) : Prop := T b ∨ ∃ r row L, live rows r = some row ∧ ρ r = some L ∧ L.b = b

/-- what a slice holds -/
structure Holds (rows : Rows) (ρ : Pl) (w : World) (T : Nat → Prop) (s : Sh) (l : List D) (v : Value) (k : Nat) (ad : Option Addr) (cap : Nat) (cs : List Value) : Prop where
  hv : v = .slice ad k cap
  els : ∀ d ∈ l, HasSh s d
  len : l.length = k
  hcap : k ≤ cap
  hcs : All2 (LR ρ w T) (flatL l) cs
  at_ : ∀ (j : Nat) (x : Value), cs[j]? = some x → ∃ b o, ad = some ⟨b, o, none⟩ ∧ w.cell? ⟨b, o + j, none⟩ = some x
  nil : ad = none → cap = 0
  adr : k ≠ 0 → ∃ b o, ad = some ⟨b, o, none⟩ ∧ Blk ρ T rows b

theorem flatL_part {s : Sh} {l : List D} {off len : Nat} (h : ∀ d ∈ l, HasSh s d) (hl : off + len ≤ l.length) :
    ∃ pre post, flatL l = pre ++ (flatL ((l.drop off).take len) ++ post) ∧ pre.length = off * s.size := by
  refine ⟨flatL (l.take off), flatL ((l.drop off).drop len), ?_, ?_⟩
  · rw [← flatL_append, List.take_append_drop, ← flatL_append, List.take_append_drop]
  · rw [flatL_len_all (fun d hd => h d (List.mem_of_mem_take hd)), List.length_take, Nat.min_eq_left (by omega)]

theorem RowsOK.holds (h : RowsOK ρ rows w T) {s : Sh} {d : D} {v : Value} {l : List D} {k : Nat} (hv : LR ρ w T d v) (he : elems rows d = some l) (hk : slen d = some k) (hlk : l.length = k) (hs : sshape s d = true) :
    ∃ ad cap cs, Holds rows ρ w T s l v k ad cap cs := by
  cases hv with
  | raw v hv =>
    cases v with
    | slice a len cap =>
      cases a <;> cases len <;> cases cap <;> simp [elems, slen] at he hk
      subst he; subst hk
      exact ⟨none, 0, [], rfl, by simp, rfl, Nat.le_refl _, by simpa [flatL] using All2.nil, by simp, fun _ => rfl, by simp⟩
    | _ => simp [elems] at he
  | ptr _ _ _ _ _ _ => simp [elems] at he
  | cptr _ _ _ _ _ _ _ _ _ => simp [elems] at he
  | aptr _ _ _ _ _ _ _ _ => simp [elems] at he
  | slz t r p off ex ad =>
    simp [slen] at hk
    subst hk
    have hnil : l = [] := List.eq_nil_of_length_eq_zero hlk
    subst hnil
    exact ⟨ad, 0, [], rfl, by simp, rfl, Nat.le_refl _, by simpa [flatL] using All2.nil, by simp, fun _ => rfl, by simp⟩
  | lst0 t ex ad cap h1 h2 =>
    simp [elems, slen] at he hk
    subst he; subst hk
    exact ⟨ad, cap, [], rfl, by simp, rfl, by omega, by simpa [flatL] using All2.nil, by simp, h2, by simp⟩
  | lst t l' ex b o cap f h1 hb h2 h3 h4 h5 =>
    simp [elems, slen] at he hk
    subst he; subst hk
    simp [sshape] at hs
    subst hs
    obtain ⟨h6, h7⟩ := lr_at (d := default) h2 h3
    exact ⟨some ⟨b, o, none⟩, cap, _, rfl, h1, rfl, h4, h6, fun j x hx => ⟨b, o, rfl, h7 j x hx⟩, by simp, fun _ => ⟨b, o, rfl, .inl hb⟩⟩
  | sl t r p off len ex L cap hL h1 h2 h3 =>
    simp [slen] at hk
    subst hk
    simp [sshape] at hs
    subst hs
    cases p with
    | nil =>
      simp only [elems] at he
      cases hl : live rows r with
      | none => simp [hl] at he
      | some row =>
        simp [hl] at he
        subst he
        have hr := h.row r row L hl hL
        obtain ⟨cur, t', g1, g2, g3, g4⟩ := hr.cells
        have hsh : s = row.sh := by
          rcases h3 with ⟨_, h3, _⟩ | ⟨n, h3, _⟩
          · rw [h3, hr.sh]
          · simp [Loc.at] at h3
        subst hsh
        have hels : ∀ d ∈ (row.els.drop off).take len, HasSh row.sh d := fun d hd => hr.els d (List.mem_of_mem_drop (List.mem_of_mem_take hd))
        by_cases hz : len = 0
        · subst hz
          exact ⟨_, cap, [], rfl, hels, hlk, h1, by simpa [flatL] using All2.nil, by simp, by simp, by simp⟩
        · simp only [List.length_take, List.length_drop] at hlk
          obtain ⟨pre, post, g5, g6⟩ := flatL_part (off := off) (len := len) hr.els (by omega)
          rw [g5] at g4
          have g7 := g4.seg
          refine ⟨_, cap, _, rfl, hels, by simp; omega, h1, g7.1, fun j x hx => ⟨L.b, _, rfl, ?_⟩, by simp, fun _ => ⟨L.b, _, rfl, .inr ⟨r, row, L, hl, hL, rfl⟩⟩⟩
          have := at_row (o := pre.length) (n := (flatL ((row.els.drop off).take len)).length) g1 j x hx
          simpa [Loc.off, g6] using this
    | cons i p =>
      simp only [elems] at he
      cases hl : live rows r with
      | none => simp [hl] at he
      | some row =>
        simp only [hl] at he
        have hr := h.row r row L hl hL
        obtain ⟨cur, t', g1, g2, g3, g4⟩ := hr.cells
        rcases h3 with ⟨h3, _⟩ | ⟨m, h3, h4⟩
        · simp at h3
        · simp only [Loc.at, hr.sh] at h3
          cases hg : rowGet row.els (i :: p) with
          | none => simp [hg] at he
          | some d =>
            obtain ⟨g5, g6, pre, post, g7, g8⟩ := rowGet_spec hr.els h3 hg
            obtain ⟨l', rfl, hl', hsub⟩ := g5.aggOf rfl
            simp [hg] at he
            subst he
            have hall : ∀ d ∈ l', HasSh s d := by
              intro d hd
              obtain ⟨q, hq, rfl⟩ := List.mem_iff_getElem.1 hd
              exact hsub q s _ (by simp [Sh.sub]; simp [Sh.count] at hl'; omega) (List.getElem?_eq_getElem hq)
            have hels : ∀ d ∈ (l'.drop off).take len, HasSh s d := fun d hd => hall d (List.mem_of_mem_drop (List.mem_of_mem_take hd))
            by_cases hz : len = 0
            · subst hz
              exact ⟨_, cap, [], rfl, hels, hlk, h1, by simpa [flatL] using All2.nil, by simp, by simp, by simp⟩
            · simp only [List.length_take, List.length_drop] at hlk
              obtain ⟨pre2, post2, g9, g10⟩ := flatL_part (off := off) (len := len) hall (by omega)
              simp only [D.flat] at g7
              rw [g7, g9] at g4
              have e : pre ++ (pre2 ++ (flatL ((l'.drop off).take len) ++ post2) ++ post) = (pre ++ pre2) ++ (flatL ((l'.drop off).take len) ++ (post2 ++ post)) := by simp
              rw [e] at g4
              have g11 := g4.seg
              refine ⟨_, cap, _, rfl, hels, by simp; omega, h1, g11.1, fun j x hx => ⟨L.b, _, rfl, ?_⟩, by simp, fun _ => ⟨L.b, _, rfl, .inr ⟨r, row, L, hl, hL, rfl⟩⟩⟩
              have := at_row (o := (pre ++ pre2).length) (n := (flatL ((l'.drop off).take len)).length) g1 j x hx
              simpa [Loc.off, hr.sh, g8, g10] using this

/-- the first cells of a slice -/
theorem Holds.first {s : Sh} {l : List D} {v : Value} {k cap : Nat} {ad : Option Addr} {cs : List Value} (h : Holds rows ρ w T s l v k ad cap cs) {w' : World} (hw : w'.heap = w.heap) (m : Nat) (hm : m ≤ k) :
    (Builtin.firstCells s.size m v).run P w' = .ok (cs.take (m * s.size)).toArray w' := by
  have hl : cs.length = k * s.size := by rw [← h.hcs.len, flatL_len_all h.els, h.len]
  have hlt : (cs.take (m * s.size)).length = m * s.size := by
    rw [List.length_take, hl]
    exact Nat.min_eq_left (Nat.mul_le_mul_right _ hm)
  have hcell : ∀ ad, w'.cell? ad = w.cell? ad := fun ad => World.cell?_of_block (by rw [hw])
  rw [h.hv]
  cases had : ad with
  | none =>
    have hk := h.nil had
    have hc0 := h.hcap
    have hm0 : m = 0 := by omega
    subst hm0
    simp [Builtin.firstCells]
  | some x =>
    refine run_firstCells_some (P := P) w' s.size m x k cap _ hlt fun j u hu => ?_
    rw [List.getElem?_take] at hu
    split at hu
    · obtain ⟨b, o, h1, h2⟩ := h.at_ j u hu
      rw [had] at h1
      cases h1
      rw [addr_add, hcell]
      exact h2
    · cases hu

theorem Holds.csLen {s : Sh} {l : List D} {v : Value} {k cap : Nat} {ad : Option Addr} {cs : List Value} (h : Holds rows ρ w T s l v k ad cap cs) : cs.length = k * s.size := by
  rw [← h.hcs.len, flatL_len_all h.els, h.len]

theorem run_storeCells_row (P : Program) (g o : Nat) (t : TypeId) : ∀ (vs : List Value) (i : Nat) (cur : Array Value) (w : World), RowAt w g cur t → o + i + vs.length ≤ cur.size → (∀ v ∈ vs, v.oneCell' = true) →
    (storeCells ⟨g, o, none⟩ vs i).run P w = .ok () (w.setRow g (cur.toList.take (o + i) ++ vs ++ cur.toList.drop (o + i + vs.length)).toArray)
  | [], i, cur, w, hg, _, _ => by
    obtain ⟨fr, hg, _⟩ := hg
    simp only [storeCells, List.append_nil, List.length_nil, Nat.add_zero, List.take_append_drop, Array.toArray_toList]
    rw [setRow_self w g cur t fr hg]
    rfl
  | v :: rest, i, cur, w, hg, hl, h1 => by
    have hi : o + i < cur.size := by simp at hl; omega
    obtain ⟨fr, hg0, hfr⟩ := hg
    have hadd : (⟨g, o, none⟩ : Addr).add i = ⟨g, o + i, none⟩ := by unfold Addr.add; split <;> simp_all
    have hcell : w.cell? ⟨g, o + i, none⟩ = some cur[o + i] := by simp [World.cell?, hg0, hi]
    have hfro : w.frozen? ⟨g, o + i, none⟩ = false := hfr.not hg0 hi
    have hst : (store ((⟨g, o, none⟩ : Addr).add i) v).run P w = .ok () (w.setRow g (cur.setIfInBounds (o + i) v)) := by
      rw [hadd, run_store P w _ v _ (h1 v (by simp)), hcell]
      simp [hfro, setCell_eq_setRow w g (o + i) cur t fr v hg0]
    have ih := run_storeCells_row P g o t rest (i + 1) (cur.setIfInBounds (o + i) v) (w.setRow g (cur.setIfInBounds (o + i) v)) (RowAt.setRow ⟨fr, hg0, hfr⟩ (by simp)) (by simp at hl ⊢; omega) (fun x hx => h1 x (by simp [hx]))
    simp only [storeCells, Sem.run_bind, hst, Result.andThen_ok, ih, setRow_setRow]
    congr 3
    have e := list_seg_step cur.toList (o + i) v rest (by simp at hl ⊢; omega)
    simpa [Array.toList_setIfInBounds, Nat.add_assoc] using e

end Go.Am
