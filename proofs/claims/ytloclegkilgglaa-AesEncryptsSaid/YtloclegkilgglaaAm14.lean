/- Calls: what is handed over, and what comes back. -/
import Derived.Test.YtloclegkilgglaaAm13
namespace Go.Am
set_option linter.unusedVariables false
set_option linter.unusedSimpArgs false

variable {C : Ctx} {P : Program} {n : Nat} {ρ : Pl} {T : Nat → Prop} {env : Env} {rows : Rows} {a : Act} {w : World}

def noPl : Pl := fun _ => none

theorem pure_flat {s : Sh} {d : D} (h : HasSh s d) (hp : s.pure = true) : ∀ x ∈ d.flat, ∃ v, x = .raw v := by
  induction h with
  | leaf k v hv => intro x hx; simp [D.flat] at hx; exact ⟨v, hx⟩
  | ref d hd => simp [Sh.pure] at hp
  | agg s l ha hl hsub ih =>
    intro x hx
    simp only [D.flat] at hx
    have key : ∀ (s : Sh) (l : List D), s.isAgg = true → s.pure = true → l.length = s.count → (∀ i e d, s.sub i = some e → l[i]? = some d → e.pure = true → ∀ x ∈ d.flat, ∃ v, x = .raw v) → ∀ x ∈ flatL l, ∃ v, x = .raw v := by
      intro s
      induction s with
      | leaf _ => intro l h; simp [Sh.isAgg] at h
      | ref => intro l h; simp [Sh.isAgg] at h
      | nil => intro l _ _ hl _ x hx; simp [Sh.count] at hl; subst hl; simp [flatL] at hx
      | cons a b _ ihb =>
        intro l ha hp hl h x hx
        cases l with
        | nil => simp [flatL] at hx
        | cons d l =>
          simp only [Sh.pure, Bool.and_eq_true] at hp
          simp only [flatL, List.mem_append] at hx
          rcases hx with hx | hx
          · exact h 0 a d rfl rfl hp.1 x hx
          · exact ihb l (by simpa [Sh.isAgg] using ha) hp.2 (by simpa [Sh.count] using hl) (fun i e d' h1 h2 => h (i + 1) e d' (by simpa [Sh.sub] using h1) (by simpa using h2)) x hx
      | ar m e _ =>
        intro l _ hp hl h x hx
        simp [Sh.count] at hl
        clear ih
        have : ∀ (l : List D) (k : Nat), (∀ (i : Nat) (d : D), l[i]? = some d → ∀ x ∈ d.flat, ∃ v, x = D.raw v) → ∀ x ∈ flatL l, ∃ v, x = D.raw v := by
          intro l
          induction l with
          | nil => intro _ _ x hx; simp [flatL] at hx
          | cons d l ih =>
            intro k h x hx
            simp only [flatL, List.mem_append] at hx
            rcases hx with hx | hx
            · exact h 0 d rfl x hx
            · exact ih k (fun i d' hd' => h (i + 1) d' (by simpa using hd')) x hx
        exact this l 0 (fun i d hd => h i e d (by simp [Sh.sub]; have := lt_of_get hd; omega) hd (by simpa [Sh.pure] using hp)) x hx
    exact key s l ha hp hl (fun i e d h1 h2 h3 => ih i e d h1 h2 h3) x hx

theorem pure_flatL {s : Sh} {l : List D} (h : ∀ d ∈ l, HasSh s d) (hp : s.pure = true) : ∀ x ∈ flatL l, ∃ v, x = .raw v := by
  induction l with
  | nil => intro x hx; simp [flatL] at hx
  | cons d l ih =>
    intro x hx
    simp only [flatL, List.mem_append] at hx
    rcases hx with hx | hx
    · exact pure_flat (h d (by simp)) hp x hx
    · exact ih (fun e he => h e (by simp [he])) x hx

theorem LR.ofRaw {ρ' : Pl} {w' : World} {T' : Nat → Prop} {d : D} {v : Value} (h : LR ρ w T d v) (hr : ∃ x, d = .raw x) : LR ρ' w' T' d v := by
  obtain ⟨x, rfl⟩ := hr
  cases h
  rename_i h
  exact .raw _ h

theorem All2.ofRaw {ρ' : Pl} {w' : World} {T' : Nat → Prop} {l : List D} {cs : List Value} (h : All2 (LR ρ w T) l cs) (hr : ∀ x ∈ l, ∃ v, x = .raw v) : All2 (LR ρ' w' T') l cs :=
  ⟨h.len, fun i x y hx hy => (h.at_ i x y hx hy).ofRaw (hr x (mem_of_get hx))⟩

/-- data without addresses of rows -/
theorem hasRefL_mem : ∀ {l : List D}, hasRefL l = false → ∀ d ∈ l, hasRef d = false
  | [], _, d, hd => by simp at hd
  | x :: l, h, d, hd => by
    simp [hasRefL] at h
    rcases List.mem_cons.1 hd with rfl | hd
    · exact h.1
    · exact hasRefL_mem h.2 d hd

theorem hasRef_flat {s : Sh} {d : D} (h : HasSh s d) (hr : hasRef d = false) : ∀ x ∈ d.flat, hasRef x = false := by
  induction h with
  | leaf k v hv => intro x hx; simp [D.flat] at hx; subst hx; rfl
  | ref d hd => rw [leaf_flat hd]; intro x hx; simp at hx; subst hx; exact hr
  | agg s l ha hl hsub ih =>
    simp only [hasRef] at hr
    cases hp : s.pure with
    | true =>
      intro x hx
      obtain ⟨v, rfl⟩ := pure_flat (HasSh.agg s l ha hl hsub) hp x hx
      rfl
    | false =>
      simp [hp] at hr
      intro x hx
      simp only [D.flat] at hx
      have hm := hasRefL_mem hr
      have : ∀ (l : List D), (∀ d ∈ l, ∀ x ∈ d.flat, hasRef x = false) → ∀ x ∈ flatL l, hasRef x = false := by
        intro l
        induction l with
        | nil => intro _ x hx; simp [flatL] at hx
        | cons d l ih =>
          intro h x hx
          simp only [flatL, List.mem_append] at hx
          rcases hx with hx | hx
          · exact h d (by simp) x hx
          · exact ih (fun e he => h e (by simp [he])) x hx
      refine this l (fun d hd => ?_) x hx
      obtain ⟨i, hi, rfl⟩ := List.mem_iff_getElem.1 hd
      obtain ⟨e, he⟩ := count_sub (s := s) (i := i) (by omega)
      exact ih i e _ he (List.getElem?_eq_getElem hi) (hm _ hd)

theorem hasRef_flatL {s : Sh} {l : List D} (h : ∀ d ∈ l, HasSh s d) (hr : hasRefL l = false) : ∀ x ∈ flatL l, hasRef x = false := by
  induction l with
  | nil => intro x hx; simp [flatL] at hx
  | cons d l ih =>
    simp [hasRefL] at hr
    intro x hx
    simp only [flatL, List.mem_append] at hx
    rcases hx with hx | hx
    · exact hasRef_flat (h d (by simp)) hr.1 x hx
    · exact ih (fun e he => h e (by simp [he])) hr.2 x hx

theorem LR.closed {d : D} {v : Value} (h : LR ρ w T d v) (hr : hasRef d = false) : LR noPl w T d v := by
  induction h with
  | raw v hv => exact .raw v hv
  | ptr => simp [hasRef] at hr
  | sl => simp [hasRef] at hr
  | slz => simp [hasRef] at hr
  | aptr => simp [hasRef] at hr
  | lst0 s ex a cap h1 h2 => exact .lst0 s ex a cap h1 h2
  | lst s l ex b o cap f h1 hb h2 h3 h4 h5 ih =>
    refine .lst s l ex b o cap f h1 hb h2 (fun i d hd => ?_) h4 h5
    simp only [hasRef] at hr
    cases hp : s.pure with
    | true => exact (h3 i d hd).ofRaw (pure_flatL h1 hp d (mem_of_get hd))
    | false =>
      simp [hp] at hr
      exact ih i d hd (hasRef_flatL h1 hr d (mem_of_get hd))
  | cptr s d b o f h1 hb h2 h3 ih =>
    simp only [hasRef] at hr
    exact .cptr s d b o f h1 hb h2 (fun i x hx => ih i x hx (hasRef_flat h1 hr x (mem_of_get hx)))

theorem VR1.closed {d : D} {v : Value} (h : VR1 ρ w T d v) (hr : hasRef d = false) : VR1 noPl w T d v := by
  cases d with
  | agg s l =>
    obtain ⟨cs, rfl, h1, h2⟩ := h
    have := hasRef_flat h1 hr
    simp only [D.flat] at this
    exact ⟨cs, rfl, h1, h2.len, fun i x y hx hy => (h2.at_ i x y hx hy).closed (this x (mem_of_get hx))⟩
  | _ => exact LR.closed h hr
theorem VR.closed {d : D} {v : Value} (h : VR ρ w T d v) (hr : hasRef d = false) : VR noPl w T d v := by
  cases d with
  | tup l =>
    obtain ⟨vs, rfl, h1⟩ := h
    simp only [hasRef] at hr
    exact ⟨vs, rfl, h1.len, fun i x y hx hy => (h1.at_ i x y hx hy).closed (hasRefL_mem hr x (mem_of_get hx))⟩
  | agg s l => exact VR1.closed (d := .agg s l) h hr
  | _ => exact LR.closed h hr

/-- data without immutable lists: no matter what is immutable -/
theorem noLstL_mem : ∀ {l : List D}, noLstL l = true → ∀ d ∈ l, noLst d = true
  | [], _, d, hd => by simp at hd
  | x :: l, h, d, hd => by
    simp [noLstL] at h
    rcases List.mem_cons.1 hd with rfl | hd
    · exact h.1
    · exact noLstL_mem h.2 d hd
theorem LR.noLst {T' : Nat → Prop} {w' : World} {d : D} {v : Value} (h : LR ρ w T d v) (hr : noLst d = true) : LR ρ w' T' d v := by
  cases h with
  | raw v hv => exact .raw v hv
  | ptr s r p L h1 h2 => exact .ptr s r p L h1 h2
  | sl s r p off len ex L cap h1 h2 h3 h4 => exact .sl s r p off len ex L cap h1 h2 h3 h4
  | slz s r p off ex a => exact .slz s r p off ex a
  | aptr n s r p off L h1 h2 => exact .aptr n s r p off L h1 h2
  | lst0 => simp [Am.noLst] at hr
  | lst => simp [Am.noLst] at hr
  | cptr => simp [Am.noLst] at hr
theorem noLst_flat {s : Sh} {d : D} (h : HasSh s d) (hr : noLst d = true) : ∀ x ∈ d.flat, noLst x = true := by
  induction h with
  | leaf k v hv => intro x hx; simp [D.flat] at hx; subst hx; rfl
  | ref d hd => rw [leaf_flat hd]; intro x hx; simp at hx; subst hx; exact hr
  | agg s l ha hl hsub ih =>
    simp only [noLst] at hr
    cases hp : s.pure with
    | true =>
      intro x hx
      obtain ⟨v, rfl⟩ := pure_flat (HasSh.agg s l ha hl hsub) hp x hx
      rfl
    | false =>
      simp [hp] at hr
      intro x hx
      simp only [D.flat] at hx
      have hm := noLstL_mem hr
      have : ∀ (l : List D), (∀ d ∈ l, ∀ x ∈ d.flat, noLst x = true) → ∀ x ∈ flatL l, noLst x = true := by
        intro l
        induction l with
        | nil => intro _ x hx; simp [flatL] at hx
        | cons d l ih =>
          intro h x hx
          simp only [flatL, List.mem_append] at hx
          rcases hx with hx | hx
          · exact h d (by simp) x hx
          · exact ih (fun e he => h e (by simp [he])) x hx
      refine this l (fun d hd => ?_) x hx
      obtain ⟨i, hi, rfl⟩ := List.mem_iff_getElem.1 hd
      obtain ⟨e, he⟩ := count_sub (s := s) (i := i) (by omega)
      exact ih i e _ he (List.getElem?_eq_getElem hi) (hm _ hd)
theorem VR1.noLst {T' : Nat → Prop} {w' : World} {d : D} {v : Value} (h : VR1 ρ w T d v) (hr : noLst d = true) : VR1 ρ w' T' d v := by
  cases d with
  | agg s l =>
    obtain ⟨cs, rfl, h1, h2⟩ := h
    have := noLst_flat h1 hr
    simp only [D.flat] at this
    exact ⟨cs, rfl, h1, h2.len, fun i x y hx hy => (h2.at_ i x y hx hy).noLst (this x (mem_of_get hx))⟩
  | _ => exact LR.noLst h hr
theorem VR.noLst {T' : Nat → Prop} {w' : World} {d : D} {v : Value} (h : VR ρ w T d v) (hr : noLst d = true) : VR ρ w' T' d v := by
  cases d with
  | tup l =>
    obtain ⟨vs, rfl, h1⟩ := h
    simp only [Am.noLst] at hr
    exact ⟨vs, rfl, h1.len, fun i x y hx hy => (h1.at_ i x y hx hy).noLst (noLstL_mem hr x (mem_of_get hx))⟩
  | agg s l => exact VR1.noLst (d := .agg s l) h hr
  | _ => exact LR.noLst h hr

/-- rows' numbers moved on -/
theorem shift_leaf {k : Nat} {d : D} (h : d.isLeaf = true) : (shift k d).isLeaf = true := by
  cases d with
  | lst s l e => simp only [shift]; cases s.pure <;> rfl
  | raw v => exact h
  | agg => simp [D.isLeaf] at h
  | tup => simp [D.isLeaf] at h
  | _ => rfl

theorem shiftL_len (k : Nat) : ∀ (l : List D), (shiftL k l).length = l.length
  | [] => rfl
  | d :: l => by simp [shiftL, shiftL_len k l]
theorem shiftL_get (k : Nat) : ∀ (l : List D) (i : Nat), (shiftL k l)[i]? = (l[i]?).map (shift k)
  | [], i => by simp [shiftL]
  | d :: l, 0 => by simp [shiftL]
  | d :: l, i + 1 => by simp [shiftL, shiftL_get k l i]

theorem map_id_raw {k : Nat} {l : List D} (h : ∀ x ∈ l, ∃ v, x = .raw v) : l.map (shift k) = l := by
  have : l.map (shift k) = l.map id := by
    apply List.map_congr_left
    intro x hx
    obtain ⟨v, rfl⟩ := h x hx
    simp [shift]
  rw [this, List.map_id]

theorem shift_sh {k : Nat} {s : Sh} {d : D} (h : HasSh s d) : HasSh s (shift k d) ∧ (shift k d).flat = d.flat.map (shift k) := by
  induction h with
  | leaf j v hv => exact ⟨by simp only [shift]; exact .leaf j v hv, by simp [shift, D.flat]⟩
  | ref d hd => exact ⟨.ref _ (shift_leaf hd), by rw [leaf_flat hd, leaf_flat (shift_leaf hd)]; rfl⟩
  | agg s l ha hl hsub ih =>
    simp only [shift]
    cases hp : s.pure with
    | true =>
      have hr := pure_flat (HasSh.agg s l ha hl hsub) hp
      simp only [cond_true]
      exact ⟨.agg s l ha hl hsub, (map_id_raw hr).symm⟩
    | false =>
      simp only [cond_false]
      refine ⟨.agg s _ ha (by rw [shiftL_len]; exact hl) (fun i e d hi hd => ?_), ?_⟩
      · rw [shiftL_get] at hd
        cases hx : l[i]? with
        | none => simp [hx] at hd
        | some x =>
          simp [hx] at hd
          subst hd
          exact (ih i e x hi hx).1
      · simp only [D.flat]
        have : ∀ (l : List D), (∀ d ∈ l, (shift k d).flat = d.flat.map (shift k)) → flatL (shiftL k l) = (flatL l).map (shift k) := by
          intro l
          induction l with
          | nil => intro _; simp [shiftL, flatL]
          | cons d l ih =>
            intro h
            simp only [shiftL, flatL, List.map_append]
            rw [h d (by simp), ih (fun e he => h e (by simp [he]))]
        refine this l (fun d hd => ?_)
        obtain ⟨i, hi, rfl⟩ := List.mem_iff_getElem.1 hd
        obtain ⟨e, he⟩ := count_sub (s := s) (i := i) (by omega)
        exact (ih i e _ he (List.getElem?_eq_getElem hi)).2
theorem shift_shL {k : Nat} {s : Sh} : ∀ {l : List D}, (∀ d ∈ l, HasSh s d) → (∀ d ∈ shiftL k l, HasSh s d) ∧ flatL (shiftL k l) = (flatL l).map (shift k)
  | [], _ => ⟨by simp [shiftL], by simp [shiftL, flatL]⟩
  | d :: l, h => by
    obtain ⟨h1, h2⟩ := shift_shL (k := k) (l := l) (fun e he => h e (by simp [he]))
    obtain ⟨h3, h4⟩ := shift_sh (k := k) (h d (by simp))
    refine ⟨fun x hx => ?_, by simp [shiftL, flatL, h2, h4]⟩
    simp only [shiftL, List.mem_cons] at hx
    rcases hx with rfl | hx
    · exact h3
    · exact h1 x hx

/-- two ways to lay rows, one behind the other -/
def joinPl (k : Nat) (ρ ρ' : Pl) : Pl := fun r => if r < k then ρ r else ρ' (r - k)

theorem LR.shift {ρ' : Pl} {d : D} {v : Value} (k : Nat) (ρ0 : Pl) (h : LR ρ' w T d v) : LR (joinPl k ρ0 ρ') w T (Am.shift k d) v := by
  induction h with
  | raw v hv => exact .raw v hv
  | ptr s r p L h1 h2 => exact .ptr s (r + k) p L (by simp [joinPl, show ¬ (r + k < k) by omega, h1]) h2
  | sl s r p off len ex L cap h1 h2 h3 h4 => exact .sl s (r + k) p off len ex L cap (by simp [joinPl, show ¬ (r + k < k) by omega, h1]) h2 h3 h4
  | slz s r p off ex a => exact .slz s (r + k) p off ex a
  | aptr n s r p off L h1 h2 => exact .aptr n s (r + k) p off L (by simp [joinPl, show ¬ (r + k < k) by omega, h1]) h2
  | lst0 s ex a cap h1 h2 =>
    simp only [Am.shift, shiftL]
    cases s.pure <;> exact .lst0 s ex a cap h1 h2
  | lst s l ex b o cap f h1 hb h2 h3 h4 h5 ih =>
    simp only [Am.shift]
    cases hp : s.pure with
    | true => exact .lst s l ex b o cap f h1 hb h2 (fun i d hd => (h3 i d hd).ofRaw (pure_flatL h1 hp d (mem_of_get hd))) h4 h5
    | false =>
      simp only [cond_false]
      obtain ⟨g1, g2⟩ := shift_shL (k := k) h1
      have hl := shiftL_len k l
      have : LR (joinPl k ρ0 ρ') w T (.lst s (shiftL k l) ex) (.slice (some ⟨b, o, none⟩) (shiftL k l).length cap) := by
        refine .lst s _ ex b o cap f g1 hb (fun i d hd => ?_) (fun i d hd => ?_) (by omega) (by rw [hl]; exact h5)
        · rw [g2, List.getElem?_map] at hd
          cases hx : (flatL l)[i]? with
          | none => simp [hx] at hd
          | some x => exact h2 i x hx
        · rw [g2, List.getElem?_map] at hd
          cases hx : (flatL l)[i]? with
          | none => simp [hx] at hd
          | some x =>
            simp [hx] at hd
            subst hd
            exact ih i x hx
      rwa [hl] at this
  | cptr s d b o f h1 hb h2 h3 ih =>
    obtain ⟨g1, g2⟩ := shift_sh (k := k) h1
    simp only [Am.shift]
    refine .cptr s _ b o f g1 hb (fun i x hx => ?_) (fun i x hx => ?_)
    · rw [g2, List.getElem?_map] at hx
      cases hy : d.flat[i]? with
      | none => simp [hy] at hx
      | some y => exact h2 i y hy
    · rw [g2, List.getElem?_map] at hx
      cases hy : d.flat[i]? with
      | none => simp [hy] at hx
      | some y =>
        simp [hy] at hx
        subst hx
        exact ih i y hy

theorem All2.shift {ρ' : Pl} {l : List D} {cs : List Value} (k : Nat) (ρ0 : Pl) (h : All2 (LR ρ' w T) l cs) : All2 (LR (joinPl k ρ0 ρ') w T) (l.map (Am.shift k)) cs := by
  refine ⟨by simp [h.len], fun i x y hx hy => ?_⟩
  rw [List.getElem?_map] at hx
  cases hz : l[i]? with
  | none => simp [hz] at hx
  | some z =>
    simp [hz] at hx
    subst hx
    exact (h.at_ i z y hz hy).shift k ρ0

theorem VR1.shift {ρ' : Pl} {d : D} {v : Value} (k : Nat) (ρ0 : Pl) (h : VR1 ρ' w T d v) : VR1 (joinPl k ρ0 ρ') w T (Am.shift k d) v := by
  cases d with
  | agg s l =>
    obtain ⟨cs, rfl, h1, h2⟩ := h
    obtain ⟨g1, g2⟩ := shift_sh (k := k) h1
    have h3 : All2 (LR ρ' w T) (D.agg s l).flat cs.toList := by simpa [D.flat] using h2
    have h4 := h3.shift k ρ0
    rw [← g2] at h4
    have ha := (agg_sh h1).2
    exact VR1.ofAgg g1 ha h4
  | tup l => cases h
  | _ => exact VR1.ofLeaf (LR.shift k ρ0 h)

theorem VR.shift {ρ' : Pl} {d : D} {v : Value} (k : Nat) (ρ0 : Pl) (h : VR ρ' w T d v) : VR (joinPl k ρ0 ρ') w T (Am.shift k d) v := by
  cases d with
  | tup l =>
    obtain ⟨vs, rfl, h1⟩ := h
    refine ⟨vs, rfl, by rw [shiftL_len]; exact h1.len, fun i x y hx hy => ?_⟩
    rw [shiftL_get] at hx
    cases hz : l[i]? with
    | none => simp [hz] at hx
    | some z =>
      simp [hz] at hx
      subst hx
      exact (h1.at_ i z y hz hy).shift k ρ0
  | agg s l => exact VR.ofVR1 (VR1.shift (d := .agg s l) k ρ0 h)
  | _ => exact VR.ofLeaf (LR.shift k ρ0 h)

theorem op_frzb (hs : Sim n ρ T env rows a w) (hG : Glob C ρ w T) {o : Oper} {k : D → Rows → Prop} {t e : TypeId} {x : Operand} {x' : X} {s : Sh} (ho : o.op = .convert t t x) (ht : P.underlying t = some (.slice e)) (he8 : P.underlying e = some (.int .u8)) (h1 : cX x = some x')
    (h : aop C env rows (.frzb s x') k) : OpGoal P n o ρ T env rows a w k := by
  obtain ⟨d, he, hk⟩ := bnd_some h
  have hv := ev_sound h1 he hs hG
  split at hk
  · rename_i t' r off len ex
    obtain ⟨rfl, h0, hk⟩ := hk
    obtain ⟨row, hl, hk⟩ := bnd_some hk
    obtain ⟨hle, hk⟩ := hk
    have hv' : LR ρ w T (.sl t' r [] off len ex) _ := hv
    generalize hx : a.eval x = v at hv'
    cases hv' with
    | slz => omega
    | sl _ _ _ _ _ _ L cap hL g1 g2 g3 =>
      have hr := hs.rowsOK.row r row L hl hL
      obtain ⟨cur, tt, ⟨fr, c1, c0⟩, c2, c3, c4⟩ := hr.cells
      let w' : World := w.freeze ⟨L.b, cur.size, none⟩ 1
      have hw' : ∀ b, b ≠ L.b → w'.heap[b]? = w.heap[b]? := by
        intro b hb
        show (w.freeze ⟨L.b, cur.size, none⟩ 1).heap[b]? = _
        simp only [World.freeze, Nat.succ_ne_zero, if_false, Array.getElem?_modify]
        rw [if_neg (fun e => hb e.symm)]
      have hfr : FrOnly w w' L.b := by
        refine ⟨cur, tt, fr, (if fr.1 == fr.2 then (cur.size, cur.size + 1) else (min fr.1 cur.size, max fr.2 (cur.size + 1))), c1, ?_, ?_⟩
        · show (w.freeze ⟨L.b, cur.size, none⟩ 1).heap[L.b]? = _
          simp only [World.freeze, Nat.succ_ne_zero, if_false, Array.getElem?_modify, c1]
          simp
        · split
          · exact .inr (Nat.le_refl _)
          · rename_i hne
            rcases c0 with c0 | c0
            · rw [c0] at hne; simp at hne
            · exact .inr (by simp; omega)
      have hsz : w'.heap.size = w.heap.size := by
        show (w.freeze ⟨L.b, cur.size, none⟩ 1).heap.size = _
        simp [World.freeze]
      obtain ⟨g4, g5⟩ := hs.mark (w' := w') hl hL hsz hw' hfr rfl rfl rfl
      refine goal_of (v := .slice (some ⟨L.b, L.off [] + off * t'.size, none⟩) len cap) hk g4 g5 (VR.ofLeaf (.sl _ _ _ _ _ _ L cap hL g1 g2 g3)) (fun _ => ⟨fun b hb => ?_, fun _ h => .inl h⟩) ?_
      · by_cases e : b = L.b
        · exact .inr ⟨e ▸ hfr, r, row, L, hl, hL, e.symm⟩
        · exact .inl (hw' b e)
      · have hshape : w.shape? L.b = some (tt, cur.size) := by simp [World.shape?, c1]
        simp only [execOp, ho, hx, Sem.run_bind, convert, run_underlying ht, run_underlying he8, Result.andThen_ok, beq_self_eq_true, markStringish]
        simp [shape, freeze, Sem.run, Sem.bind, hshape]
        rfl
  · exact hk.elim

end Go.Am
