/- Regions, code, functions. -/
import Derived.Test.YtloclegkilgglaaAm16
namespace Go.Am
set_option linter.unusedVariables false
set_option linter.unusedSimpArgs false

variable {C : Ctx} {P : Program} {n : Nat} {ρ : Pl} {T : Nat → Prop} {env : Env} {rows : Rows} {a : Act} {w : World}

def GlobOK (C : Ctx) (w : World) (T : Nat → Prop) : Prop := ∀ g d, C.glob g = some d → LR noPl w T (.cptr d) (.pointer (some ⟨g, 0, none⟩))

theorem Step.stable (hr : RowsOK ρ rows w T) (ht : ∀ b, T b → b < w.heap.size) {ρ' : Pl} {T' : Nat → Prop} {rows' : Rows} {w' : World} (h : Step ρ T rows w ρ' T' rows' w') : ∀ b, T b → w'.heap[b]? = w.heap[b]? := by
  intro b hb
  refine h.keep b (ht b hb) ?_
  rintro r row L h1 h2 rfl
  exact (hr.row r row L h1 h2).notT hb
theorem GlobOK.step (hg : GlobOK C w T) (hs : Sim n ρ T env rows a w) {ρ' : Pl} {T' : Nat → Prop} {rows' : Rows} {w' : World} (h : Step ρ T rows w ρ' T' rows' w') : GlobOK C w' T' :=
  fun g d hd => (hg g d hd).mono (fun _ _ h => h) (h.stable hs.rowsOK hs.tlt) h.tt

theorem cOps_cons {all : List Oper} {o : Oper} {l : List Oper} {al : List AOper} (h : cOps P n all (o :: l) = some al) :
    ∃ ao g r, cDst n o.dst = true ∧ cOp P o.op = some ao ∧ cGuard all o.guard = some g ∧ cOps P n all l = some r ∧ al = ⟨o.dst, ao, g⟩ :: r := by
  simp only [cOps] at h
  obtain ⟨h0, h⟩ := ifo_some h
  obtain ⟨ao, h1, h⟩ := o2_some h
  obtain ⟨g, h2, h⟩ := o2_some h
  obtain ⟨r, h3, h⟩ := o2_some h
  cases h
  exact ⟨ao, g, r, h0, h1, h2, h3, rfl⟩
theorem cDst_lt {dst : Option Nat} (h : cDst n dst = true) : ∀ t, dst = some t → t < n := by
  intro t ht
  subst ht
  simp only [cDst] at h
  exact Nat.blt_eq.mp h

theorem ops_sound (hC : CtxOK C P) (ops : Array Oper) {Q' : Exit → Act → World → Prop} : ∀ (l : List Oper) (i : Nat), ops.toList.drop i = l → ∀ (al : List AOper), cOps P n ops.toList l = some al →
    ∀ (env : Env) (rows : Rows) (ρ : Pl) (T : Nat → Prop) (a : Act) (w : World) (K : Env → Rows → Prop), aops C al env rows K → Sim n ρ T env rows a w → GlobOK C w T →
    (∀ env' rows' ρ' T' a' w', K env' rows' → Sim n ρ' T' env' rows' a' w' → Step ρ T rows w ρ' T' rows' w' → Q' .normal a' w') → wpOps P ops Q' (List.range' i l.length) a w := by
  intro l
  induction l with
  | nil =>
    intro i _ al hc env rows ρ T a w K h hs hg hK
    simp [cOps] at hc
    subst hc
    exact hK env rows ρ T a w h hs (Step.refl _ _ _ _)
  | cons o l ih =>
    intro i hi al hc env rows ρ T a w K h hs hg hK
    obtain ⟨ao, g, r, h0, h1, h2, h3, rfl⟩ := cOps_cons hc
    have ho : ops[i]? = some o := by
      have := congrArg (fun q => q[0]?) hi
      simpa using this
    have hnext : ops.toList.drop (i + 1) = l := by
      have := congrArg List.tail hi
      simpa using this
    have hd := cDst_lt h0
    simp only [List.length_cons, List.range'_succ, wpOps, ho]
    have go : ∀ (h : aop C env rows ao (fun d rows => aops C r (put o.dst d env) rows K)), o.wp P a w (wpOps P ops Q' (List.range' (i + 1) l.length)) Q' := by
      intro h
      refine op_sound hs hg hC h1 h ?_
      intro d rows' ρ' T' v w' hk hs' hst hv _
      exact ih (i + 1) hnext r h3 _ rows' ρ' T' _ w' K hk (hs'.put hv hd) (hg.step hs hst) (fun env2 rows2 ρ2 T2 a2 w2 hk2 hs2 hst2 => hK env2 rows2 ρ2 T2 a2 w2 hk2 hs2 (hst.trans hst2))
    have skip : ∀ (h : aops C r (put o.dst (.tup []) env) rows K), wpOps P ops Q' (List.range' (i + 1) l.length) (a.put o.dst undef) w := by
      intro h
      have hv : VR ρ w T (.tup []) undef := ⟨#[], rfl, .nil⟩
      exact ih (i + 1) hnext r h3 _ rows ρ T _ w K h (hs.put hv hd) hg hK
    cases hgd : o.guard with
    | none =>
      rw [hgd] at h2
      simp [cGuard] at h2
      subst h2
      have hw : Region.wanted o (yielded ops a.tmps) = true := by simp [Region.wanted, hgd]
      rw [if_pos hw]
      exact .inl (go h)
    | some jw =>
      obtain ⟨j, want⟩ := jw
      rw [hgd] at h2
      simp only [cGuard] at h2
      split at h2
      · rename_i oj hj
        split at h2
        · rename_i t ht
          cases h2
          have hj' : ops[j]? = some oj := by simpa using hj
          obtain ⟨d, hlk, h⟩ := bnd_some h
          have hv := hs.env t d hlk
          split at h
          · rename_i b
            have hb := VR.ofRaw hv
            have ht' : a.tmps[t]? = some (.bool b) := by
              unfold Array.getD at hb
              split at hb
              · rename_i hlt
                rw [Array.getElem?_eq_getElem hlt]
                simpa using hb
              · cases hb
            have hy : yielded ops a.tmps j = some b := by simp [yielded, hj', ht, ht']
            have hw : Region.wanted o (yielded ops a.tmps) = (b == want) := by
              simp only [Region.wanted, hgd, hy]
              cases b <;> cases want <;> rfl
            rw [hw]
            by_cases hbw : b = want
            · subst hbw
              rw [if_pos (by simp)]
              exact .inl (go (h.1 rfl))
            · rw [if_neg (by simpa using hbw)]
              exact skip (h.2 (by cases b <;> cases want <;> simp_all))
          · obtain ⟨vs, hvs, hall⟩ := hv
            have hvs0 : vs = #[] := by
              have := hall.len
              apply Array.ext'
              exact List.eq_nil_of_length_eq_zero (by simpa using this.symm)
            subst hvs0
            have hy : yielded ops a.tmps j = none := by
              simp only [yielded, hj', Option.bind_some, ht]
              unfold Array.getD at hvs
              split at hvs
              · rename_i hlt
                rw [Array.getElem?_eq_getElem hlt]
                have : a.tmps[t] = .tuple #[] := by simpa using hvs
                rw [this]
              · rename_i hlt
                rw [Array.getElem?_eq_none (by omega)]
            have hw : Region.wanted o (yielded ops a.tmps) = false := by
              simp only [Region.wanted, hgd, hy]
              rfl
            rw [if_neg (by rw [hw]; simp)]
            exact skip h
          · exact h.elim
        · cases h2
      · cases h2

def exitOf : AExit → Exit
  | .normal => .normal
  | .exit i => .exit i
  | .ret => .ret

def Post (n : Nat) (ρ : Pl) (T : Nat → Prop) (rows : Rows) (w : World) (Q : AExit → Env → Rows → Prop) (Q' : Exit → Act → World → Prop) : Prop :=
  ∀ e env' rows' ρ' T' a' w', Q e env' rows' → Sim n ρ' T' env' rows' a' w' → Step ρ T rows w ρ' T' rows' w' → Q' (exitOf e) a' w'

end Go.Am
