/- Regions whose order is drawn: the theorem. -/
import Derived.Test.YtloclegkilgglaaAm19
namespace Go.Am
set_option linter.unusedVariables false
set_option linter.unusedSimpArgs false

variable {C : Ctx} {P : Program} {n : Nat}

theorem cOps_get {all : List Oper} : ∀ {l : List Oper} {al : List AOper}, cOps P n all l = some al → al.length = l.length ∧ ∀ (i : Nat) (o : Oper) (x : AOper), l[i]? = some o → al[i]? = some x →
    cDst n o.dst = true ∧ cOp P o.op = some x.op ∧ cGuard all o.guard = some x.guard ∧ x.dst = o.dst
  | [], al, h => by simp [cOps] at h; subst h; simp
  | o :: l, al, h => by
    obtain ⟨ao, g, r, h0, h1, h2, h3, rfl⟩ := cOps_cons h
    obtain ⟨g1, g2⟩ := cOps_get h3
    refine ⟨by simp [g1], fun i o' x hi hx => ?_⟩
    cases i with
    | zero => simp at hi hx; subst hi; subst hx; exact ⟨h0, h1, h2, rfl⟩
    | succ i => exact g2 i o' x (by simpa using hi) (by simpa using hx)

theorem Step.to {ρ ρ' ρ'' : Pl} {T T' T'' : Nat → Prop} {rows rows' rows'' : Rows} {w w' w'' : World} (h : Step ρ T rows w ρ' T' rows' w') (h' : Step ρ' T' rows' w' ρ'' T'' rows'' w'') : Step ρ T rows w ρ'' T'' rows'' w'' := h.trans h'

/-- one operation, by its guard, in a world that is as the data say -/
theorem ex_wp (hN : ∀ f, C.fnr f = none) (hC : CtxOK C P) {ops : Array Oper} {i : Nat} {o : Oper} {x : AOper} (ho : ops[i]? = some o) (hop : cOp P o.op = some x.op) (hgd : cGuard ops.toList o.guard = some x.guard) {env : Env} {rows rows' : Rows} {d : D} {ρ : Pl} {T : Nat → Prop} {a : Act} {w : World}
    {Q' : Exit → Act → World → Prop} {next : Act → World → Prop} (hs : Sim n ρ T env rows a w) (hg : GlobOK C w T) (hq : quietOp o.op = true) (hx : Ex C env rows x d rows')
    (hn : ∀ ρ' T' v w', Sim n ρ' T' env rows' a w' → Step ρ T rows w ρ' T' rows' w' → VR ρ' w' T' d v → (QH ρ rows w w' ∧ ∀ b, T' b → T b ∨ w.heap.size ≤ b) → next (a.put o.dst v) w') : wpOp P ops Q' i next a w := by
  have go : ∀ (h : aop C env rows x.op fun d2 r2 => d2 = d ∧ r2 = rows'), o.wp P a w next Q' := by
    intro h
    refine op_sound hs hg hC hop h ?_
    rintro d2 r2 ρ' T' v w' ⟨rfl, rfl⟩ hs' hst hv hk
    exact hn ρ' T' v w' hs' hst hv (hk hN hq)
  have skip : d = .tup [] → rows' = rows → next (a.put o.dst undef) w := by
    rintro rfl rfl
    exact hn ρ T undef w hs (Step.refl _ _ _ _) ⟨#[], rfl, .nil⟩ ⟨fun _ _ => .inl rfl, fun _ h => .inl h⟩
  unfold wpOp
  simp only [ho]
  cases hgo : o.guard with
  | none =>
    rw [hgo] at hgd
    simp [cGuard] at hgd
    have hw : Region.wanted o (yielded ops a.tmps) = true := by simp [Region.wanted, hgo]
    rw [if_pos hw]
    refine .inl (go ?_)
    unfold Ex at hx
    rw [← hgd] at hx
    exact hx
  | some jw =>
    obtain ⟨j, want⟩ := jw
    rw [hgo] at hgd
    simp only [cGuard] at hgd
    split at hgd
    · rename_i oj hj
      split at hgd
      · rename_i t ht
        have hgx : x.guard = some (t, want) := by simpa using hgd.symm
        have hj' : ops[j]? = some oj := by simpa using hj
        unfold Ex at hx
        rw [hgx] at hx
        rcases hx with ⟨b, hlk, hx1, hx2⟩ | ⟨hlk, hx1, hx2⟩
        · have hb := VR.ofRaw (hs.env t _ hlk)
          have ht' : a.tmps[t]? = some (.bool b) := by
            unfold Array.getD at hb
            split at hb
            · rename_i hlt
              rw [Array.getElem?_eq_getElem hlt]
              simpa using hb
            · cases hb
          have hy : yielded ops a.tmps j = some b := by simp [yielded, hj', ht, ht']
          have hw : Region.wanted o (yielded ops a.tmps) = (b == want) := by
            simp only [Region.wanted, hgo, hy]
            cases b <;> cases want <;> rfl
          rw [hw]
          by_cases hbw : b = want
          · rw [if_pos (by simp [hbw])]
            exact .inl (go (hx1 hbw))
          · rw [if_neg (by simpa using hbw)]
            have hb' : b = !want := by cases b <;> cases want <;> simp_all
            exact skip (hx2 hb').1 (hx2 hb').2
        · obtain ⟨vs, hvs, hall⟩ := hs.env t _ hlk
          have hvs0 : vs = #[] := by
            have := hall.len
            apply Array.ext'
            exact List.eq_nil_of_length_eq_zero (by simpa using this.symm)
          subst hvs0
          have hy : yielded ops a.tmps j = none := by
            simp only [yielded, hj', Option.bind_some, ht]
            unfold Array.getD at hvs
            split at hvs
            · rename_i hlt
              rw [Array.getElem?_eq_getElem hlt]
              have : a.tmps[t] = .tuple #[] := by simpa using hvs
              rw [this]
            · rename_i hlt
              rw [Array.getElem?_eq_none (by omega)]
          have hw : Region.wanted o (yielded ops a.tmps) = false := by
            simp only [Region.wanted, hgo, hy]
            rfl
          rw [if_neg (by rw [hw]; simp)]
          exact skip hx1 hx2
      · cases hgd
    · cases hgd

/-- one operation of the text's order -/
theorem op_step (hC : CtxOK C P) {ops : Array Oper} {i : Nat} {o : Oper} {x : AOper} (ho : ops[i]? = some o) (hd : cDst n o.dst = true) (hop : cOp P o.op = some x.op) (hgd : cGuard ops.toList o.guard = some x.guard) (hdst : x.dst = o.dst) {env : Env} {rows : Rows} {ρ : Pl} {T : Nat → Prop} {a : Act} {w : World}
    {Q' : Exit → Act → World → Prop} {next : Act → World → Prop} {l : List AOper} {K : Env → Rows → Prop} (hs : Sim n ρ T env rows a w) (hg : GlobOK C w T) (h : aops C (x :: l) env rows K)
    (hn : ∀ env' rows' ρ' T' a' w', aops C l env' rows' K → Sim n ρ' T' env' rows' a' w' → Step ρ T rows w ρ' T' rows' w' → next a' w') : wpOp P ops Q' i next a w := by
  have hd' := cDst_lt hd
  have go : ∀ (h : aop C env rows x.op fun d rows => aops C l (put o.dst d env) rows K), o.wp P a w next Q' := by
    intro h
    refine op_sound hs hg hC hop h ?_
    intro d rows' ρ' T' v w' hk hs' hst hv _
    exact hn _ rows' ρ' T' _ w' hk (hs'.put hv hd') hst
  have skip : ∀ (h : aops C l (put o.dst (.tup []) env) rows K), next (a.put o.dst undef) w := by
    intro h
    exact hn _ rows ρ T _ w h (hs.put ⟨#[], rfl, .nil⟩ hd') (Step.refl _ _ _ _)
  unfold wpOp
  simp only [ho]
  obtain ⟨dst, xo, g⟩ := x
  simp only at hop hgd hdst
  subst hdst
  cases hgo : o.guard with
  | none =>
    rw [hgo] at hgd
    simp [cGuard] at hgd
    subst hgd
    have hw : Region.wanted o (yielded ops a.tmps) = true := by simp [Region.wanted, hgo]
    rw [if_pos hw]
    exact .inl (go h)
  | some jw =>
    obtain ⟨j, want⟩ := jw
    rw [hgo] at hgd
    simp only [cGuard] at hgd
    split at hgd
    · rename_i oj hj
      split at hgd
      · rename_i t ht
        cases hgd
        have hj' : ops[j]? = some oj := by simpa using hj
        obtain ⟨d, hlk, h⟩ := bnd_some h
        have hv := hs.env t d hlk
        split at h
        · rename_i b
          have hb := VR.ofRaw hv
          have ht' : a.tmps[t]? = some (.bool b) := by
            unfold Array.getD at hb
            split at hb
            · rename_i hlt
              rw [Array.getElem?_eq_getElem hlt]
              simpa using hb
            · cases hb
          have hy : yielded ops a.tmps j = some b := by simp [yielded, hj', ht, ht']
          have hw : Region.wanted o (yielded ops a.tmps) = (b == want) := by
            simp only [Region.wanted, hgo, hy]
            cases b <;> cases want <;> rfl
          rw [hw]
          by_cases hbw : b = want
          · rw [if_pos (by simp [hbw])]
            exact .inl (go (h.1 hbw))
          · rw [if_neg (by simpa using hbw)]
            exact skip (h.2 (by cases b <;> cases want <;> simp_all))
        · obtain ⟨vs, hvs, hall⟩ := hv
          have hvs0 : vs = #[] := by
            have := hall.len
            apply Array.ext'
            exact List.eq_nil_of_length_eq_zero (by simpa using this.symm)
          subst hvs0
          have hy : yielded ops a.tmps j = none := by
            simp only [yielded, hj', Option.bind_some, ht]
            unfold Array.getD at hvs
            split at hvs
            · rename_i hlt
              rw [Array.getElem?_eq_getElem hlt]
              have : a.tmps[t] = .tuple #[] := by simpa using hvs
              rw [this]
            · rename_i hlt
              rw [Array.getElem?_eq_none (by omega)]
          have hw : Region.wanted o (yielded ops a.tmps) = false := by
            simp only [Region.wanted, hgo, hy]
            rfl
          rw [if_neg (by rw [hw]; simp)]
          exact skip h
        · exact h.elim
      · cases hgd
    · cases hgd

/-- what has come up -/
def done (L : Array Bool) (j : Nat) : Prop := L.getD j false = true

theorem dep_spec {ops : Array Oper} {i j : Nat} {o : Oper} (ho : ops[i]? = some o) (h : dep ops.toList i j = true) : ∃ e ∈ o.after, Region.binds .any e = true ∧ e.on = j := by
  unfold dep at h
  have : ops.toList[i]? = some o := by simpa using ho
  rw [this] at h
  obtain ⟨e, he, hb⟩ := List.any_eq_true.1 h
  simp only [Bool.and_eq_true, beq_iff_eq] at hb
  exact ⟨e, by simpa using he, hb⟩
theorem dep_lt {ops : Array Oper} {i j : Nat} (h : dep ops.toList i j = true) : ∃ o, ops[i]? = some o := by
  unfold dep at h
  split at h
  · rename_i o ho; exact ⟨o, by simpa using ho⟩
  · cases h

theorem ready_spec {ops : Array Oper} {L : Array Bool} {i : Nat} (h : i ∈ Region.ready .any ops L) : (∃ o, ops[i]? = some o) ∧ L.getD i true = false ∧ ∀ j, dep ops.toList i j = true → done L j := by
  obtain ⟨h1, o, ho, h3⟩ := mem_ready.1 h
  refine ⟨⟨o, ho⟩, h1, fun j hj => ?_⟩
  obtain ⟨e, he, hb, rfl⟩ := dep_spec ho hj
  exact h3 e he hb
theorem ready_mk {ops : Array Oper} {L : Array Bool} {i : Nat} (hi : i < ops.size) (h1 : L.getD i true = false) (h : ∀ j, dep ops.toList i j = true → done L j) : i ∈ Region.ready .any ops L := by
  refine mem_ready.2 ⟨h1, ops[i], Array.getElem?_eq_getElem hi, fun e he hb => ?_⟩
  refine h e.on ?_
  unfold dep
  have : ops.toList[i]? = some ops[i] := by simp [hi]
  rw [this]
  exact List.any_eq_true.2 ⟨e, by simpa using he, by simp [hb]⟩

/-- the places that have not come up -/
def undone (L : Array Bool) (k : Nat) : Nat := ((List.range k).filter fun j => !L.getD j false).length
theorem undone_set {L : Array Bool} {i k : Nat} (hi : i < k) (hL : i < L.size) (h : L.getD i true = false) : undone (L.setIfInBounds i true) k < undone L k := by
  unfold undone
  have hf : L.getD i false = false := by
    simp only [Array.getD, hL, dif_pos] at h ⊢
    exact h
  have key : ∀ (l : List Nat), i ∈ l → ((l.filter fun j => !(L.setIfInBounds i true).getD j false).length < (l.filter fun j => !L.getD j false).length) ∨ ¬ l.Nodup := by
    intro l
    induction l with
    | nil => intro h; cases h
    | cons x l ih =>
      intro hm
      by_cases hx : x = i
      · subst hx
        by_cases hil : x ∈ l
        · right; simp [hil]
        · left
          have h1 : (L.setIfInBounds x true).getD x false = true := by simp [Array.getD, hL]
          have h2 : ∀ j ∈ l, (!(L.setIfInBounds x true).getD j false) = !L.getD j false := by
            intro j hj
            have : x ≠ j := fun e => hil (e ▸ hj)
            rw [getD_set_ne false this]
          rw [List.filter_cons, List.filter_cons]
          simp only [h1, hf, Bool.not_true, Bool.not_false, if_true, Bool.false_eq_true, if_false]
          rw [List.filter_congr h2]
          simp
      · have hil : i ∈ l := by
          rcases List.mem_cons.1 hm with h | h
          · exact absurd h.symm hx
          · exact h
        rcases ih hil with h | h
        · left
          have h1 : (L.setIfInBounds i true).getD x false = L.getD x false := getD_set_ne false (fun e => hx e.symm)
          rw [List.filter_cons, List.filter_cons, h1]
          cases hc : (!L.getD x false)
          · simpa only [Bool.false_eq_true, if_false] using h
          · simp only [if_true, List.length_cons]; omega
        · right; intro hn; exact h (List.nodup_cons.1 hn).2
  rcases key (List.range k) (by simpa using hi) with h | h
  · exact h
  · exact absurd List.nodup_range h

theorem notdone {L : Array Bool} {i : Nat} (h : L.getD i true = false) : ¬ done L i ∧ i < L.size := by
  unfold done
  by_cases hh : i < L.size
  · refine ⟨?_, hh⟩
    simp only [Array.getD, hh, dif_pos] at h ⊢
    rw [h]; simp
  · simp [Array.getD, hh] at h
theorem notdone' {L : Array Bool} {i : Nat} (h : ¬ done L i) (hi : i < L.size) : L.getD i true = false := by
  unfold done at h
  simp only [Array.getD, hi, dif_pos] at h ⊢
  simpa using h
theorem done_set {L : Array Bool} {i j : Nat} (hi : i < L.size) : done (L.setIfInBounds i true) j ↔ done L j ∨ j = i := by
  unfold done
  by_cases h : i = j
  · subst h
    simp [Array.getD, hi]
  · rw [getD_set_ne false h]
    constructor
    · exact .inl
    · rintro (h2 | h2)
      · exact h2
      · exact absurd h2.symm h

/-- all that stands ahead has come up -/
theorem ahead_done {ops : Array Oper} {al : List AOper} {m i : Nat} {L : Array Bool} (hd : DOK ops.toList al m) (hcl : ∀ i, done L i → ∀ j, dep ops.toList i j = true → done L j) (hi : i < ops.size) (hm : m ≤ i) (hr : ∀ j, dep ops.toList i j = true → done L j) :
    ∀ j, j < i → done L j := by
  have key : ∀ (k j : Nat), i - j ≤ k → j < i → done L j := by
    intro k
    induction k with
    | zero => intro j h1 h2; omega
    | succ k ih =>
      intro j h1 h2
      rcases hd.tail i (by simpa using hi) hm j h2 with h | ⟨q, hq1, hq2, hq3⟩
      · exact hr j h
      · exact hcl q (ih q (by omega) hq1) j hq3
  exact fun j hj => key i j (by omega) hj

/-- the state on the way: the quiet operations in whatever order -/
structure DInv (C : Ctx) (n : Nat) (al : List AOper) (m : Nat) (env : Env) (Dd : Nat → D) (R : Nat → Rows) (ρ0 : Pl) (T0 : Nat → Prop) (w0 : World) (L : Array Bool) (ρ : Pl) (T : Nat → Prop) (a : Act) (w : World) : Prop where
  size : a.tmps.size = n
  defers : a.defers = []
  tlt : ∀ b, T b → b < w.heap.size
  glob : GlobOK C w T
  dom : ∀ r, (R m).length ≤ r → ρ r = none
  rows : ∀ j, j ≤ m → RowsOK (res ρ (R j).length) (R j) w T
  hole : ∀ j, j < m → ¬ done L j → ∀ r, (R j).length ≤ r → r < (R (j + 1)).length → ρ r = none
  base : ∀ t d, look env t = some d → (∀ j, j < m → done L j → dstOf al j ≠ some t) → VR (res ρ (R 0).length) w T d (a.tmps.getD t undef)
  out : ∀ j, j < m → done L j → ∀ t, dstOf al j = some t → VR (res ρ (R (j + 1)).length) w T (Dd j) (a.tmps.getD t undef)
  step : Step ρ0 T0 (R 0) w0 ρ T (R m) w

theorem getD_put_ne {a : Act} {dst : Option Nat} {v : Value} {t : Nat} (h : dst ≠ some t) : (a.put dst v).tmps.getD t undef = a.tmps.getD t undef := by
  cases dst with
  | none => rfl
  | some d =>
    have hne : d ≠ t := fun e => h (by rw [e])
    simp only [Act.put, Array.getD_eq_getD_getElem?]
    rw [Array.getElem?_setIfInBounds_ne hne]
theorem getD_put_eq {a : Act} {v : Value} {t : Nat} (h : t < a.tmps.size) : (a.put (some t) v).tmps.getD t undef = v := by
  simp [Act.put, Array.getD, h]

theorem prefix_le {R : Nat → Rows} {m : Nat} (hR : ∀ i, i < m → ∃ new, R (i + 1) = R i ++ new) : ∀ (k i : Nat), i + k ≤ m → ∃ new, R (i + k) = R i ++ new
  | 0, i, _ => ⟨[], by simp⟩
  | k + 1, i, h => by
    obtain ⟨new, h1⟩ := prefix_le hR k i (by omega)
    obtain ⟨new2, h2⟩ := hR (i + k) (by omega)
    exact ⟨new ++ new2, by rw [← Nat.add_assoc, h2, h1, List.append_assoc]⟩
theorem prefix_of {R : Nat → Rows} {m i j : Nat} (hR : ∀ i, i < m → ∃ new, R (i + 1) = R i ++ new) (hij : i ≤ j) (hj : j ≤ m) : ∃ new, R j = R i ++ new := by
  obtain ⟨new, h⟩ := prefix_le hR (j - i) i (by omega)
  exact ⟨new, by rwa [show i + (j - i) = j by omega] at h⟩

end Go.Am
