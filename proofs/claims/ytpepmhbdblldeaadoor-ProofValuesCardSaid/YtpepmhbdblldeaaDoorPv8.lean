import Derived.Test.YtpepmhbdblldeaaDoorPv7
namespace Go.Am
set_option linter.unusedVariables false
set_option linter.unusedSimpArgs false
variable {C : Ctx} {P : Program} {n : Nat}
theorem cOps_get {all : List Oper} : ∀ {l : List Oper} {al : List AOper}, cOps P n all l = some al → al.length = l.length ∧ ∀ (i : Nat) (o : Oper) (x : AOper), l[i]? = some o → al[i]? = some x →
  cDst n o.dst = true ∧ cOp P o.op = some x.op ∧ cGuard all o.guard = some x.guard ∧ x.dst = o.dst
 | [], al, h => by simp [cOps] at h; subst h; simp
 | o :: l, al, h => by
  obtain ⟨ao, g, r, h0, h1, h2, h3, rfl⟩ := cOps_cons h
  obtain ⟨g1, g2⟩ := cOps_get h3
  refine ⟨by simp [g1], fun i o' x hi hx => ?_⟩
  cases i with
  | zero => simp at hi hx; subst hi; subst hx; exact ⟨h0, h1, h2, rfl⟩
  | succ i => exact g2 i o' x (by simpa using hi) (by simpa using hx)
theorem Step.to {ρ ρ' ρ'' : Pl} {T T' T'' : Nat → Prop} {rows rows' rows'' : Rows} {w w' w'' : World} (h : Step ρ T rows w ρ' T' rows' w') (h' : Step ρ' T' rows' w' ρ'' T'' rows'' w'') : Step ρ T rows w ρ'' T'' rows'' w'' := h.trans h'
theorem ex_wp (hN : ∀ f, C.fnr f = none) (hC : CtxOK C P) {ops : Array Oper} {i : Nat} {o : Oper} {x : AOper} (ho : ops[i]? = some o) (hop : cOp P o.op = some x.op) (hgd : cGuard ops.toList o.guard = some x.guard) {env : Env} {rows rows' : Rows} {d : D} {ρ : Pl} {T : Nat → Prop} {a : Act} {w : World}
  {Q' : Exit → Act → World → Prop} {next : Act → World → Prop} (hs : Sim n ρ T env rows a w) (hg : GlobOK C w T) (hq : quietOp o.op = true) (hx : Ex C env rows x d rows')
  (hn : ∀ ρ' T' v w', Sim n ρ' T' env rows' a w' → Step ρ T rows w ρ' T' rows' w' → VR ρ' w' T' d v → (QH ρ rows w w' ∧ ∀ b, T' b → T b ∨ w.heap.size ≤ b) → next (a.put o.dst v) w') : wpOp P ops Q' i next a w := by
 have go : ∀ (h : aop C env rows x.op fun d2 r2 => d2 = d ∧ r2 = rows'), o.wp P a w next Q' := by
  intro h
  refine op_sound hs hg hC hop h ?_
  rintro d2 r2 ρ' T' v w' ⟨rfl, rfl⟩ hs' hst hv hk
  exact hn ρ' T' v w' hs' hst hv (hk hN hq)
 have skip : d = .tup [] → rows' = rows → next (a.put o.dst undef) w := by
  rintro rfl rfl
  exact hn ρ T undef w hs (Step.refl _ _ _ _) ⟨#[], rfl, .nil⟩ ⟨fun _ _ => .inl rfl, fun _ h => .inl h⟩
 unfold wpOp
 simp only [ho]
 cases hgo : o.guard with
 | none =>
  rw [hgo] at hgd
  simp [cGuard] at hgd
  have hw : Region.wanted o (yielded ops a.tmps) = true := by simp [Region.wanted, hgo]
  rw [if_pos hw]
  refine .inl (go ?_)
  unfold Ex at hx
  rw [← hgd] at hx
  exact hx
 | some jw =>
  obtain ⟨j, want⟩ := jw
  rw [hgo] at hgd
  simp only [cGuard] at hgd
  split at hgd
  ·rename_i oj hj
   split at hgd
   ·rename_i t ht
    have hgx : x.guard = some (t, want) := by simpa using hgd.symm
    have hj' : ops[j]? = some oj := by simpa using hj
    unfold Ex at hx
    rw [hgx] at hx
    rcases hx with ⟨b, hlk, hx1, hx2⟩ | ⟨hlk, hx1, hx2⟩
    ·have hb := VR.ofRaw (hs.env t _ hlk)
     have ht' : a.tmps[t]? = some (.bool b) := by
      unfold Array.getD at hb
      split at hb
      ·rename_i hlt
       rw [Array.getElem?_eq_getElem hlt]
       simpa using hb
      ·cases hb
     have hy : yielded ops a.tmps j = some b := by simp [yielded, hj', ht, ht']
     have hw : Region.wanted o (yielded ops a.tmps) = (b == want) := by
      simp only [Region.wanted, hgo, hy]
      cases b <;> cases want <;> rfl
     rw [hw]
     by_cases hbw : b = want
     ·rw [if_pos (by simp [hbw])]
      exact .inl (go (hx1 hbw))
     ·rw [if_neg (by simpa using hbw)]
      have hb' : b = !want := by cases b <;> cases want <;> simp_all
      exact skip (hx2 hb').1 (hx2 hb').2
    ·obtain ⟨vs, hvs, hall⟩ := hs.env t _ hlk
     have hvs0 : vs = #[] := by
      have := hall.len
      apply Array.ext'
      exact List.eq_nil_of_length_eq_zero (by simpa using this.symm)
     subst hvs0
     have hy : yielded ops a.tmps j = none := by
      simp only [yielded, hj', Option.bind_some, ht]
      unfold Array.getD at hvs
      split at hvs
      ·rename_i hlt
       rw [Array.getElem?_eq_getElem hlt]
       have : a.tmps[t] = .tuple #[] := by simpa using hvs
       rw [this]
      ·rename_i hlt
       rw [Array.getElem?_eq_none (by omega)]
     have hw : Region.wanted o (yielded ops a.tmps) = false := by
      simp only [Region.wanted, hgo, hy]
      rfl
     rw [if_neg (by rw [hw]; simp)]
     exact skip hx1 hx2
   ·cases hgd
  ·cases hgd
theorem op_step (hC : CtxOK C P) {ops : Array Oper} {i : Nat} {o : Oper} {x : AOper} (ho : ops[i]? = some o) (hd : cDst n o.dst = true) (hop : cOp P o.op = some x.op) (hgd : cGuard ops.toList o.guard = some x.guard) (hdst : x.dst = o.dst) {env : Env} {rows : Rows} {ρ : Pl} {T : Nat → Prop} {a : Act} {w : World}
  {Q' : Exit → Act → World → Prop} {next : Act → World → Prop} {l : List AOper} {K : Env → Rows → Prop} (hs : Sim n ρ T env rows a w) (hg : GlobOK C w T) (h : aops C (x :: l) env rows K)
  (hn : ∀ env' rows' ρ' T' a' w', aops C l env' rows' K → Sim n ρ' T' env' rows' a' w' → Step ρ T rows w ρ' T' rows' w' → next a' w') : wpOp P ops Q' i next a w := by
 have hd' := cDst_lt hd
 have go : ∀ (h : aop C env rows x.op fun d rows => aops C l (put o.dst d env) rows K), o.wp P a w next Q' := by
  intro h
  refine op_sound hs hg hC hop h ?_
  intro d rows' ρ' T' v w' hk hs' hst hv _
  exact hn _ rows' ρ' T' _ w' hk (hs'.put hv hd') hst
 have skip : ∀ (h : aops C l (put o.dst (.tup []) env) rows K), next (a.put o.dst undef) w := by
  intro h
  exact hn _ rows ρ T _ w h (hs.put ⟨#[], rfl, .nil⟩ hd') (Step.refl _ _ _ _)
 unfold wpOp
 simp only [ho]
 obtain ⟨dst, xo, g⟩ := x
 simp only at hop hgd hdst
 subst hdst
 cases hgo : o.guard with
 | none =>
  rw [hgo] at hgd
  simp [cGuard] at hgd
  subst hgd
  have hw : Region.wanted o (yielded ops a.tmps) = true := by simp [Region.wanted, hgo]
  rw [if_pos hw]
  exact .inl (go h)
 | some jw =>
  obtain ⟨j, want⟩ := jw
  rw [hgo] at hgd
  simp only [cGuard] at hgd
  split at hgd
  ·rename_i oj hj
   split at hgd
   ·rename_i t ht
    cases hgd
    have hj' : ops[j]? = some oj := by simpa using hj
    obtain ⟨d, hlk, h⟩ := bnd_some h
    have hv := hs.env t d hlk
    split at h
    ·rename_i b
     have hb := VR.ofRaw hv
     have ht' : a.tmps[t]? = some (.bool b) := by
      unfold Array.getD at hb
      split at hb
      ·rename_i hlt
       rw [Array.getElem?_eq_getElem hlt]
       simpa using hb
      ·cases hb
     have hy : yielded ops a.tmps j = some b := by simp [yielded, hj', ht, ht']
     have hw : Region.wanted o (yielded ops a.tmps) = (b == want) := by
      simp only [Region.wanted, hgo, hy]
      cases b <;> cases want <;> rfl
     rw [hw]
     by_cases hbw : b = want
     ·rw [if_pos (by simp [hbw])]
      exact .inl (go (h.1 hbw))
     ·rw [if_neg (by simpa using hbw)]
      exact skip (h.2 (by cases b <;> cases want <;> simp_all))
    ·obtain ⟨vs, hvs, hall⟩ := hv
     have hvs0 : vs = #[] := by
      have := hall.len
      apply Array.ext'
      exact List.eq_nil_of_length_eq_zero (by simpa using this.symm)
     subst hvs0
     have hy : yielded ops a.tmps j = none := by
      simp only [yielded, hj', Option.bind_some, ht]
      unfold Array.getD at hvs
      split at hvs
      ·rename_i hlt
       rw [Array.getElem?_eq_getElem hlt]
       have : a.tmps[t] = .tuple #[] := by simpa using hvs
       rw [this]
      ·rename_i hlt
       rw [Array.getElem?_eq_none (by omega)]
     have hw : Region.wanted o (yielded ops a.tmps) = false := by
      simp only [Region.wanted, hgo, hy]
      rfl
     rw [if_neg (by rw [hw]; simp)]
     exact skip h
    ·exact h.elim
   ·cases hgd
  ·cases hgd
def done (L : Array Bool) (j : Nat) : Prop := L.getD j false = true
theorem dep_spec {ops : Array Oper} {i j : Nat} {o : Oper} (ho : ops[i]? = some o) (h : dep ops.toList i j = true) : ∃ e ∈ o.after, Region.binds .any e = true ∧ e.on = j := by
 unfold dep at h
 have : ops.toList[i]? = some o := by simpa using ho
 rw [this] at h
 obtain ⟨e, he, hb⟩ := List.any_eq_true.1 h
 simp only [Bool.and_eq_true, beq_iff_eq] at hb
 exact ⟨e, by simpa using he, hb⟩
theorem ready_spec {ops : Array Oper} {L : Array Bool} {i : Nat} (h : i ∈ Region.ready .any ops L) : (∃ o, ops[i]? = some o) ∧ L.getD i true = false ∧ ∀ j, dep ops.toList i j = true → done L j := by
 obtain ⟨h1, o, ho, h3⟩ := mem_ready.1 h
 refine ⟨⟨o, ho⟩, h1, fun j hj => ?_⟩
 obtain ⟨e, he, hb, rfl⟩ := dep_spec ho hj
 exact h3 e he hb
theorem ready_mk {ops : Array Oper} {L : Array Bool} {i : Nat} (hi : i < ops.size) (h1 : L.getD i true = false) (h : ∀ j, dep ops.toList i j = true → done L j) : i ∈ Region.ready .any ops L := by
 refine mem_ready.2 ⟨h1, ops[i], Array.getElem?_eq_getElem hi, fun e he hb => ?_⟩
 refine h e.on ?_
 unfold dep
 have : ops.toList[i]? = some ops[i] := by simp [hi]
 rw [this]
 exact List.any_eq_true.2 ⟨e, by simpa using he, by simp [hb]⟩
def undone (L : Array Bool) (k : Nat) : Nat := ((List.range k).filter fun j => !L.getD j false).length
theorem undone_set {L : Array Bool} {i k : Nat} (hi : i < k) (hL : i < L.size) (h : L.getD i true = false) : undone (L.setIfInBounds i true) k < undone L k := by
 unfold undone
 have hf : L.getD i false = false := by
  simp only [Array.getD, hL, dif_pos] at h ⊢
  exact h
 have key : ∀ (l : List Nat), i ∈ l → ((l.filter fun j => !(L.setIfInBounds i true).getD j false).length < (l.filter fun j => !L.getD j false).length) ∨ ¬ l.Nodup := by
  intro l
  induction l with
  | nil => intro h; cases h
  | cons x l ih =>
   intro hm
   by_cases hx : x = i
   ·subst hx
    by_cases hil : x ∈ l
    ·right; simp [hil]
    ·left
     have h1 : (L.setIfInBounds x true).getD x false = true := by simp [Array.getD, hL]
     have h2 : ∀ j ∈ l, (!(L.setIfInBounds x true).getD j false) = !L.getD j false := by
      intro j hj
      have : x ≠ j := fun e => hil (e ▸ hj)
      rw [getD_set_ne false this]
     rw [List.filter_cons, List.filter_cons]
     simp only [h1, hf, Bool.not_true, Bool.not_false, if_true, Bool.false_eq_true, if_false]
     rw [List.filter_congr h2]
     simp
   ·have hil : i ∈ l := by
     rcases List.mem_cons.1 hm with h | h
     ·exact absurd h.symm hx
     ·exact h
    rcases ih hil with h | h
    ·left
     have h1 : (L.setIfInBounds i true).getD x false = L.getD x false := getD_set_ne false (fun e => hx e.symm)
     rw [List.filter_cons, List.filter_cons, h1]
     cases hc : (!L.getD x false)
     ·simpa only [Bool.false_eq_true, if_false] using h
     ·simp only [if_true, List.length_cons]; omega
    ·right; intro hn; exact h (List.nodup_cons.1 hn).2
 rcases key (List.range k) (by simpa using hi) with h | h
 ·exact h
 ·exact absurd List.nodup_range h
theorem notdone {L : Array Bool} {i : Nat} (h : L.getD i true = false) : ¬ done L i ∧ i < L.size := by
 unfold done
 by_cases hh : i < L.size
 ·refine ⟨?_, hh⟩
  simp only [Array.getD, hh, dif_pos] at h ⊢
  rw [h]; simp
 ·simp [Array.getD, hh] at h
theorem notdone' {L : Array Bool} {i : Nat} (h : ¬ done L i) (hi : i < L.size) : L.getD i true = false := by
 unfold done at h
 simp only [Array.getD, hi, dif_pos] at h ⊢
 simpa using h
theorem done_set {L : Array Bool} {i j : Nat} (hi : i < L.size) : done (L.setIfInBounds i true) j ↔ done L j ∨ j = i := by
 unfold done
 by_cases h : i = j
 ·subst h
  simp [Array.getD, hi]
 ·rw [getD_set_ne false h]
  constructor
  ·exact .inl
  ·rintro (h2 | h2)
   ·exact h2
   ·exact absurd h2.symm h
theorem ahead_done {ops : Array Oper} {al : List AOper} {m i : Nat} {L : Array Bool} (hd : DOK ops.toList al m) (hcl : ∀ i, done L i → ∀ j, dep ops.toList i j = true → done L j) (hi : i < ops.size) (hm : m ≤ i) (hr : ∀ j, dep ops.toList i j = true → done L j) :
  ∀ j, j < i → done L j := by
 have key : ∀ (k j : Nat), i - j ≤ k → j < i → done L j := by
  intro k
  induction k with
  | zero => intro j h1 h2; omega
  | succ k ih =>
   intro j h1 h2
   rcases hd.tail i (by simpa using hi) hm j h2 with h | ⟨q, hq1, hq2, hq3⟩
   ·exact hr j h
   ·exact hcl q (ih q (by omega) hq1) j hq3
 exact fun j hj => key i j (by omega) hj
structure DInv (C : Ctx) (n : Nat) (al : List AOper) (m : Nat) (env : Env) (Dd : Nat → D) (R : Nat → Rows) (ρ0 : Pl) (T0 : Nat → Prop) (w0 : World) (L : Array Bool) (ρ : Pl) (T : Nat → Prop) (a : Act) (w : World) : Prop where
 size : a.tmps.size = n
 defers : a.defers = []
 tlt : ∀ b, T b → b < w.heap.size
 glob : GlobOK C w T
 dom : ∀ r, (R m).length ≤ r → ρ r = none
 rows : ∀ j, j ≤ m → RowsOK (res ρ (R j).length) (R j) w T
 hole : ∀ j, j < m → ¬ done L j → ∀ r, (R j).length ≤ r → r < (R (j + 1)).length → ρ r = none
 base : ∀ t d, look env t = some d → (∀ j, j < m → done L j → dstOf al j ≠ some t) → VR (res ρ (R 0).length) w T d (a.tmps.getD t undef)
 out : ∀ j, j < m → done L j → ∀ t, dstOf al j = some t → VR (res ρ (R (j + 1)).length) w T (Dd j) (a.tmps.getD t undef)
 step : Step ρ0 T0 (R 0) w0 ρ T (R m) w
theorem getD_put_ne {a : Act} {dst : Option Nat} {v : Value} {t : Nat} (h : dst ≠ some t) : (a.put dst v).tmps.getD t undef = a.tmps.getD t undef := by
 cases dst with
 | none => rfl
 | some d =>
  have hne : d ≠ t := fun e => h (by rw [e])
  simp only [Act.put, Array.getD_eq_getD_getElem?]
  rw [Array.getElem?_setIfInBounds_ne hne]
theorem getD_put_eq {a : Act} {v : Value} {t : Nat} (h : t < a.tmps.size) : (a.put (some t) v).tmps.getD t undef = v := by
 simp [Act.put, Array.getD, h]
theorem prefix_le {R : Nat → Rows} {m : Nat} (hR : ∀ i, i < m → ∃ new, R (i + 1) = R i ++ new) : ∀ (k i : Nat), i + k ≤ m → ∃ new, R (i + k) = R i ++ new
 | 0, i, _ => ⟨[], by simp⟩
 | k + 1, i, h => by
  obtain ⟨new, h1⟩ := prefix_le hR k i (by omega)
  obtain ⟨new2, h2⟩ := hR (i + k) (by omega)
  exact ⟨new ++ new2, by rw [← Nat.add_assoc, h2, h1, List.append_assoc]⟩
theorem prefix_of {R : Nat → Rows} {m i j : Nat} (hR : ∀ i, i < m → ∃ new, R (i + 1) = R i ++ new) (hij : i ≤ j) (hj : j ≤ m) : ∃ new, R j = R i ++ new := by
 obtain ⟨new, h⟩ := prefix_le hR (j - i) i (by omega)
 exact ⟨new, by rwa [show i + (j - i) = j by omega] at h⟩
end Go.Am
namespace Go.Am
set_option linter.unusedVariables false
set_option linter.unusedSimpArgs false
variable {C : Ctx} {P : Program} {n : Nat}
theorem ev_small {env : Env} {l : List Nat} {x : X} (h : ∀ t, x = .tmp t → t ∈ l) : ev C (small env l) x = ev C env x := by
 cases x with
 | tmp t => simp only [ev]; rw [small_look (h t rfl)]
 | const _ => rfl
 | glob _ => rfl
theorem Ex.congr {env : Env} {rows rows' : Rows} {x : AOper} {d : D} (h : Ex C env rows x d rows') : Ex C (small env (uses x)) rows x d rows' := by
 have hev : ∀ y ∈ x.op.xs, ev C env y = ev C (small env (uses x)) y := by
  intro y hy
  refine (ev_small fun t ht => ?_).symm
  subst ht
  exact List.mem_append_left _ (mem_xslots hy)
 unfold Ex at h ⊢
 split at h
 ·rename_i hg
  rw [← aop_congr hev]; exact h
 ·rename_i s want hg
  have hs : look (small env (uses x)) s = look env s := small_look (by unfold uses; rw [hg]; simp)
  rw [hs]
  rcases h with ⟨b, h1, h2, h3⟩ | h
  ·exact .inl ⟨b, h1, fun hb => by rw [← aop_congr hev]; exact h2 hb, h3⟩
  ·exact .inr h
theorem GlobOK.keep {w w' : World} {T T' : Nat → Prop} (hg : GlobOK C w T) (hw : ∀ b, T b → w'.heap[b]? = w.heap[b]?) (hT : ∀ b, T b → T' b) : GlobOK C w' T' :=
 fun g d hd => (hg g d hd).mono (fun _ _ h => h) hw hT
structure Draw (C : Ctx) (P : Program) (n : Nat) (ops : Array Oper) (al : List AOper) (m : Nat) : Prop where
 ok : DOK0 ops.toList al m
 co : cOps P n ops.toList ops.toList = some al
 ctx : CtxOK C P
theorem Draw.get {ops : Array Oper} {al : List AOper} {m : Nat} (h : Draw C P n ops al m) : al.length = ops.size ∧ ∀ i, i < ops.size → ∃ o x, ops[i]? = some o ∧ al[i]? = some x ∧ cDst n o.dst = true ∧ cOp P o.op = some x.op ∧ cGuard ops.toList o.guard = some x.guard ∧ x.dst = o.dst := by
 obtain ⟨h1, h2⟩ := cOps_get h.co
 have h1' : al.length = ops.size := by simpa using h1
 refine ⟨h1', fun i hi => ?_⟩
 have hia : i < al.length := by omega
 obtain ⟨q1, q2, q3, q4⟩ := h2 i ops[i] al[i] (by simp [hi]) (by simp [hia])
 exact ⟨ops[i], al[i], by simp [hi], by simp [hia], q1, q2, q3, q4⟩
theorem tail_any {ops : Array Oper} {al : List AOper} {m : Nat} (hD : DOK ops.toList al m) (hd : Draw C P n ops al m) {K : Env → Rows → Prop} {Q' : Exit → Act → World → Prop} {ρ0 : Pl} {T0 : Nat → Prop} {rows0 : Rows} {w0 : World}
  (hK : ∀ env' rows' ρ' T' a' w', K env' rows' → Sim n ρ' T' env' rows' a' w' → Step ρ0 T0 rows0 w0 ρ' T' rows' w' → Q' .normal a' w') :
  ∀ (fuel : Nat) (L : Array Bool) (k : Nat) (env : Env) (rows : Rows) (ρ : Pl) (T : Nat → Prop) (a : Act) (w : World), m ≤ k → k ≤ ops.size → ops.size - k ≤ fuel → L.size = ops.size → (∀ j, done L j ↔ j < k) →
   aops C (al.drop k) env rows K → Sim n ρ T env rows a w → GlobOK C w T → Step ρ0 T0 rows0 w0 ρ T rows w → wpAny P .any ops Q' fuel L a w := by
 obtain ⟨hlen, hget⟩ := hd.get
 intro fuel
 have fin : ∀ (L : Array Bool) (k : Nat) (env : Env) (rows : Rows) (ρ : Pl) (T : Nat → Prop) (a : Act) (w : World), k = ops.size → aops C (al.drop k) env rows K → Sim n ρ T env rows a w → Step ρ0 T0 rows0 w0 ρ T rows w → Q' .normal a w := by
  intro L k env rows ρ T a w hk h hs hst
  subst hk
  rw [List.drop_eq_nil_of_le (by omega)] at h
  exact hK env rows ρ T a w h hs hst
 have noReady : ∀ (L : Array Bool) (k : Nat), k = ops.size → (∀ j, done L j ↔ j < k) → Region.ready .any ops L = [] := by
  intro L k hk hL
  cases hr : Region.ready .any ops L with
  | nil => rfl
  | cons i l =>
   exfalso
   obtain ⟨⟨o, ho⟩, h1, _⟩ := ready_spec (L := L) (ops := ops) (i := i) (by rw [hr]; simp)
   have hi : i < ops.size := (Array.getElem?_eq_some_iff.1 ho).1
   exact (notdone h1).1 ((hL i).2 (by omega))
 induction fuel with
 | zero =>
  intro L k env rows ρ T a w hmk hk hf hsz hL h hs hg hst
  exact ⟨noReady L k (by omega) hL, fin L k env rows ρ T a w (by omega) h hs hst⟩
 | succ fuel ih =>
  intro L k env rows ρ T a w hmk hk hf hsz hL h hs hg hst
  refine ⟨fun hr => ?_, fun i hi => ?_⟩
  ·by_cases hke : k = ops.size
   ·exact fin L k env rows ρ T a w hke h hs hst
   ·exfalso
    have hkl : k < ops.size := by omega
    have : k ∈ Region.ready .any ops L := ready_mk hkl (notdone' (fun hdn => by have := (hL k).1 hdn; omega) (by omega)) (fun j hj => (hL j).2 (hd.ok.back k j hj))
    rw [hr] at this
    cases this
  ·obtain ⟨⟨o', ho'⟩, h1, h2⟩ := ready_spec hi
   have hil : i < ops.size := (Array.getElem?_eq_some_iff.1 ho').1
   obtain ⟨hnd, hiL⟩ := notdone h1
   have hik : k ≤ i := by
    rcases Nat.lt_or_ge i k with h3 | h3
    ·exact absurd ((hL i).2 h3) hnd
    ·exact h3
   have hall := ahead_done hD (fun i' hi' j hj => (hL j).2 (Nat.lt_trans (hd.ok.back i' j hj) ((hL i').1 hi'))) hil (by omega) h2
   have hie : i = k := by
    rcases Nat.lt_or_ge k i with h3 | h3
    ·have := (hL k).1 (hall k h3); omega
    ·omega
   subst hie
   obtain ⟨o, x, ho, hx, q1, q2, q3, q4⟩ := hget i hil
   have hdrop : al.drop i = x :: al.drop (i + 1) := by
    have hlt : i < al.length := by omega
    rw [List.drop_eq_getElem_cons hlt]
    congr 1
    rw [List.getElem?_eq_getElem hlt] at hx
    exact Option.some.inj hx
   rw [hdrop] at h
   refine op_step hd.ctx ho q1 q2 q3 q4 hs hg h ?_
   intro env' rows' ρ' T' a' w' h' hs' hst'
   refine ih _ (i + 1) env' rows' ρ' T' a' w' (by omega) (by omega) (by omega) (by simpa using hsz) (fun j => ?_) h' hs' (hg.step hs hst') (hst.trans hst')
   rw [done_set hiL, hL j]
   omega
structure Run (C : Ctx) (P : Program) (n : Nat) (ops : Array Oper) (al : List AOper) (m : Nat) (env : Env) (Dd : Nat → D) (R : Nat → Rows) : Prop extends Draw C P n ops al m where
 nor : ∀ f, C.fnr f = none
 tr : ∀ i, i < m → ∃ x new, al[i]? = some x ∧ R (i + 1) = R i ++ new ∧ Ex C (evAt al Dd env i) (R i) x (Dd i) (R (i + 1))
section
variable {ops : Array Oper} {al : List AOper} {m : Nat} {env : Env} {Dd : Nat → D} {R : Nat → Rows}
theorem Run.pre (h : Run C P n ops al m env Dd R) {i j : Nat} (hij : i ≤ j) (hj : j ≤ m) : ∃ new, R j = R i ++ new :=
 prefix_of (fun i hi => by obtain ⟨x, new, _, h2, _⟩ := h.tr i hi; exact ⟨new, h2⟩) hij hj
theorem Run.le (h : Run C P n ops al m env Dd R) {i j : Nat} (hij : i ≤ j) (hj : j ≤ m) : (R i).length ≤ (R j).length := by
 obtain ⟨new, h1⟩ := h.pre hij hj
 rw [h1]; simp
theorem Run.liv (h : Run C P n ops al m env Dd R) {i j r : Nat} (hij : i ≤ j) (hj : j ≤ m) (hr : r < (R i).length) : live (R j) r = live (R i) r := by
 obtain ⟨new, h1⟩ := h.pre hij hj
 exact live_prefix h1 hr
theorem Run.uniq (h : Run C P n ops al m env Dd R) {i j t : Nat} (hi : i < m) (hj : j < m) (hne : j ≠ i) (ht : dstOf al i = some t) : dstOf al j ≠ some t := by
 obtain ⟨x, o, h1, h2, _, _, h5, _⟩ := h.ok.quiet i hi
 exact h5 j hj hne t (by simpa [dstOf, h1] using ht)
theorem Run.sees (h : Run C P n ops al m env Dd R) {L : Array Bool} {ρ0 ρ : Pl} {T0 T : Nat → Prop} {a : Act} {w0 w : World} (hI : DInv C n al m env Dd R ρ0 T0 w0 L ρ T a w) {i t : Nat} {d : D} (hi : i ≤ m)
  (hdn : ∀ j, j < m → dstOf al j = some t → done L j ∧ j < i) (hl : look (evAt al Dd env i) t = some d) : VR (res ρ (R i).length) w T d (a.tmps.getD t undef) := by
 by_cases hex : ∃ j, j < m ∧ dstOf al j = some t
 ·obtain ⟨j, hj, hdj⟩ := hex
  obtain ⟨h1, h2⟩ := hdn j hj hdj
  rw [look_evAt_some hdj i h2 (fun j' hj' hne => h.uniq hj (by omega) hne hdj)] at hl
  cases hl
  exact (hI.out j hj h1 t hdj).mono (res_mono (h.le (by omega) hi)) (fun _ _ => rfl) (fun _ h => h)
 ·have hno : ∀ j, j < m → dstOf al j ≠ some t := fun j hj hdj => hex ⟨j, hj, hdj⟩
  rw [look_evAt_none i (fun j hj => hno j (by omega))] at hl
  exact (hI.base t d hl (fun j hj _ => hno j hj)).mono (res_mono (h.le (by omega) hi)) (fun _ _ => rfl) (fun _ h => h)
theorem Run.all (h : Run C P n ops al m env Dd R) {L : Array Bool} {ρ0 ρ : Pl} {T0 T : Nat → Prop} {a : Act} {w0 w : World} (hI : DInv C n al m env Dd R ρ0 T0 w0 L ρ T a w) (hall : ∀ j, j < m → done L j) :
  Sim n ρ T (evAt al Dd env m) (R m) a w := by
 refine ⟨⟨fun r row Lc h1 h2 => ?_, fun r r' row row' Lc Lc' h1 h2 h3 h4 => ?_⟩, fun t d hl => ?_, hI.size, hI.tlt, hI.dom, hI.defers⟩
 ·have hr := live_lt h1
  have := (hI.rows m (Nat.le_refl _)).row r row Lc h1 (by unfold res; rw [if_pos hr]; exact h2)
  exact this.mono res_sub (fun _ _ => rfl) (fun _ h => h) rfl this.notT
 ·have hr := live_lt h1
  have hr' := live_lt h2
  exact (hI.rows m (Nat.le_refl _)).dist r r' row row' Lc Lc' h1 h2 (by unfold res; rw [if_pos hr]; exact h3) (by unfold res; rw [if_pos hr']; exact h4)
 ·exact (h.sees hI (Nat.le_refl _) (fun j hj _ => ⟨hall j hj, hj⟩) hl).mono res_sub (fun _ _ => rfl) (fun _ h => h)
theorem Run.start (h : Run C P n ops al m env Dd R) {L : Array Bool} {ρ : Pl} {T : Nat → Prop} {a : Act} {w : World} (hs : Sim n ρ T env (R 0) a w) (hg : GlobOK C w T) (hL : ∀ j, ¬ done L j) : DInv C n al m env Dd R ρ T w L ρ T a w := by
 have hsub : ∀ j, j ≤ m → ∀ r Lc, ρ r = some Lc → res ρ (R j).length r = some Lc := by
  intro j hj r Lc hr
  unfold res
  rw [if_pos]
  ·exact hr
  ·have := h.le (Nat.zero_le j) hj
   rcases Nat.lt_or_ge r (R 0).length with h1 | h1
   ·omega
   ·rw [hs.dom r h1] at hr; cases hr
 have hlow : ∀ r Lc, ρ r = some Lc → r < (R 0).length := by
  intro r Lc hr
  rcases Nat.lt_or_ge r (R 0).length with h1 | h1
  ·exact h1
  ·rw [hs.dom r h1] at hr; cases hr
 refine ⟨hs.size, hs.defers, hs.tlt, hg, fun r hr => hs.dom r (Nat.le_trans (h.le (Nat.zero_le m) (Nat.le_refl _)) hr), fun j hj => ⟨fun r row Lc h1 h2 => ?_, fun r r' row row' Lc Lc' h1 h2 h3 h4 => ?_⟩,
  fun j hj _ r hr _ => hs.dom r (Nat.le_trans (h.le (Nat.zero_le j) (by omega)) hr), fun t d hl _ => (hs.env t d hl).mono (hsub 0 (Nat.zero_le _)) (fun _ _ => rfl) (fun _ h => h),
  fun j hj hdn => absurd hdn (hL j), ?_⟩
 ·have h3 := res_sub r Lc h2
  rw [h.liv (Nat.zero_le j) hj (hlow r Lc h3)] at h1
  have := hs.rowsOK.row r row Lc h1 h3
  exact this.mono (hsub j hj) (fun _ _ => rfl) (fun _ h => h) rfl this.notT
 ·have q3 := res_sub r Lc h3
  have q4 := res_sub r' Lc' h4
  rw [h.liv (Nat.zero_le j) hj (hlow r Lc q3)] at h1
  rw [h.liv (Nat.zero_le j) hj (hlow r' Lc' q4)] at h2
  exact hs.rowsOK.dist r r' row row' Lc Lc' h1 h2 q3 q4
 ·refine ⟨fun _ _ h => h, fun _ h => h, fun _ h => .inl h, Nat.le_refl _, fun _ _ _ => rfl, fun r row Lc h1 h2 => ?_, rfl, rfl, rfl, h.le (Nat.zero_le m) (Nat.le_refl _), fun _ _ => rfl⟩
  rw [h.liv (Nat.zero_le m) (Nat.le_refl _) (hlow r Lc h2)] at h1
  exact .inl ⟨r, row, Lc, h1, h2, rfl⟩
theorem Run.next (h : Run C P n ops al m env Dd R) {L : Array Bool} {ρ0 ρ ρ' : Pl} {T0 T T' : Nat → Prop} {a : Act} {w0 w w' : World} (hI : DInv C n al m env Dd R ρ0 T0 w0 L ρ T a w) {i : Nat} (hi : i < m) (hiL : i < L.size) (hnd : ¬ done L i)
  {env' : Env} {v : Value} (hdst : ∀ t, dstOf al i = some t → t < n) (hs : Sim n ρ' T' env' (R (i + 1)) a w') (hst : Step (res ρ (R i).length) T (R i) w ρ' T' (R (i + 1)) w') (hv : VR ρ' w' T' (Dd i) v) (hk0 : QH (res ρ (R i).length) (R i) w w') (hfr : ∀ b, T' b → T b ∨ w.heap.size ≤ b) :
  DInv C n al m env Dd R ρ0 T0 w0 (L.setIfInBounds i true) (fun r => if r < (R i).length then ρ r else if r < (R (i + 1)).length then ρ' r else ρ r) T' (a.put (dstOf al i) v) w' := by
 let ρn : Pl := fun r => if r < (R i).length then ρ r else if r < (R (i + 1)).length then ρ' r else ρ r
 show DInv C n al m env Dd R ρ0 T0 w0 (L.setIfInBounds i true) ρn T' (a.put (dstOf al i) v) w'
 have hle : (R i).length ≤ (R (i + 1)).length := h.le (by omega) (by omega)
 have hw : ∀ b, T b → w'.heap[b]? = w.heap[b]? := fun b hb => by
  rcases hk0 b (hI.tlt b hb) with h1 | ⟨_, r, row, Lc, h2, h3, rfl⟩
  ·exact h1
  ·exact absurd hb ((hI.rows i (by omega)).row r row Lc h2 h3).notT
 -- old and new places
 have e1 : ∀ r, r < (R i).length → ρn r = ρ r := fun r hr => by simp only [ρn]; rw [if_pos hr]
 have e2 : ∀ r, (R i).length ≤ r → r < (R (i + 1)).length → ρn r = ρ' r := fun r hr hr' => by simp only [ρn]; rw [if_neg (by omega), if_pos hr']
 have e3 : ∀ r, (R (i + 1)).length ≤ r → ρn r = ρ r := fun r hr => by simp only [ρn]; rw [if_neg (by omega), if_neg (by omega)]
 have hA : ∀ r Lc, ρ r = some Lc → ρn r = some Lc := by
  intro r Lc hr
  rcases Nat.lt_or_ge r (R i).length with h1 | h1
  ·rw [e1 r h1]; exact hr
  ·rcases Nat.lt_or_ge r (R (i + 1)).length with h2 | h2
   ·rw [hI.hole i hi hnd r h1 h2] at hr; cases hr
   ·rw [e3 r h2]; exact hr
 have hB : ∀ r Lc, ρ' r = some Lc → ρn r = some Lc ∧ r < (R (i + 1)).length := by
  intro r Lc hr
  rcases Nat.lt_or_ge r (R (i + 1)).length with h2 | h2
  ·refine ⟨?_, h2⟩
   rcases Nat.lt_or_ge r (R i).length with h1 | h1
   ·rw [e1 r h1]
    have := hst.same r h1
    rw [this] at hr
    exact res_sub r Lc hr
   ·rw [e2 r h1 h2]; exact hr
  ·rw [hs.dom r h2] at hr; cases hr
 have hAr : ∀ k r Lc, res ρ k r = some Lc → res ρn k r = some Lc := by
  intro k r Lc hr
  unfold res at hr ⊢
  split at hr
  ·rename_i hlt; rw [if_pos hlt]; exact hA r Lc hr
  ·cases hr
 have hBr : ∀ k, (R (i + 1)).length ≤ k → ∀ r Lc, ρ' r = some Lc → res ρn k r = some Lc := by
  intro k hkk r Lc hr
  obtain ⟨h1, h2⟩ := hB r Lc hr
  unfold res
  rw [if_pos (by omega)]; exact h1
 -- a place is old or new
 have hcase : ∀ j, j ≤ m → ∀ r row Lc, live (R j) r = some row → ρn r = some Lc → (ρ r = some Lc) ∨ ((R i).length ≤ r ∧ r < (R (i + 1)).length ∧ ρ' r = some Lc ∧ live (R (i + 1)) r = some row ∧ w.heap.size ≤ Lc.b ∧ i + 1 ≤ j) := by
  intro j hj r row Lc hl hr
  rcases Nat.lt_or_ge r (R i).length with h1 | h1
  ·exact .inl (by rw [← e1 r h1]; exact hr)
  ·rcases Nat.lt_or_ge r (R (i + 1)).length with h2 | h2
   ·rw [e2 r h1 h2] at hr
    have hij : i + 1 ≤ j := by
     rcases Nat.lt_or_ge i j with h3 | h3
     ·exact h3
     ·have := h.le h3 (by omega)
      have := live_lt hl
      omega
    have hl' : live (R (i + 1)) r = some row := by rw [← h.liv hij hj h2]; exact hl
    refine .inr ⟨h1, h2, hr, hl', ?_, hij⟩
    rcases hst.fresh r row Lc hl' hr with ⟨r0, row0, L0, q1, q2, q3⟩ | q
    ·exfalso
     have hr0 := live_lt q1
     have q4 : live (R (i + 1)) r0 = some row0 := by rw [h.liv (by omega) (by omega) hr0]; exact q1
     exact hs.rowsOK.dist r0 r row0 row L0 Lc q4 hl' (hst.pl r0 L0 q2) hr (by omega) q3
    ·exact q
   ·exact .inl (by rw [← e3 r h2]; exact hr)
 have hold : ∀ j, j ≤ m → ∀ r row Lc, live (R j) r = some row → ρ r = some Lc → RowOK (res ρ (R j).length) row Lc w T := by
  intro j hj r row Lc hl hr
  refine (hI.rows j hj).row r row Lc hl ?_
  unfold res; rw [if_pos (live_lt hl)]; exact hr
 refine ⟨?_, ?_, hs.tlt, hI.glob.keep hw hst.tt, fun r hr => ?_, fun j hj => ⟨fun r row Lc h1 h2 => ?_, fun r r' row row' Lc Lc' h1 h2 h3 h4 hne => ?_⟩, fun j hj hdn r h1 h2 => ?_, fun t d hl hno => ?_, fun j hj hdn t ht => ?_, ?_⟩
 ·cases hdd : dstOf al i with
  | none => exact hI.size
  | some t => simpa [Act.put] using hI.size
 ·cases hdd : dstOf al i with
  | none => exact hI.defers
  | some t => simpa [Act.put] using hI.defers
 ·have := h.le (i := i + 1) (j := m) (by omega) (Nat.le_refl _)
  rw [e3 r (by omega)]
  exact hI.dom r hr
 ·rcases hcase j hj r row Lc h1 (res_sub r Lc h2) with h3 | ⟨q1, q2, q3, q4, q5, q6⟩
  ·have hro := hold j hj r row Lc h1 h3
   refine hro.monoQ (hAr _) hw hst.tt ((hk0 _ hro.lt).imp_right (·.1)) (fun hT => ?_)
   rcases hfr _ hT with h4 | h4
   ·exact hro.notT h4
   ·have := hro.lt; omega
  ·have hro := hs.rowsOK.row r row Lc q4 q3
   exact hro.mono (hBr _ (h.le q6 hj)) (fun _ _ => rfl) (fun _ h => h) rfl hro.notT
 ·rcases hcase j hj r row Lc h1 (res_sub r Lc h3) with p | ⟨q1, q2, q3, q4, q5, q6⟩
  ·rcases hcase j hj r' row' Lc' h2 (res_sub r' Lc' h4) with p' | ⟨q1', q2', q3', q4', q5', q6'⟩
   ·refine (hI.rows j hj).dist r r' row row' Lc Lc' h1 h2 ?_ ?_ hne
    ·unfold res; rw [if_pos (live_lt h1)]; exact p
    ·unfold res; rw [if_pos (live_lt h2)]; exact p'
   ·have := (hold j hj r row Lc h1 p).lt; omega
  ·rcases hcase j hj r' row' Lc' h2 (res_sub r' Lc' h4) with p' | ⟨q1', q2', q3', q4', q5', q6'⟩
   ·have := (hold j hj r' row' Lc' h2 p').lt; omega
   ·exact hs.rowsOK.dist r r' row row' Lc Lc' q4 q4' q3 q3' hne
 ·have hne : j ≠ i := fun e => hdn ((done_set hiL).2 (.inr e))
  have hnd' : ¬ done L j := fun hh => hdn ((done_set hiL).2 (.inl hh))
  rcases Nat.lt_or_gt_of_ne hne with h3 | h3
  ·have := h.le (i := j + 1) (j := i) (by omega) (by omega)
   rw [e1 r (by omega)]
   exact hI.hole j hj hnd' r h1 h2
  ·have := h.le (i := i + 1) (j := j) (by omega) (by omega)
   rw [e3 r (by omega)]
   exact hI.hole j hj hnd' r h1 h2
 ·rw [getD_put_ne (hno i hi ((done_set hiL).2 (.inr rfl)))]
  exact (hI.base t d hl (fun j hj hdn => hno j hj ((done_set hiL).2 (.inl hdn)))).mono (hAr _) hw hst.tt
 ·by_cases hji : j = i
  ·subst hji
   rw [ht, getD_put_eq (by rw [hI.size]; exact hdst t ht)]
   exact hv.mono (hBr _ (Nat.le_refl _)) (fun _ _ => rfl) (fun _ h => h)
  ·have hdn' : done L j := by
    rcases (done_set hiL).1 hdn with h1 | h1
    ·exact h1
    ·exact absurd h1 hji
   rw [getD_put_ne (h.uniq hj hi (fun e => hji e.symm) ht)]
   exact (hI.out j hj hdn' t ht).mono (hAr _) hw hst.tt
 ·have hs0 := hI.step
  refine ⟨fun r Lc hr => hA r Lc (hs0.pl r Lc hr), fun b hb => hst.tt b (hs0.tt b hb), fun b hb => ?_, Nat.le_trans hs0.size hst.size, fun b hb hn => ?_, fun r row Lc h1 h2 => ?_, hst.os.trans hs0.os, hst.tape.trans hs0.tape, hst.output.trans hs0.output, hs0.len, fun r hr => ?_⟩
  ·rcases hfr b hb with h1 | h1
   ·exact hs0.tnew b h1
   ·exact .inr (.inl (Nat.le_trans hs0.size h1))
  ·rcases hk0 b (Nat.lt_of_lt_of_le hb hs0.size) with h1 | ⟨_, r, row, Lc, h2, h3, h4⟩
   ·rw [h1]
    exact hs0.keep b hb hn
   ·exfalso
    have h5 : live (R m) r = some row := by rw [h.liv (by omega) (Nat.le_refl _) (live_lt h2)]; exact h2
    rcases hs0.fresh r row Lc h5 (res_sub r Lc h3) with ⟨r0, row0, L0, q1, q2, q3⟩ | q
    ·exact hn r0 row0 L0 q1 q2 (q3.trans h4)
    ·omega
  ·rcases hcase m (Nat.le_refl _) r row Lc h1 h2 with p | ⟨q1, q2, q3, q4, q5, q6⟩
   ·exact hs0.fresh r row Lc h1 p
   ·exact .inr (Nat.le_trans hs0.size q5)
  ·have := h.le (i := 0) (j := i) (by omega) (by omega)
   rw [e1 r (by omega)]
   exact hs0.same r hr
theorem Run.any (hD : DOK ops.toList al m) (h : Run C P n ops al m env Dd R) {C' : Ctx} (hC' : CtxOK C' P) (hGl : ∀ w T, GlobOK C w T → GlobOK C' w T) {K : Env → Rows → Prop} {Q' : Exit → Act → World → Prop} {ρ0 : Pl} {T0 : Nat → Prop} {w0 : World} (htail : aops C' (al.drop m) (evAt al Dd env m) (R m) K)
  (hK : ∀ env' rows' ρ' T' a' w', K env' rows' → Sim n ρ' T' env' rows' a' w' → Step ρ0 T0 (R 0) w0 ρ' T' rows' w' → Q' .normal a' w') :
  ∀ (fuel : Nat) (L : Array Bool) (ρ : Pl) (T : Nat → Prop) (a : Act) (w : World), undone L ops.size ≤ fuel → L.size = ops.size → (∀ j, done L j → j < m) → (∀ i, done L i → ∀ j, dep ops.toList i j = true → done L j) → DInv C n al m env Dd R ρ0 T0 w0 L ρ T a w → wpAny P .any ops Q' fuel L a w := by
 obtain ⟨hlen, hget⟩ := h.toDraw.get
 have hm : m ≤ ops.size := by have := h.ok.le; simpa using this
 intro fuel
 induction fuel with
 | zero =>
  intro L ρ T a w hf hsz hdm hcl hI
  have hall : ∀ j, j < ops.size → done L j := by
   intro j hj
   refine Classical.byContradiction fun hn => ?_
   have := undone_set hj (by omega) (notdone' hn (by omega))
   omega
  have hs := h.all hI (fun j hj => hall j (by omega))
  have hme : m = ops.size := by
   rcases Nat.lt_or_ge m ops.size with h1 | h1
   ·have := hdm m (hall m h1); omega
   ·omega
  exact tail_any hD (C := C') ⟨h.ok, h.co, hC'⟩ hK 0 L m _ _ ρ T a w (Nat.le_refl _) hm (by omega) hsz (fun j => ⟨hdm j, fun hj => hall j (by omega)⟩) htail hs (hGl _ _ hI.glob) hI.step
 | succ fuel ih =>
  intro L ρ T a w hf hsz hdm hcl hI
  by_cases hall : ∀ j, j < m → done L j
  ·have hs := h.all hI hall
   refine tail_any hD (C := C') ⟨h.ok, h.co, hC'⟩ hK (fuel + 1) L m _ _ ρ T a w (Nat.le_refl _) hm ?_ hsz (fun j => ⟨hdm j, hall j⟩) htail hs (hGl _ _ hI.glob) hI.step
   have : ∀ k, k ≤ ops.size → m ≤ k → k - m ≤ undone L k := by
    intro k
    induction k with
    | zero => intro _ _; omega
    | succ k ihk =>
     intro h1 h2
     rcases Nat.lt_or_ge k m with h3 | h3
     ·omega
     ·have := ihk (by omega) h3
      have hnk : L.getD k false = false := by
       cases hb : L.getD k false with
       | false => rfl
       | true => have := hdm k hb; omega
      have hu : undone L (k + 1) = undone L k + 1 := by
       unfold undone
       rw [List.range_succ, List.filter_append, List.filter_cons, hnk]
       simp only [Bool.not_false, if_true, List.filter_nil, List.length_append, List.length_cons, List.length_nil]
      omega
   have := this ops.size (Nat.le_refl _) hm
   omega
  ·have hex : ∃ j, j < m ∧ ¬ done L j := by
    refine Classical.byContradiction fun hne => ?_
    exact hall fun j hj => by
     refine Classical.byContradiction fun hn => ?_
     exact hne ⟨j, hj, hn⟩
   refine ⟨fun hr => ?_, fun i hi => ?_⟩
   ·exfalso
    -- the least one not done is ready
    have key : ∀ k, (∀ j, j < k → j < m → done L j) ∨ ∃ j, j < k ∧ j < m ∧ ¬ done L j ∧ ∀ j', j' < j → done L j' := by
     intro k
     induction k with
     | zero => left; intro j hj; omega
     | succ k ihk =>
      rcases ihk with h1 | ⟨j, q1, q2, q3, q4⟩
      ·by_cases hk : k < m ∧ ¬ done L k
       ·right
        exact ⟨k, by omega, hk.1, hk.2, fun j' hj' => h1 j' hj' (by omega)⟩
       ·left
        intro j hj hjm
        rcases Nat.lt_or_ge j k with h3 | h3
        ·exact h1 j h3 hjm
        ·have : j = k := by omega
         subst this
         refine Classical.byContradiction fun hn => ?_
         exact hk ⟨hjm, hn⟩
      ·right; exact ⟨j, by omega, q2, q3, q4⟩
    rcases key m with h1 | ⟨j, q1, q2, q3, q4⟩
    ·exact hall fun j hj => h1 j hj hj
    ·have : j ∈ Region.ready .any ops L := ready_mk (by omega) (notdone' q3 (by omega)) (fun j' hj' => q4 j' (h.ok.back j j' hj'))
     rw [hr] at this
     cases this
   ·obtain ⟨⟨o', ho'⟩, h1, h2⟩ := ready_spec hi
    have hil : i < ops.size := (Array.getElem?_eq_some_iff.1 ho').1
    obtain ⟨hnd, hiL⟩ := notdone h1
    have him : i < m := by
     rcases Nat.lt_or_ge i m with h3 | h3
     ·exact h3
     ·exfalso
      have := ahead_done hD hcl hil h3 h2
      obtain ⟨j, hj, hn⟩ := hex
      exact hn (this j (by omega))
    obtain ⟨o, x, ho, hx, q1, q2, q3, q4⟩ := hget i hil
    obtain ⟨x', new, hx', hR, hE⟩ := h.tr i him
    rw [hx] at hx'
    cases hx'
    obtain ⟨x', o', hx', ho'', hqa, hqo, _, hu⟩ := h.ok.quiet i him
    rw [hx] at hx'
    cases hx'
    have ho3 : ops[i]? = some o' := by simpa using ho''
    rw [ho] at ho3
    cases ho3
    have hs : Sim n (res ρ (R i).length) T (small (evAt al Dd env i) (uses x)) (R i) a w := by
     refine ⟨hI.rows i (by omega), fun t d hl => ?_, hI.size, hI.tlt, fun r hr => ?_, hI.defers⟩
     ·obtain ⟨ht, hl⟩ := small_sub hl
      refine h.sees hI (by omega) (fun j hj hdj => ?_) hl
      have := hu t ht j hj hdj
      exact ⟨h2 j this, h.ok.back i j this⟩
     ·unfold res; rw [if_neg (by omega)]
    have hdl : dstOf al i = o.dst := by simp [dstOf, hx, q4]
    refine ex_wp h.nor h.ctx ho q2 q3 hs hI.glob hqo hE.congr ?_
    intro ρ' T' v w' hs' hst' hv' hk'
    have hI' := h.next hI him hiL hnd (fun t ht => cDst_lt q1 t (by rw [← hdl]; exact ht)) hs' hst' hv' hk'.1 hk'.2
    rw [hdl] at hI'
    refine ih _ _ T' _ w' ?_ (by simpa using hsz) (fun j hj => ?_) (fun i' hi' j hj => ?_) hI'
    ·have := undone_set hil hiL h1
     omega
    ·rcases (done_set hiL).1 hj with h3 | h3
     ·exact hdm j h3
     ·omega
    ·refine (done_set hiL).2 (.inl ?_)
     rcases (done_set hiL).1 hi' with h3 | h3
     ·exact hcl i' h3 j hj
     ·subst h3; exact h2 j hj
end
theorem draw_sound (hN : ∀ f, C.fnr f = none) (hC : CtxOK C P) (hP : P.follows .mixedOrders = true) {id : Nat} {ops : Array Oper} {al : List AOper} (hc : cOps P n ops.toList ops.toList = some al) (hd : drawOK ops.toList al = true)
  {env : Env} {rows : Rows} {ρ : Pl} {T : Nat → Prop} {a : Act} {w : World} {Q : AExit → Env → Rows → Prop} {Q' : Exit → Act → World → Prop} (h : aops C al env rows (Q .normal)) (hs : Sim n ρ T env rows a w) (hg : GlobOK C w T)
  (hp : Post n ρ T rows w Q Q') : (Code.region id ops true).wp P Q' a w := by
 obtain ⟨m, _, hm⟩ := List.any_eq_true.1 hd
 have hok := dOK_spec hm
 have hlen := (cOps_get hc).1
 have hq : ∀ i, i < m → ∃ x, al[i]? = some x ∧ quietA x.op = true := by
  intro i hi
  obtain ⟨x, o, h1, _, h3, _⟩ := hok.quiet i hi
  exact ⟨x, h1, h3⟩
 obtain ⟨Dd, R, h0, h1, h2⟩   := trace hN m (by rw [hlen]; exact hok.le) hq h
 subst h0
 have hrun : Run C P n ops al m env Dd R := ⟨⟨hok.toDOK0, hc, hC⟩, hN, h1⟩
 have hw1 : Sim n ρ T env (R 0) a { w with drawn := w.drawn + 1 } := hs.heap rfl
 have hg1 : GlobOK C { w with drawn := w.drawn + 1 } T := hg.keep (fun _ _ => rfl) (fun _ h => h)
 have hLf : ∀ j, ¬ done (Array.replicate ops.size false) j := by
  intro j hj
  unfold done at hj
  simp [Array.getD] at hj
 refine wp_region_any hP (hrun.any hok hC (fun _ _ h => h) h2 (w0 := { w with drawn := w.drawn + 1 }) (ρ0 := ρ) (T0 := T) ?_ ops.size _ ρ T a _ ?_ (by simp) (fun j hj => absurd hj (hLf j)) (fun i hi => absurd hi (hLf i)) (hrun.start hw1 hg1 hLf))
 ·intro env' rows' ρ' T' a' w' hk hs' hst'
  exact hp .normal env' rows' ρ' T' a' w' hk hs' ⟨hst'.pl, hst'.tt, hst'.tnew, hst'.size, hst'.keep, hst'.fresh, hst'.os, hst'.tape, hst'.output, hst'.len, hst'.same⟩
 ·unfold undone
  exact Nat.le_trans (List.length_filter_le _ _) (by simp)
end Go.Am
namespace Go.Am
set_option linter.unusedVariables false
set_option linter.unusedSimpArgs false
variable {C : Ctx} {P : Program} {n : Nat}
def hideE (env : Env) (ts : List Nat) : Env := env.filter fun p => !ts.contains p.1
theorem look_hide (ts : List Nat) (t : Nat) : ∀ (env : Env), look (hideE env ts) t = if t ∈ ts then none else look env t
 | [] => by simp [hideE, look]
 | (k, d) :: env => by
  have ih := look_hide ts t env
  simp only [hideE, List.filter_cons] at ih ⊢
  by_cases hk : k ∈ ts
  ·have : (!ts.contains k) = false := by simp [hk]
   simp only [this]
   rw [if_neg (by simp), ih]
   by_cases ht : t ∈ ts
   ·simp [ht]
   ·have : (k == t) = false := by
     have : k ≠ t := fun e => ht (e ▸ hk)
     simpa using this
    simp [ht, look, this]
  ·have : (!ts.contains k) = true := by simp [hk]
   simp only [this, if_true, look]
   cases hkt : (k == t) with
   | true =>
    have : k = t := by simpa using hkt
    subst this
    simp [hk]
   | false => simpa using ih
def undL (al : List AOper) (m : Nat) (L : Array Bool) : List Nat := (List.range m).filterMap fun j => bif L.getD j false then none else dstOf al j
theorem mem_undL {al : List AOper} {m : Nat} {L : Array Bool} {t : Nat} : t ∈ undL al m L ↔ ∃ j, j < m ∧ ¬ done L j ∧ dstOf al j = some t := by
 unfold undL done
 rw [List.mem_filterMap]
 constructor
 ·rintro ⟨j, hj, h⟩
  cases hb : L.getD j false with
  | true => rw [hb] at h; cases h
  | false => rw [hb] at h; exact ⟨j, by simpa using hj, by rw [hb]; simp, h⟩
 ·rintro ⟨j, hj, h1, h2⟩
  refine ⟨j, by simpa using hj, ?_⟩
  have : L.getD j false = false := by simpa using h1
  rw [this]; exact h2
def hid (al : List AOper) (m : Nat) (L : Array Bool) (env : Env) : Env := hideE env (undL al m L)
theorem look_hid {al : List AOper} {m : Nat} {L : Array Bool} {env : Env} {t : Nat} (h : ∀ j, j < m → ¬ done L j → dstOf al j ≠ some t) : look (hid al m L env) t = look env t := by
 unfold hid
 rw [look_hide, if_neg]
 rw [mem_undL]
 rintro ⟨j, h1, h2, h3⟩
 exact h j h1 h2 h3
theorem look_hid_some {al : List AOper} {m : Nat} {L : Array Bool} {env : Env} {t : Nat} {d : D} (h : look (hid al m L env) t = some d) : look env t = some d ∧ ∀ j, j < m → ¬ done L j → dstOf al j ≠ some t := by
 unfold hid at h
 rw [look_hide] at h
 split at h
 ·cases h
 ·rename_i hn
  refine ⟨h, fun j h1 h2 h3 => hn (mem_undL.2 ⟨j, h1, h2, h3⟩)⟩
theorem Sim.ext {ρ : Pl} {T : Nat → Prop} {env env' : Env} {rows : Rows} {a : Act} {w : World} (h : Sim n ρ T env rows a w) (he : ∀ t d, look env' t = some d → look env t = some d) : Sim n ρ T env' rows a w :=
 ⟨h.rowsOK, fun t d hd => h.env t d (he t d hd), h.size, h.tlt, h.dom, h.defers⟩
def KH (dst : Option Nat) (hd env : Env) (K0 : Env → Rows → Prop) : Env → Rows → Prop := fun env' rows => match dst with
 | some t => ∃ d, env' = (t, d) :: hd ∧ K0 ((t, d) :: env) rows
 | none => env' = hd ∧ K0 env rows
theorem KH_put (dst : Option Nat) (hd env : Env) (K0 : Env → Rows → Prop) (d : D) (rows : Rows) : KH dst hd env K0 (put dst d hd) rows = K0 (put dst d env) rows := by
 cases dst with
 | none => simp [KH, put]
 | some t =>
  simp only [KH, put]
  apply propext
  constructor
  ·rintro ⟨d', h1, h2⟩
   cases h1
   exact h2
  ·intro h
   exact ⟨d, rfl, h⟩
theorem aops1_KH {x : AOper} {hd env : Env} {rows : Rows} {K0 : Env → Rows → Prop} (hev : ∀ t, t ∈ uses x → look hd t = look env t) (h : aops C [x] env rows K0) : aops C [x] hd rows (KH x.dst hd env K0) := by
 obtain ⟨dst, o, g⟩ := x
 have hx : ∀ y ∈ o.xs, ev C hd y = ev C env y := by
  intro y hy
  cases y with
  | tmp t => exact hev t (List.mem_append_left _ (mem_xslots hy))
  | const _ => rfl
  | glob _ => rfl
 have hop : ∀ k : D → Rows → Prop, aop C hd rows o k = aop C env rows o k := fun k => aop_congr hx k
 have e1 : (fun d rows => aops C [] (put dst d hd) rows (KH dst hd env K0)) = fun d rows => aops C [] (put dst d env) rows K0 := by
  funext d r
  exact KH_put dst hd env K0 d r
 cases g with
 | none =>
  show aop C hd rows o (fun d rows => aops C [] (put dst d hd) rows (KH dst hd env K0))
  rw [e1, hop]
  exact h
 | some gw =>
  obtain ⟨g, want⟩ := gw
  have hg : look hd g = look env g := hev g (by simp [uses])
  have h' := h
  simp only [aops] at h' ⊢
  rw [hg]
  obtain ⟨v, hv, hk⟩ := bnd_some h'
  rw [hv]
  split at hk
  ·rename_i t
   show ((t = want → aop C hd rows o fun d rows => KH dst hd env K0 (put dst d hd) rows) ∧ (t = !want → KH dst hd env K0 (put dst (.tup []) hd) rows))
   refine ⟨fun ht => ?_, fun ht => ?_⟩
   ·have e2 : (fun d rows => KH dst hd env K0 (put dst d hd) rows) = fun d rows => K0 (put dst d env) rows := by
     funext d r
     exact KH_put dst hd env K0 d r
    rw [e2, hop]
    exact hk.1 ht
   ·rw [KH_put]; exact hk.2 ht
  ·show KH dst hd env K0 (put dst (.tup []) hd) rows
   rw [KH_put]; exact hk
  ·exact hk.elim
theorem anc_done {ops : Array Oper} {L : Array Bool} (hcl : ∀ i, done L i → ∀ j, dep ops.toList i j = true → done L j) : ∀ (f i j : Nat), (∀ j, dep ops.toList i j = true → done L j) → anc ops.toList f i j = true → done L j
 | 0, i, j, _, h => by simp [anc] at h
 | f + 1, i, j, hd, h => by
  simp only [anc, Bool.or_eq_true] at h
  rcases h with h | h
  ·exact hd j h
  ·obtain ⟨k, _, hk⟩ := List.any_eq_true.1 h
   simp only [Bool.and_eq_true] at hk
   exact anc_done hcl f k j (fun q hq => hcl k (hd k hk.1) q hq) hk.2
theorem stabs_mem {env : Env} {rows : Rows} : ∀ {l : List AOper} {y : AOper}, stabs C env rows l → y ∈ l → aop C env rows y.op (stab1 env rows y.dst)
 | [], y, _, h => by simp at h
 | x :: l, y, h, hy => by
  rcases List.mem_cons.1 hy with rfl | hy
  ·exact h.1
  ·exact stabs_mem h.2 hy
theorem tail2_any {ops : Array Oper} {al : List AOper} {m : Nat} (hD : DOK2 ops.toList al m) (hd : Draw C P n ops al m) {K : Env → Rows → Prop} {Q' : Exit → Act → World → Prop} {ρ0 : Pl} {T0 : Nat → Prop} {rows0 : Rows} {w0 : World}
  (hK : ∀ env' rows' ρ' T' a' w', K env' rows' → Sim n ρ' T' env' rows' a' w' → Step ρ0 T0 rows0 w0 ρ' T' rows' w' → Q' .normal a' w') :
  ∀ (fuel : Nat) (L : Array Bool) (k : Nat) (env : Env) (rows : Rows) (ρ : Pl) (T : Nat → Prop) (a : Act) (w : World), m ≤ k → k ≤ ops.size → undone L ops.size ≤ fuel → L.size = ops.size → (∀ j, k ≤ j → ¬ done L j) → (∀ j, m ≤ j → j < k → done L j) →
   (∀ i, done L i → ∀ j, dep ops.toList i j = true → done L j) → (∀ j, j < m → ¬ done L j → ∃ y, al[j]? = some y ∧ y.guard = none ∧ (∃ t, y.dst = some t) ∧ aop C env rows y.op (stab1 env rows y.dst)) →
   aopsT C (tailL ops.toList al m k (ops.size - k)) env rows K → Sim n ρ T (hid al m L env) rows a w → GlobOK C w T → Step ρ0 T0 rows0 w0 ρ T rows w → wpAny P .any ops Q' fuel L a w := by
 obtain ⟨hlen, hget⟩ := hd.get
 intro fuel
 have fin : ∀ (L : Array Bool) (k : Nat) (env : Env) (rows : Rows) (ρ : Pl) (T : Nat → Prop) (a : Act) (w : World), k = ops.size → (∀ j, j < ops.size → done L j) → m ≤ k → aopsT C (tailL ops.toList al m k (ops.size - k)) env rows K → Sim n ρ T (hid al m L env) rows a w → Step ρ0 T0 rows0 w0 ρ T rows w → Q' .normal a w := by
  intro L k env rows ρ T a w hk hall hmk h hs hst
  subst hk
  rw [Nat.sub_self] at h
  exact hK env rows ρ T a w h (hs.ext fun t d hl => by rw [look_hid (fun j hj hn => absurd (hall j (by omega)) hn)]; exact hl) hst
 have hmin : ∀ (L : Array Bool), L.size = ops.size → (∃ j, j < ops.size ∧ ¬ done L j) → ∃ j, j ∈ Region.ready .any ops L := by
  intro L hsz ⟨j, hj, hn⟩
  have key : ∀ q, (∀ j, j < q → done L j) ∨ ∃ j, j < q ∧ ¬ done L j ∧ ∀ j', j' < j → done L j' := by
   intro q
   induction q with
   | zero => left; intro j hj; omega
   | succ q ih =>
    rcases ih with h1 | ⟨j, q1, q2, q3⟩
    ·by_cases hq : done L q
     ·left; intro j hj
      rcases Nat.lt_or_ge j q with h2 | h2
      ·exact h1 j h2
      ·have : j = q := by omega
       subst this; exact hq
     ·exact .inr ⟨q, by omega, hq, h1⟩
    ·exact .inr ⟨j, by omega, q2, q3⟩
  rcases key ops.size with h1 | ⟨j', q1, q2, q3⟩
  ·exact absurd (h1 j hj) hn
  ·exact ⟨j', ready_mk q1 (notdone' q2 (by omega)) (fun j'' hj'' => q3 j'' (hd.ok.back j' j'' hj''))⟩
 have alldone : ∀ (L : Array Bool), L.size = ops.size → Region.ready .any ops L = [] → ∀ j, j < ops.size → done L j := by
  intro L hsz hr j hj
  refine Classical.byContradiction fun hn => ?_
  obtain ⟨i, hi⟩ := hmin L hsz ⟨j, hj, hn⟩
  rw [hr] at hi
  cases hi
 have kend : ∀ (L : Array Bool) (k : Nat), k ≤ ops.size → (∀ j, k ≤ j → ¬ done L j) → (∀ j, j < ops.size → done L j) → k = ops.size := by
  intro L k hk h1 h2
  rcases Nat.lt_or_ge k ops.size with h3 | h3
  ·exact absurd (h2 k h3) (h1 k (Nat.le_refl _))
  ·omega
 induction fuel with
 | zero =>
  intro L k env rows ρ T a w hmk hk hf hsz hhi hlo hcl hob h hs hg hst
  have hall : ∀ j, j < ops.size → done L j := by
   intro j hj
   refine Classical.byContradiction fun hn => ?_
   have := undone_set hj (by omega) (notdone' hn (by omega))
   omega
  have hke := kend L k hk hhi hall
  refine ⟨?_, fin L k env rows ρ T a w hke hall hmk h hs hst⟩
  cases hr : Region.ready .any ops L with
  | nil => rfl
  | cons i l =>
   exfalso
   obtain ⟨⟨o, ho⟩, h1, _⟩ := ready_spec (L := L) (ops := ops) (i := i) (by rw [hr]; simp)
   exact (notdone h1).1 (hall i (Array.getElem?_eq_some_iff.1 ho).1)
 | succ fuel ih =>
  intro L k env rows ρ T a w hmk hk hf hsz hhi hlo hcl hob h hs hg hst
  refine ⟨fun hr => ?_, fun i hi => ?_⟩
  ·have hall := alldone L hsz hr
   exact fin L k env rows ρ T a w (kend L k hk hhi hall) hall hmk h hs hst
  ·obtain ⟨⟨o', ho'⟩, h1, h2⟩ := ready_spec hi
   have hil : i < ops.size := (Array.getElem?_eq_some_iff.1 ho').1
   obtain ⟨hnd, hiL⟩ := notdone h1
   obtain ⟨o, x, ho, hx, q1, q2, q3, q4⟩ := hget i hil
   have hunf : undone (L.setIfInBounds i true) ops.size ≤ fuel := by have := undone_set hil hiL h1; omega
   have hcl' : ∀ i', done (L.setIfInBounds i true) i' → ∀ j, dep ops.toList i' j = true → done (L.setIfInBounds i true) j := by
    intro i' hi' j hj
    refine (done_set hiL).2 (.inl ?_)
    rcases (done_set hiL).1 hi' with h3 | h3
    ·exact hcl i' h3 j hj
    ·subst h3; exact h2 j hj
   rcases Nat.lt_or_ge i m with him | him
   · -- a quiet one that comes late
    obtain ⟨y, hy, hyg, ⟨t, hyt⟩, hya⟩ := hob i him hnd
    rw [hx] at hy
    cases hy
    obtain ⟨x', o2, hx', ho2, hqa, hqo, _, hu⟩ := hD.quiet i him
    rw [hx] at hx'
    cases hx'
    have hev : ∀ t', t' ∈ uses x → look (hid al m L env) t' = look env t' := fun t' ht' => look_hid fun j hj hn he => hn (h2 j (hu t' ht' j hj he))
    have hst1 : aops C [x] env rows (fun env' rows' => env' = put x.dst ((look env t).getD default) env ∧ look env t = some ((look env t).getD default) ∧ rows' = rows) := by
     obtain ⟨dst, op, g⟩ := x
     simp only at hyg hyt
     subst hyg
     subst hyt
     show aop C env rows op _
     have e : (fun d rows' => aops C [] (put (some t) d env) rows' fun env' rows' => env' = put (some t) ((look env t).getD default) env ∧ look env t = some ((look env t).getD default) ∧ rows' = rows) = stab1 env rows (some t) := by
      funext d r
      simp only [aops, stab1, put]
      apply propext
      constructor
      ·rintro ⟨e1, e2, e3⟩
       cases e1
       exact ⟨e2, e3⟩
      ·rintro ⟨e1, e2⟩
       rw [e1]
       exact ⟨rfl, rfl, e2⟩
     rw [e]
     exact hya
    refine op_step hd.ctx ho q1 q2 q3 q4 hs hg (aops1_KH hev hst1) ?_
    intro env' rows' ρ' T' a' w' h' hs' hst'
    rw [hyt] at h'
    obtain ⟨d, rfl, h3, h4, rfl⟩ := h'
    have hld : look env t = some d := by
     simp only [put, hyt] at h3
     cases h3
     exact h4
    have hti : dstOf al i = some t := by simp [dstOf, hx, hyt]
    refine ih _ k env rows' ρ' T' a' w' hmk hk hunf (by simpa using hsz) (fun j hj hdn => ?_) (fun j hj hj2 => (done_set hiL).2 (.inl (hlo j hj hj2))) hcl' (fun j hj hn => hob j hj (fun hdn => hn ((done_set hiL).2 (.inl hdn)))) h
     (hs'.ext fun t' d' hl => ?_) (hg.step hs hst') (hst.trans hst')
    ·rcases (done_set hiL).1 hdn with h5 | h5
     ·exact hhi j hj h5
     ·omega
    ·obtain ⟨h5, h6⟩ := look_hid_some hl
     simp only [look]
     cases htt : (t == t') with
     | true =>
      have : t = t' := by simpa using htt
      subst this
      rw [hld] at h5
      simpa using h5
     | false =>
      have hne : t ≠ t' := by simpa using htt
      simp only [cond_false]
      rw [look_hid fun j hj hn he => ?_]
      ·exact h5
      ·by_cases hji : j = i
       ·subst hji
        rw [hti] at he
        exact hne (Option.some.inj he)
       ·exact h6 j hj (fun hdn => (done_set hiL).1 hdn |>.elim (fun h7 => hn h7) (fun h7 => hji h7)) he
   · -- the next one of the tail
    have hik : k ≤ i := by
     rcases Nat.lt_or_ge i k with h3 | h3
     ·exact absurd (hlo i him h3) hnd
     ·exact h3
    obtain ⟨x', hx', htl⟩ := hD.tail i (by simpa using hil) him
    rw [hx] at hx'
    cases hx'
    have hie : i = k := by
     rcases Nat.lt_or_ge k i with h3 | h3
     ·exfalso
      rcases htl k h3 with h4 | ⟨h4, _⟩
      ·exact hhi k (Nat.le_refl _) (anc_done hcl 2 i k h2 h4)
      ·omega
     ·omega
    subst hie
    have hsub : ops.size - i = (ops.size - (i + 1)) + 1 := by omega
    rw [hsub] at h
    simp only [tailL, hx] at h
    have hnotd : ∀ j, j < m → ¬ done L j → j ∈ dly ops.toList m i ∧ ∃ y t, al[j]? = some y ∧ y.guard = none ∧ y.dst = some t ∧ x.dst ≠ some t ∧ t ∉ uses x := by
     intro j hj hn
     have hna : anc ops.toList 2 i j = false := by
      cases hb : anc ops.toList 2 i j with
      | false => rfl
      | true => exact absurd (anc_done hcl 2 i j h2 hb) hn
     refine ⟨by simp [dly, hj, hna], ?_⟩
     rcases htl j (by omega) with h4 | ⟨_, h4⟩
     ·rw [hna] at h4; cases h4
     ·exact h4
    have hev : ∀ t', t' ∈ uses x → look (hid al m L env) t' = look env t' := fun t' ht' => look_hid fun j hj hn he => by
     obtain ⟨_, y, t, hy, _, hyt, _, hyu⟩ := hnotd j hj hn
     have : dstOf al j = some t := by simp [dstOf, hy, hyt]
     rw [this] at he
     cases he
     exact hyu ht'
    refine op_step hd.ctx ho q1 q2 q3 q4 hs hg (aops1_KH hev h) ?_
    intro env' rows' ρ' T' a' w' h' hs' hst'
    obtain ⟨env2, hs2, hst2, hrest⟩ : ∃ env2, Sim n ρ' T' (hid al m (L.setIfInBounds i true) env2) rows' a' w' ∧ stabs C env2 rows' ((dly ops.toList m i).filterMap fun j => al[j]?) ∧ aopsT C (tailL ops.toList al m (i + 1) (ops.size - (i + 1))) env2 rows' K := by
     have hund : ∀ j, j < m → ¬ done (L.setIfInBounds i true) j → ¬ done L j := fun j hj hn hdn => hn ((done_set hiL).2 (.inl hdn))
     have hund' : ∀ j, j < m → ¬ done L j → ¬ done (L.setIfInBounds i true) j := fun j hj hn hdn => (done_set hiL).1 hdn |>.elim (fun h7 => hn h7) (fun h7 => by omega)
     simp only [aops, KH] at h'
     cases hxd : x.dst with
     | none =>
      rw [hxd] at h'
      obtain ⟨rfl, h3, h4⟩ := h'
      refine ⟨env, hs'.ext fun t' d' hl => ?_, h3, h4⟩
      obtain ⟨h5, h6⟩ := look_hid_some hl
      rw [look_hid fun j hj hn => h6 j hj (hund' j hj hn)]
      exact h5
     | some t =>
      rw [hxd] at h'
      obtain ⟨d, rfl, h3, h4⟩ := h'
      refine ⟨(t, d) :: env, hs'.ext fun t' d' hl => ?_, h3, h4⟩
      obtain ⟨h5, h6⟩ := look_hid_some hl
      simp only [look] at h5 ⊢
      cases htt : (t == t') with
      | true => rw [htt] at h5; exact h5
      | false =>
       rw [htt] at h5
       simp only [cond_false] at h5 ⊢
       rw [look_hid fun j hj hn => h6 j hj (hund' j hj hn)]
       exact h5
    refine ih _ (i + 1) env2 rows' ρ' T' a' w' (by omega) (by omega) hunf (by simpa using hsz) (fun j hj hdn => ?_) (fun j hj hj2 => ?_) hcl' (fun j hj hn => ?_) hrest hs2 (hg.step hs hst') (hst.trans hst')
    ·rcases (done_set hiL).1 hdn with h5 | h5
     ·exact hhi j (by omega) h5
     ·omega
    ·refine (done_set hiL).2 ?_
     rcases Nat.lt_or_ge j i with h5 | h5
     ·exact .inl (hlo j hj h5)
     ·exact .inr (by omega)
    ·have hn' : ¬ done L j := fun hdn => hn ((done_set hiL).2 (.inl hdn))
     obtain ⟨h5, y, t, hy, hyg, hyt, _⟩ := hnotd j hj hn'
     exact ⟨y, hy, hyg, ⟨t, hyt⟩, stabs_mem hst2 (List.mem_filterMap.2 ⟨j, h5, hy⟩)⟩
section
variable {ops : Array Oper} {al : List AOper} {m : Nat} {env : Env} {Dd : Nat → D} {R : Nat → Rows}
theorem Run.come (h : Run C P n ops al m env Dd R) {L : Array Bool} {ρ0 ρ : Pl} {T0 T : Nat → Prop} {a : Act} {w0 w : World} (hI : DInv C n al m env Dd R ρ0 T0 w0 L ρ T a w) :
  Sim n ρ T (hid al m L (evAt al Dd env m)) (R m) a w := by
 refine ⟨⟨fun r row Lc h1 h2 => ?_, fun r r' row row' Lc Lc' h1 h2 h3 h4 => ?_⟩, fun t d hl => ?_, hI.size, hI.tlt, hI.dom, hI.defers⟩
 ·have hr := live_lt h1
  have := (hI.rows m (Nat.le_refl _)).row r row Lc h1 (by unfold res; rw [if_pos hr]; exact h2)
  exact this.mono res_sub (fun _ _ => rfl) (fun _ h => h) rfl this.notT
 ·have hr := live_lt h1
  have hr' := live_lt h2
  exact (hI.rows m (Nat.le_refl _)).dist r r' row row' Lc Lc' h1 h2 (by unfold res; rw [if_pos hr]; exact h3) (by unfold res; rw [if_pos hr']; exact h4)
 ·obtain ⟨h5, h6⟩ := look_hid_some hl
  exact (h.sees hI (Nat.le_refl _) (fun j hj he => ⟨Classical.byContradiction fun hn => h6 j hj hn he, hj⟩) h5).mono res_sub (fun _ _ => rfl) (fun _ h => h)
theorem Run.any2 (hD : DOK2 ops.toList al m) (h : Run C P n ops al m env Dd R) {K : Env → Rows → Prop} {Q' : Exit → Act → World → Prop} {ρ0 : Pl} {T0 : Nat → Prop} {w0 : World}
  (hst : stabs C (evAt al Dd env m) (R m) ((dly ops.toList m m).filterMap fun j => al[j]?)) (htail : aopsT C (tailL ops.toList al m m (ops.size - m)) (evAt al Dd env m) (R m) K)
  (hK : ∀ env' rows' ρ' T' a' w', K env' rows' → Sim n ρ' T' env' rows' a' w' → Step ρ0 T0 (R 0) w0 ρ' T' rows' w' → Q' .normal a' w') :
  ∀ (fuel : Nat) (L : Array Bool) (ρ : Pl) (T : Nat → Prop) (a : Act) (w : World), undone L ops.size ≤ fuel → L.size = ops.size → (∀ j, done L j → j < m) → (∀ i, done L i → ∀ j, dep ops.toList i j = true → done L j) → DInv C n al m env Dd R ρ0 T0 w0 L ρ T a w → wpAny P .any ops Q' fuel L a w := by
 obtain ⟨hlen, hget⟩ := h.toDraw.get
 have hm : m ≤ ops.size := by have := h.ok.le; simpa using this
 intro fuel
 have go : ∀ (fuel : Nat) (L : Array Bool) (ρ : Pl) (T : Nat → Prop) (a : Act) (w : World), undone L ops.size ≤ fuel → L.size = ops.size → (∀ j, done L j → j < m) → (∀ i, done L i → ∀ j, dep ops.toList i j = true → done L j) → DInv C n al m env Dd R ρ0 T0 w0 L ρ T a w →
   ((∀ j, j < m → done L j) ∨ ∃ i, i ∈ Region.ready .any ops L ∧ m ≤ i) → wpAny P .any ops Q' fuel L a w := by
  intro fuel L ρ T a w hf hsz hdm hcl hI hq
  refine tail2_any hD h.toDraw hK fuel L m _ _ ρ T a w (Nat.le_refl _) hm hf hsz (fun j hj hdn => by have := hdm j hdn; omega) (fun j h1 h2 => by omega) hcl (fun j hj hn => ?_) htail (h.come hI) hI.glob hI.step
  rcases hq with hq | ⟨i, hi, hmi⟩
  ·exact absurd (hq j hj) hn
  ·obtain ⟨⟨o', ho'⟩, h1, h2⟩ := ready_spec hi
   have hil : i < ops.size := (Array.getElem?_eq_some_iff.1 ho').1
   obtain ⟨x, hx, htl⟩ := hD.tail i (by simpa using hil) hmi
   have him : i = m := by
    rcases Nat.lt_or_ge m i with h3 | h3
    ·exfalso
     rcases htl m h3 with h4 | ⟨h4, _⟩
     ·have := hdm m (anc_done hcl 2 i m h2 h4); omega
     ·omega
    ·omega
   subst him
   have hna : anc ops.toList 2 i j = false := by
    cases hb : anc ops.toList 2 i j with
    | false => rfl
    | true => exact absurd (anc_done hcl 2 i j h2 hb) hn
   rcases htl j hj with h4 | ⟨_, y, t, hy, hyg, hyt, _⟩
   ·rw [hna] at h4; cases h4
   ·exact ⟨y, hy, hyg, ⟨t, hyt⟩, stabs_mem hst (List.mem_filterMap.2 ⟨j, by simp [dly, hj, hna], hy⟩)⟩
 induction fuel with
 | zero =>
  intro L ρ T a w hf hsz hdm hcl hI
  refine go 0 L ρ T a w hf hsz hdm hcl hI (.inl fun j hj => ?_)
  refine Classical.byContradiction fun hn => ?_
  have := undone_set (k := ops.size) (i := j) (by omega) (by omega) (notdone' hn (by omega))
  omega
 | succ fuel ih =>
  intro L ρ T a w hf hsz hdm hcl hI
  by_cases hq : (∀ j, j < m → done L j) ∨ ∃ i, i ∈ Region.ready .any ops L ∧ m ≤ i
  ·exact go (fuel + 1) L ρ T a w hf hsz hdm hcl hI hq
  ·have hall : ¬ ∀ j, j < m → done L j := fun h => hq (.inl h)
   refine ⟨fun hr => ?_, fun i hi => ?_⟩
   ·exfalso
    -- the least one not done is ready
    have key : ∀ k, (∀ j, j < k → j < m → done L j) ∨ ∃ j, j < k ∧ j < m ∧ ¬ done L j ∧ ∀ j', j' < j → done L j' := by
     intro k
     induction k with
     | zero => left; intro j hj; omega
     | succ k ihk =>
      rcases ihk with h1 | ⟨j, q1, q2, q3, q4⟩
      ·by_cases hk : k < m ∧ ¬ done L k
       ·right
        exact ⟨k, by omega, hk.1, hk.2, fun j' hj' => h1 j' hj' (by omega)⟩
       ·left
        intro j hj hjm
        rcases Nat.lt_or_ge j k with h3 | h3
        ·exact h1 j h3 hjm
        ·have : j = k := by omega
         subst this
         refine Classical.byContradiction fun hn => ?_
         exact hk ⟨hjm, hn⟩
      ·right; exact ⟨j, by omega, q2, q3, q4⟩
    rcases key m with h1 | ⟨j, q1, q2, q3, q4⟩
    ·exact hall fun j hj => h1 j hj hj
    ·have : j ∈ Region.ready .any ops L := ready_mk (by omega) (notdone' q3 (by omega)) (fun j' hj' => q4 j' (h.ok.back j j' hj'))
     rw [hr] at this
     cases this
   ·obtain ⟨⟨o', ho'⟩, h1, h2⟩ := ready_spec hi
    have hil : i < ops.size := (Array.getElem?_eq_some_iff.1 ho').1
    obtain ⟨hnd, hiL⟩ := notdone h1
    have him : i < m := by
     rcases Nat.lt_or_ge i m with h3 | h3
     ·exact h3
     ·exact absurd (.inr ⟨i, hi, h3⟩) hq
    obtain ⟨o, x, ho, hx, q1, q2, q3, q4⟩ := hget i hil
    obtain ⟨x', new, hx', hR, hE⟩ := h.tr i him
    rw [hx] at hx'
    cases hx'
    obtain ⟨x', o', hx', ho'', hqa, hqo, _, hu⟩ := h.ok.quiet i him
    rw [hx] at hx'
    cases hx'
    have ho3 : ops[i]? = some o' := by simpa using ho''
    rw [ho] at ho3
    cases ho3
    have hs : Sim n (res ρ (R i).length) T (small (evAt al Dd env i) (uses x)) (R i) a w := by
     refine ⟨hI.rows i (by omega), fun t d hl => ?_, hI.size, hI.tlt, fun r hr => ?_, hI.defers⟩
     ·obtain ⟨ht, hl⟩ := small_sub hl
      refine h.sees hI (by omega) (fun j hj hdj => ?_) hl
      have := hu t ht j hj hdj
      exact ⟨h2 j this, h.ok.back i j this⟩
     ·unfold res; rw [if_neg (by omega)]
    have hdl : dstOf al i = o.dst := by simp [dstOf, hx, q4]
    refine ex_wp h.nor h.ctx ho q2 q3 hs hI.glob hqo hE.congr ?_
    intro ρ' T' v w' hs' hst' hv' hk'
    have hI' := h.next hI him hiL hnd (fun t ht => cDst_lt q1 t (by rw [← hdl]; exact ht)) hs' hst' hv' hk'.1 hk'.2
    rw [hdl] at hI'
    refine ih _ _ T' _ w' ?_ (by simpa using hsz) (fun j hj => ?_) (fun i' hi' j hj => ?_) hI'
    ·have := undone_set hil hiL h1
     omega
    ·rcases (done_set hiL).1 hj with h3 | h3
     ·exact hdm j h3
     ·omega
    ·refine (done_set hiL).2 (.inl ?_)
     rcases (done_set hiL).1 hi' with h3 | h3
     ·exact hcl i' h3 j hj
     ·subst h3; exact h2 j hj
end
theorem dstOf_take {al : List AOper} {m j : Nat} (hj : j < m) : dstOf (al.take m) j = dstOf al j := by
 unfold dstOf
 rw [List.getElem?_take_of_lt hj]
theorem evAt_take {al : List AOper} {m : Nat} {Dd : Nat → D} {env : Env} : ∀ (i : Nat), i ≤ m → evAt (al.take m) Dd env i = evAt al Dd env i
 | 0, _ => rfl
 | i + 1, h => by simp only [evAt, evAt_take (m := m) i (by omega), dstOf_take (j := i) (show i < m by omega)]
theorem draw2_sound (hN : ∀ f, C.fnr f = none) (hC : CtxOK C P) (hP : P.follows .mixedOrders = true) {id : Nat} {ops : Array Oper} {al : List AOper} {m : Nat} (hc : cOps P n ops.toList ops.toList = some al) (hd : dOK2 ops.toList al m = true)
  {env : Env} {rows : Rows} {ρ : Pl} {T : Nat → Prop} {a : Act} {w : World} {Q : AExit → Env → Rows → Prop} {Q' : Exit → Act → World → Prop}
  (h : aops C (al.take m) env rows fun env rows => stabs C env rows ((dly ops.toList m m).filterMap fun j => al[j]?) ∧ aopsT C (tailL ops.toList al m m (ops.toList.length - m)) env rows (Q .normal)) (hs : Sim n ρ T env rows a w) (hg : GlobOK C w T)
  (hp : Post n ρ T rows w Q Q') : (Code.region id ops true).wp P Q' a w := by
 have hok := dOK2_spec hd
 have hlen := (cOps_get hc).1
 have hml : m ≤ al.length := by rw [hlen]; exact hok.le
 have hq : ∀ i, i < m → ∃ x, (al.take m)[i]? = some x ∧ quietA x.op = true := by
  intro i hi
  obtain ⟨x, o, h1, _, h3, _⟩ := hok.quiet i hi
  exact ⟨x, by rw [List.getElem?_take_of_lt hi]; exact h1, h3⟩
 obtain ⟨Dd, R, h0, h1, h2⟩ := trace hN m (by simp; omega) hq h
 subst h0
 have hnil : (al.take m).drop m = [] := List.drop_eq_nil_of_le (by simp; omega)
 rw [hnil, evAt_take m (Nat.le_refl _)] at h2
 obtain ⟨h2a, h2b⟩ := h2
 have h1' : ∀ i, i < m → ∃ x new, al[i]? = some x ∧ R (i + 1) = R i ++ new ∧ Ex C (evAt al Dd env i) (R i) x (Dd i) (R (i + 1)) := by
  intro i hi
  obtain ⟨x, new, q1, q2, q3⟩ := h1 i hi
  rw [List.getElem?_take_of_lt hi] at q1
  rw [evAt_take i (by omega)] at q3
  exact ⟨x, new, q1, q2, q3⟩
 have hrun : Run C P n ops al m env Dd R := ⟨⟨hok.toDOK0, hc, hC⟩, hN, h1'⟩
 have hw1 : Sim n ρ T env (R 0) a { w with drawn := w.drawn + 1 } := hs.heap rfl
 have hg1 : GlobOK C { w with drawn := w.drawn + 1 } T := hg.keep (fun _ _ => rfl) (fun _ h => h)
 have hLf : ∀ j, ¬ done (Array.replicate ops.size false) j := by
  intro j hj
  unfold done at hj
  simp [Array.getD] at hj
 have hsz : ops.toList.length - m = ops.size - m := by simp
 rw [hsz] at h2b
 refine wp_region_any hP (hrun.any2 hok h2a h2b (w0 := { w with drawn := w.drawn + 1 }) (ρ0 := ρ) (T0 := T) ?_ ops.size _ ρ T a _ ?_ (by simp) (fun j hj => absurd hj (hLf j)) (fun i hi => absurd hi (hLf i)) (hrun.start hw1 hg1 hLf))
 ·intro env' rows' ρ' T' a' w' hk hs' hst'
  exact hp .normal env' rows' ρ' T' a' w' hk hs' ⟨hst'.pl, hst'.tt, hst'.tnew, hst'.size, hst'.keep, hst'.fresh, hst'.os, hst'.tape, hst'.output, hst'.len, hst'.same⟩
 ·unfold undone
  exact Nat.le_trans (List.length_filter_le _ _) (by simp)
theorem draw1_sound (hC : CtxOK C P) (hP : P.follows .mixedOrders = true) {id : Nat} {ops : Array Oper} {al : List AOper} {m : Nat} (hc : cOps P n ops.toList ops.toList = some al) (hd : dOK ops.toList al m = true)
  {env : Env} {rows : Rows} {ρ : Pl} {T : Nat → Prop} {a : Act} {w : World} {Q : AExit → Env → Rows → Prop} {Q' : Exit → Act → World → Prop}
  (h : aops C.quiet (al.take m) env rows fun env rows => aops C (al.drop m) env rows (Q .normal)) (hs : Sim n ρ T env rows a w) (hg : GlobOK C w T)
  (hp : Post n ρ T rows w Q Q') : (Code.region id ops true).wp P Q' a w := by
 have hok := dOK_spec hd
 have hlen := (cOps_get hc).1
 have hml : m ≤ al.length := by rw [hlen]; exact hok.le
 have hq : ∀ i, i < m → ∃ x, (al.take m)[i]? = some x ∧ quietA x.op = true := by
  intro i hi
  obtain ⟨x, o, h1, _, h3, _⟩ := hok.quiet i hi
  exact ⟨x, by rw [List.getElem?_take_of_lt hi]; exact h1, h3⟩
 have hN : ∀ f, C.quiet.fnr f = none := fun _ => rfl
 obtain ⟨Dd, R, h0, h1, h2⟩ := trace hN m (by simp; omega) hq h
 subst h0
 have hnil : (al.take m).drop m = [] := List.drop_eq_nil_of_le (by simp; omega)
 rw [hnil, evAt_take m (Nat.le_refl _)] at h2
 have h2' : aops C (al.drop m) (evAt al Dd env m) (R m) (Q .normal) := h2
 have h1' : ∀ i, i < m → ∃ x new, al[i]? = some x ∧ R (i + 1) = R i ++ new ∧ Ex C.quiet (evAt al Dd env i) (R i) x (Dd i) (R (i + 1)) := by
  intro i hi
  obtain ⟨x, new, q1, q2, q3⟩ := h1 i hi
  rw [List.getElem?_take_of_lt hi] at q1
  rw [evAt_take i (by omega)] at q3
  exact ⟨x, new, q1, q2, q3⟩
 have hrun : Run C.quiet P n ops al m env Dd R := ⟨⟨hok.toDOK0, hc, hC.quiet⟩, hN, h1'⟩
 have hw1 : Sim n ρ T env (R 0) a { w with drawn := w.drawn + 1 } := hs.heap rfl
 have hg0 : GlobOK C.quiet w T := hg
 have hg1 : GlobOK C.quiet { w with drawn := w.drawn + 1 } T := hg0.keep (fun _ _ => rfl) (fun _ h => h)
 have hLf : ∀ j, ¬ done (Array.replicate ops.size false) j := by
  intro j hj
  unfold done at hj
  simp [Array.getD] at hj
 refine wp_region_any hP (hrun.any hok hC (fun _ _ h => h) h2' (w0 := { w with drawn := w.drawn + 1 }) (ρ0 := ρ) (T0 := T) ?_ ops.size _ ρ T a _ ?_ (by simp) (fun j hj => absurd hj (hLf j)) (fun i hi => absurd hi (hLf i)) (hrun.start hw1 hg1 hLf))
 ·intro env' rows' ρ' T' a' w' hk hs' hst'
  exact hp .normal env' rows' ρ' T' a' w' hk hs' ⟨hst'.pl, hst'.tt, hst'.tnew, hst'.size, hst'.keep, hst'.fresh, hst'.os, hst'.tape, hst'.output, hst'.len, hst'.same⟩
 ·unfold undone
  exact Nat.le_trans (List.length_filter_le _ _) (by simp)
theorem leastM_ok {ops : List Oper} {al : List AOper} {m : Nat} (h : leastM ops al = some m) : dOK ops al m = true := by
 unfold leastM at h
 have := List.find?_some h
 simpa using this
end Go.Am
