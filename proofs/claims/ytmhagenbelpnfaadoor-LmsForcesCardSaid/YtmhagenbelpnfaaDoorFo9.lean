import Derived.Test.YtmhagenbelpnfaaDoorFo8
namespace Go.Am
set_option linter.unusedVariables false
set_option linter.unusedSimpArgs false
variable {C : Ctx} {P : Program} {n : Nat}
def hideE (env : Env) (ts : List Nat) : Env := env.filter fun p => !ts.contains p.1
theorem look_hide (ts : List Nat) (t : Nat) : ∀ (env : Env), look (hideE env ts) t = if t ∈ ts then none else look env t
  | [] => by simp [hideE, look]
  | (k, d) :: env => by
    have ih := look_hide ts t env
    simp only [hideE, List.filter_cons] at ih ⊢
    by_cases hk : k ∈ ts
    · have : (!ts.contains k) = false := by simp [hk]
      simp only [this]
      rw [if_neg (by simp), ih]
      by_cases ht : t ∈ ts
      · simp [ht]
      · have : (k == t) = false := by
          have : k ≠ t := fun e => ht (e ▸ hk)
          simpa using this
        simp [ht, look, this]
    · have : (!ts.contains k) = true := by simp [hk]
      simp only [this, if_true, look]
      cases hkt : (k == t) with
      | true =>
        have : k = t := by simpa using hkt
        subst this
        simp [hk]
      | false => simpa using ih
def undL (al : List AOper) (m : Nat) (L : Array Bool) : List Nat := (List.range m).filterMap fun j => bif L.getD j false then none else dstOf al j
theorem mem_undL {al : List AOper} {m : Nat} {L : Array Bool} {t : Nat} : t ∈ undL al m L ↔ ∃ j, j < m ∧ ¬ done L j ∧ dstOf al j = some t := by
  unfold undL done
  rw [List.mem_filterMap]
  constructor
  · rintro ⟨j, hj, h⟩
    cases hb : L.getD j false with
    | true => rw [hb] at h; cases h
    | false => rw [hb] at h; exact ⟨j, by simpa using hj, by rw [hb]; simp, h⟩
  · rintro ⟨j, hj, h1, h2⟩
    refine ⟨j, by simpa using hj, ?_⟩
    have : L.getD j false = false := by simpa using h1
    rw [this]; exact h2
def hid (al : List AOper) (m : Nat) (L : Array Bool) (env : Env) : Env := hideE env (undL al m L)
theorem look_hid {al : List AOper} {m : Nat} {L : Array Bool} {env : Env} {t : Nat} (h : ∀ j, j < m → ¬ done L j → dstOf al j ≠ some t) : look (hid al m L env) t = look env t := by
  unfold hid
  rw [look_hide, if_neg]
  rw [mem_undL]
  rintro ⟨j, h1, h2, h3⟩
  exact h j h1 h2 h3
theorem look_hid_some {al : List AOper} {m : Nat} {L : Array Bool} {env : Env} {t : Nat} {d : D} (h : look (hid al m L env) t = some d) : look env t = some d ∧ ∀ j, j < m → ¬ done L j → dstOf al j ≠ some t := by
  unfold hid at h
  rw [look_hide] at h
  split at h
  · cases h
  · rename_i hn
    refine ⟨h, fun j h1 h2 h3 => hn (mem_undL.2 ⟨j, h1, h2, h3⟩)⟩
theorem Sim.ext {ρ : Pl} {T : Nat → Prop} {env env' : Env} {rows : Rows} {a : Act} {w : World} (h : Sim n ρ T env rows a w) (he : ∀ t d, look env' t = some d → look env t = some d) : Sim n ρ T env' rows a w :=
  ⟨h.rowsOK, fun t d hd => h.env t d (he t d hd), h.size, h.tlt, h.dom, h.defers⟩
def KH (dst : Option Nat) (hd env : Env) (K0 : Env → Rows → Prop) : Env → Rows → Prop := fun env' rows => match dst with
  | some t => ∃ d, env' = (t, d) :: hd ∧ K0 ((t, d) :: env) rows
  | none => env' = hd ∧ K0 env rows
theorem KH_put (dst : Option Nat) (hd env : Env) (K0 : Env → Rows → Prop) (d : D) (rows : Rows) : KH dst hd env K0 (put dst d hd) rows = K0 (put dst d env) rows := by
  cases dst with
  | none => simp [KH, put]
  | some t =>
    simp only [KH, put]
    apply propext
    constructor
    · rintro ⟨d', h1, h2⟩
      cases h1
      exact h2
    · intro h
      exact ⟨d, rfl, h⟩
theorem aops1_KH {x : AOper} {hd env : Env} {rows : Rows} {K0 : Env → Rows → Prop} (hev : ∀ t, t ∈ uses x → look hd t = look env t) (h : aops C [x] env rows K0) : aops C [x] hd rows (KH x.dst hd env K0) := by
  obtain ⟨dst, o, g⟩ := x
  have hx : ∀ y ∈ o.xs, ev C hd y = ev C env y := by
    intro y hy
    cases y with
    | tmp t => exact hev t (List.mem_append_left _ (mem_xslots hy))
    | const _ => rfl
    | glob _ => rfl
  have hop : ∀ k : D → Rows → Prop, aop C hd rows o k = aop C env rows o k := fun k => aop_congr hx k
  have e1 : (fun d rows => aops C [] (put dst d hd) rows (KH dst hd env K0)) = fun d rows => aops C [] (put dst d env) rows K0 := by
    funext d r
    exact KH_put dst hd env K0 d r
  cases g with
  | none =>
    show aop C hd rows o (fun d rows => aops C [] (put dst d hd) rows (KH dst hd env K0))
    rw [e1, hop]
    exact h
  | some gw =>
    obtain ⟨g, want⟩ := gw
    have hg : look hd g = look env g := hev g (by simp [uses])
    have h' := h
    simp only [aops] at h' ⊢
    rw [hg]
    obtain ⟨v, hv, hk⟩ := bnd_some h'
    rw [hv]
    split at hk
    · rename_i t
      show ((t = want → aop C hd rows o fun d rows => KH dst hd env K0 (put dst d hd) rows) ∧ (t = !want → KH dst hd env K0 (put dst (.tup []) hd) rows))
      refine ⟨fun ht => ?_, fun ht => ?_⟩
      · have e2 : (fun d rows => KH dst hd env K0 (put dst d hd) rows) = fun d rows => K0 (put dst d env) rows := by
          funext d r
          exact KH_put dst hd env K0 d r
        rw [e2, hop]
        exact hk.1 ht
      · rw [KH_put]; exact hk.2 ht
    · show KH dst hd env K0 (put dst (.tup []) hd) rows
      rw [KH_put]; exact hk
    · exact hk.elim
theorem anc_done {ops : Array Oper} {L : Array Bool} (hcl : ∀ i, done L i → ∀ j, dep ops.toList i j = true → done L j) : ∀ (f i j : Nat), (∀ j, dep ops.toList i j = true → done L j) → anc ops.toList f i j = true → done L j
  | 0, i, j, _, h => by simp [anc] at h
  | f + 1, i, j, hd, h => by
    simp only [anc, Bool.or_eq_true] at h
    rcases h with h | h
    · exact hd j h
    · obtain ⟨k, _, hk⟩ := List.any_eq_true.1 h
      simp only [Bool.and_eq_true] at hk
      exact anc_done hcl f k j (fun q hq => hcl k (hd k hk.1) q hq) hk.2
theorem stabs_mem {env : Env} {rows : Rows} : ∀ {l : List AOper} {y : AOper}, stabs C env rows l → y ∈ l → aop C env rows y.op (stab1 env rows y.dst)
  | [], y, _, h => by simp at h
  | x :: l, y, h, hy => by
    rcases List.mem_cons.1 hy with rfl | hy
    · exact h.1
    · exact stabs_mem h.2 hy
theorem tail2_any {ops : Array Oper} {al : List AOper} {m : Nat} (hD : DOK2 ops.toList al m) (hd : Draw C P n ops al m) {K : Env → Rows → Prop} {Q' : Exit → Act → World → Prop} {ρ0 : Pl} {T0 : Nat → Prop} {rows0 : Rows} {w0 : World}
    (hK : ∀ env' rows' ρ' T' a' w', K env' rows' → Sim n ρ' T' env' rows' a' w' → Step ρ0 T0 rows0 w0 ρ' T' rows' w' → Q' .normal a' w') :
    ∀ (fuel : Nat) (L : Array Bool) (k : Nat) (env : Env) (rows : Rows) (ρ : Pl) (T : Nat → Prop) (a : Act) (w : World), m ≤ k → k ≤ ops.size → undone L ops.size ≤ fuel → L.size = ops.size → (∀ j, k ≤ j → ¬ done L j) → (∀ j, m ≤ j → j < k → done L j) →
      (∀ i, done L i → ∀ j, dep ops.toList i j = true → done L j) → (∀ j, j < m → ¬ done L j → ∃ y, al[j]? = some y ∧ y.guard = none ∧ (∃ t, y.dst = some t) ∧ aop C env rows y.op (stab1 env rows y.dst)) →
      aopsT C (tailL ops.toList al m k (ops.size - k)) env rows K → Sim n ρ T (hid al m L env) rows a w → GlobOK C w T → Step ρ0 T0 rows0 w0 ρ T rows w → wpAny P .any ops Q' fuel L a w := by
  obtain ⟨hlen, hget⟩ := hd.get
  intro fuel
  have fin : ∀ (L : Array Bool) (k : Nat) (env : Env) (rows : Rows) (ρ : Pl) (T : Nat → Prop) (a : Act) (w : World), k = ops.size → (∀ j, j < ops.size → done L j) → m ≤ k → aopsT C (tailL ops.toList al m k (ops.size - k)) env rows K → Sim n ρ T (hid al m L env) rows a w → Step ρ0 T0 rows0 w0 ρ T rows w → Q' .normal a w := by
    intro L k env rows ρ T a w hk hall hmk h hs hst
    subst hk
    rw [Nat.sub_self] at h
    exact hK env rows ρ T a w h (hs.ext fun t d hl => by rw [look_hid (fun j hj hn => absurd (hall j (by omega)) hn)]; exact hl) hst
  have hmin : ∀ (L : Array Bool), L.size = ops.size → (∃ j, j < ops.size ∧ ¬ done L j) → ∃ j, j ∈ Region.ready .any ops L := by
    intro L hsz ⟨j, hj, hn⟩
    have key : ∀ q, (∀ j, j < q → done L j) ∨ ∃ j, j < q ∧ ¬ done L j ∧ ∀ j', j' < j → done L j' := by
      intro q
      induction q with
      | zero => left; intro j hj; omega
      | succ q ih =>
        rcases ih with h1 | ⟨j, q1, q2, q3⟩
        · by_cases hq : done L q
          · left; intro j hj
            rcases Nat.lt_or_ge j q with h2 | h2
            · exact h1 j h2
            · have : j = q := by omega
              subst this; exact hq
          · exact .inr ⟨q, by omega, hq, h1⟩
        · exact .inr ⟨j, by omega, q2, q3⟩
    rcases key ops.size with h1 | ⟨j', q1, q2, q3⟩
    · exact absurd (h1 j hj) hn
    · exact ⟨j', ready_mk q1 (notdone' q2 (by omega)) (fun j'' hj'' => q3 j'' (hd.ok.back j' j'' hj''))⟩
  have alldone : ∀ (L : Array Bool), L.size = ops.size → Region.ready .any ops L = [] → ∀ j, j < ops.size → done L j := by
    intro L hsz hr j hj
    refine Classical.byContradiction fun hn => ?_
    obtain ⟨i, hi⟩ := hmin L hsz ⟨j, hj, hn⟩
    rw [hr] at hi
    cases hi
  have kend : ∀ (L : Array Bool) (k : Nat), k ≤ ops.size → (∀ j, k ≤ j → ¬ done L j) → (∀ j, j < ops.size → done L j) → k = ops.size := by
    intro L k hk h1 h2
    rcases Nat.lt_or_ge k ops.size with h3 | h3
    · exact absurd (h2 k h3) (h1 k (Nat.le_refl _))
    · omega
  induction fuel with
  | zero =>
    intro L k env rows ρ T a w hmk hk hf hsz hhi hlo hcl hob h hs hg hst
    have hall : ∀ j, j < ops.size → done L j := by
      intro j hj
      refine Classical.byContradiction fun hn => ?_
      have := undone_set hj (by omega) (notdone' hn (by omega))
      omega
    have hke := kend L k hk hhi hall
    refine ⟨?_, fin L k env rows ρ T a w hke hall hmk h hs hst⟩
    cases hr : Region.ready .any ops L with
    | nil => rfl
    | cons i l =>
      exfalso
      obtain ⟨⟨o, ho⟩, h1, _⟩ := ready_spec (L := L) (ops := ops) (i := i) (by rw [hr]; simp)
      exact (notdone h1).1 (hall i (Array.getElem?_eq_some_iff.1 ho).1)
  | succ fuel ih =>
    intro L k env rows ρ T a w hmk hk hf hsz hhi hlo hcl hob h hs hg hst
    refine ⟨fun hr => ?_, fun i hi => ?_⟩
    · have hall := alldone L hsz hr
      exact fin L k env rows ρ T a w (kend L k hk hhi hall) hall hmk h hs hst
    · obtain ⟨⟨o', ho'⟩, h1, h2⟩ := ready_spec hi
      have hil : i < ops.size := (Array.getElem?_eq_some_iff.1 ho').1
      obtain ⟨hnd, hiL⟩ := notdone h1
      obtain ⟨o, x, ho, hx, q1, q2, q3, q4⟩ := hget i hil
      have hunf : undone (L.setIfInBounds i true) ops.size ≤ fuel := by have := undone_set hil hiL h1; omega
      have hcl' : ∀ i', done (L.setIfInBounds i true) i' → ∀ j, dep ops.toList i' j = true → done (L.setIfInBounds i true) j := by
        intro i' hi' j hj
        refine (done_set hiL).2 (.inl ?_)
        rcases (done_set hiL).1 hi' with h3 | h3
        · exact hcl i' h3 j hj
        · subst h3; exact h2 j hj
      rcases Nat.lt_or_ge i m with him | him
      · -- a quiet one that comes late
        obtain ⟨y, hy, hyg, ⟨t, hyt⟩, hya⟩ := hob i him hnd
        rw [hx] at hy
        cases hy
        obtain ⟨x', o2, hx', ho2, hqa, hqo, _, hu⟩ := hD.quiet i him
        rw [hx] at hx'
        cases hx'
        have hev : ∀ t', t' ∈ uses x → look (hid al m L env) t' = look env t' := fun t' ht' => look_hid fun j hj hn he => hn (h2 j (hu t' ht' j hj he))
        have hst1 : aops C [x] env rows (fun env' rows' => env' = put x.dst ((look env t).getD default) env ∧ look env t = some ((look env t).getD default) ∧ rows' = rows) := by
          obtain ⟨dst, op, g⟩ := x
          simp only at hyg hyt
          subst hyg
          subst hyt
          show aop C env rows op _
          have e : (fun d rows' => aops C [] (put (some t) d env) rows' fun env' rows' => env' = put (some t) ((look env t).getD default) env ∧ look env t = some ((look env t).getD default) ∧ rows' = rows) = stab1 env rows (some t) := by
            funext d r
            simp only [aops, stab1, put]
            apply propext
            constructor
            · rintro ⟨e1, e2, e3⟩
              cases e1
              exact ⟨e2, e3⟩
            · rintro ⟨e1, e2⟩
              rw [e1]
              exact ⟨rfl, rfl, e2⟩
          rw [e]
          exact hya
        refine op_step hd.ctx ho q1 q2 q3 q4 hs hg (aops1_KH hev hst1) ?_
        intro env' rows' ρ' T' a' w' h' hs' hst'
        rw [hyt] at h'
        obtain ⟨d, rfl, h3, h4, rfl⟩ := h'
        have hld : look env t = some d := by
          simp only [put, hyt] at h3
          cases h3
          exact h4
        have hti : dstOf al i = some t := by simp [dstOf, hx, hyt]
        refine ih _ k env rows' ρ' T' a' w' hmk hk hunf (by simpa using hsz) (fun j hj hdn => ?_) (fun j hj hj2 => (done_set hiL).2 (.inl (hlo j hj hj2))) hcl' (fun j hj hn => hob j hj (fun hdn => hn ((done_set hiL).2 (.inl hdn)))) h
          (hs'.ext fun t' d' hl => ?_) (hg.step hs hst') (hst.trans hst')
        · rcases (done_set hiL).1 hdn with h5 | h5
          · exact hhi j hj h5
          · omega
        · obtain ⟨h5, h6⟩ := look_hid_some hl
          simp only [look]
          cases htt : (t == t') with
          | true =>
            have : t = t' := by simpa using htt
            subst this
            rw [hld] at h5
            simpa using h5
          | false =>
            have hne : t ≠ t' := by simpa using htt
            simp only [cond_false]
            rw [look_hid fun j hj hn he => ?_]
            · exact h5
            · by_cases hji : j = i
              · subst hji
                rw [hti] at he
                exact hne (Option.some.inj he)
              · exact h6 j hj (fun hdn => (done_set hiL).1 hdn |>.elim (fun h7 => hn h7) (fun h7 => hji h7)) he
      · -- the next one of the tail
        have hik : k ≤ i := by
          rcases Nat.lt_or_ge i k with h3 | h3
          · exact absurd (hlo i him h3) hnd
          · exact h3
        obtain ⟨x', hx', htl⟩ := hD.tail i (by simpa using hil) him
        rw [hx] at hx'
        cases hx'
        have hie : i = k := by
          rcases Nat.lt_or_ge k i with h3 | h3
          · exfalso
            rcases htl k h3 with h4 | ⟨h4, _⟩
            · exact hhi k (Nat.le_refl _) (anc_done hcl 2 i k h2 h4)
            · omega
          · omega
        subst hie
        have hsub : ops.size - i = (ops.size - (i + 1)) + 1 := by omega
        rw [hsub] at h
        simp only [tailL, hx] at h
        have hnotd : ∀ j, j < m → ¬ done L j → j ∈ dly ops.toList m i ∧ ∃ y t, al[j]? = some y ∧ y.guard = none ∧ y.dst = some t ∧ x.dst ≠ some t ∧ t ∉ uses x := by
          intro j hj hn
          have hna : anc ops.toList 2 i j = false := by
            cases hb : anc ops.toList 2 i j with
            | false => rfl
            | true => exact absurd (anc_done hcl 2 i j h2 hb) hn
          refine ⟨by simp [dly, hj, hna], ?_⟩
          rcases htl j (by omega) with h4 | ⟨_, h4⟩
          · rw [hna] at h4; cases h4
          · exact h4
        have hev : ∀ t', t' ∈ uses x → look (hid al m L env) t' = look env t' := fun t' ht' => look_hid fun j hj hn he => by
          obtain ⟨_, y, t, hy, _, hyt, _, hyu⟩ := hnotd j hj hn
          have : dstOf al j = some t := by simp [dstOf, hy, hyt]
          rw [this] at he
          cases he
          exact hyu ht'
        refine op_step hd.ctx ho q1 q2 q3 q4 hs hg (aops1_KH hev h) ?_
        intro env' rows' ρ' T' a' w' h' hs' hst'
        obtain ⟨env2, hs2, hst2, hrest⟩ : ∃ env2, Sim n ρ' T' (hid al m (L.setIfInBounds i true) env2) rows' a' w' ∧ stabs C env2 rows' ((dly ops.toList m i).filterMap fun j => al[j]?) ∧ aopsT C (tailL ops.toList al m (i + 1) (ops.size - (i + 1))) env2 rows' K := by
          have hund : ∀ j, j < m → ¬ done (L.setIfInBounds i true) j → ¬ done L j := fun j hj hn hdn => hn ((done_set hiL).2 (.inl hdn))
          have hund' : ∀ j, j < m → ¬ done L j → ¬ done (L.setIfInBounds i true) j := fun j hj hn hdn => (done_set hiL).1 hdn |>.elim (fun h7 => hn h7) (fun h7 => by omega)
          simp only [aops, KH] at h'
          cases hxd : x.dst with
          | none =>
            rw [hxd] at h'
            obtain ⟨rfl, h3, h4⟩ := h'
            refine ⟨env, hs'.ext fun t' d' hl => ?_, h3, h4⟩
            obtain ⟨h5, h6⟩ := look_hid_some hl
            rw [look_hid fun j hj hn => h6 j hj (hund' j hj hn)]
            exact h5
          | some t =>
            rw [hxd] at h'
            obtain ⟨d, rfl, h3, h4⟩ := h'
            refine ⟨(t, d) :: env, hs'.ext fun t' d' hl => ?_, h3, h4⟩
            obtain ⟨h5, h6⟩ := look_hid_some hl
            simp only [look] at h5 ⊢
            cases htt : (t == t') with
            | true => rw [htt] at h5; exact h5
            | false =>
              rw [htt] at h5
              simp only [cond_false] at h5 ⊢
              rw [look_hid fun j hj hn => h6 j hj (hund' j hj hn)]
              exact h5
        refine ih _ (i + 1) env2 rows' ρ' T' a' w' (by omega) (by omega) hunf (by simpa using hsz) (fun j hj hdn => ?_) (fun j hj hj2 => ?_) hcl' (fun j hj hn => ?_) hrest hs2 (hg.step hs hst') (hst.trans hst')
        · rcases (done_set hiL).1 hdn with h5 | h5
          · exact hhi j (by omega) h5
          · omega
        · refine (done_set hiL).2 ?_
          rcases Nat.lt_or_ge j i with h5 | h5
          · exact .inl (hlo j hj h5)
          · exact .inr (by omega)
        · have hn' : ¬ done L j := fun hdn => hn ((done_set hiL).2 (.inl hdn))
          obtain ⟨h5, y, t, hy, hyg, hyt, _⟩ := hnotd j hj hn'
          exact ⟨y, hy, hyg, ⟨t, hyt⟩, stabs_mem hst2 (List.mem_filterMap.2 ⟨j, h5, hy⟩)⟩
section
variable {ops : Array Oper} {al : List AOper} {m : Nat} {env : Env} {Dd : Nat → D} {R : Nat → Rows}
theorem Run.come (h : Run C P n ops al m env Dd R) {L : Array Bool} {ρ0 ρ : Pl} {T0 T : Nat → Prop} {a : Act} {w0 w : World} (hI : DInv C n al m env Dd R ρ0 T0 w0 L ρ T a w) :
    Sim n ρ T (hid al m L (evAt al Dd env m)) (R m) a w := by
  refine ⟨⟨fun r row Lc h1 h2 => ?_, fun r r' row row' Lc Lc' h1 h2 h3 h4 => ?_⟩, fun t d hl => ?_, hI.size, hI.tlt, hI.dom, hI.defers⟩
  · have hr := live_lt h1
    have := (hI.rows m (Nat.le_refl _)).row r row Lc h1 (by unfold res; rw [if_pos hr]; exact h2)
    exact this.mono res_sub (fun _ _ => rfl) (fun _ h => h) rfl this.notT
  · have hr := live_lt h1
    have hr' := live_lt h2
    exact (hI.rows m (Nat.le_refl _)).dist r r' row row' Lc Lc' h1 h2 (by unfold res; rw [if_pos hr]; exact h3) (by unfold res; rw [if_pos hr']; exact h4)
  · obtain ⟨h5, h6⟩ := look_hid_some hl
    exact (h.sees hI (Nat.le_refl _) (fun j hj he => ⟨Classical.byContradiction fun hn => h6 j hj hn he, hj⟩) h5).mono res_sub (fun _ _ => rfl) (fun _ h => h)
theorem Run.any2 (hD : DOK2 ops.toList al m) (h : Run C P n ops al m env Dd R) {K : Env → Rows → Prop} {Q' : Exit → Act → World → Prop} {ρ0 : Pl} {T0 : Nat → Prop} {w0 : World}
    (hst : stabs C (evAt al Dd env m) (R m) ((dly ops.toList m m).filterMap fun j => al[j]?)) (htail : aopsT C (tailL ops.toList al m m (ops.size - m)) (evAt al Dd env m) (R m) K)
    (hK : ∀ env' rows' ρ' T' a' w', K env' rows' → Sim n ρ' T' env' rows' a' w' → Step ρ0 T0 (R 0) w0 ρ' T' rows' w' → Q' .normal a' w') :
    ∀ (fuel : Nat) (L : Array Bool) (ρ : Pl) (T : Nat → Prop) (a : Act) (w : World), undone L ops.size ≤ fuel → L.size = ops.size → (∀ j, done L j → j < m) → (∀ i, done L i → ∀ j, dep ops.toList i j = true → done L j) → DInv C n al m env Dd R ρ0 T0 w0 L ρ T a w → wpAny P .any ops Q' fuel L a w := by
  obtain ⟨hlen, hget⟩ := h.toDraw.get
  have hm : m ≤ ops.size := by have := h.ok.le; simpa using this
  intro fuel
  have go : ∀ (fuel : Nat) (L : Array Bool) (ρ : Pl) (T : Nat → Prop) (a : Act) (w : World), undone L ops.size ≤ fuel → L.size = ops.size → (∀ j, done L j → j < m) → (∀ i, done L i → ∀ j, dep ops.toList i j = true → done L j) → DInv C n al m env Dd R ρ0 T0 w0 L ρ T a w →
      ((∀ j, j < m → done L j) ∨ ∃ i, i ∈ Region.ready .any ops L ∧ m ≤ i) → wpAny P .any ops Q' fuel L a w := by
    intro fuel L ρ T a w hf hsz hdm hcl hI hq
    refine tail2_any hD h.toDraw hK fuel L m _ _ ρ T a w (Nat.le_refl _) hm hf hsz (fun j hj hdn => by have := hdm j hdn; omega) (fun j h1 h2 => by omega) hcl (fun j hj hn => ?_) htail (h.come hI) hI.glob hI.step
    rcases hq with hq | ⟨i, hi, hmi⟩
    · exact absurd (hq j hj) hn
    · obtain ⟨⟨o', ho'⟩, h1, h2⟩ := ready_spec hi
      have hil : i < ops.size := (Array.getElem?_eq_some_iff.1 ho').1
      obtain ⟨x, hx, htl⟩ := hD.tail i (by simpa using hil) hmi
      have him : i = m := by
        rcases Nat.lt_or_ge m i with h3 | h3
        · exfalso
          rcases htl m h3 with h4 | ⟨h4, _⟩
          · have := hdm m (anc_done hcl 2 i m h2 h4); omega
          · omega
        · omega
      subst him
      have hna : anc ops.toList 2 i j = false := by
        cases hb : anc ops.toList 2 i j with
        | false => rfl
        | true => exact absurd (anc_done hcl 2 i j h2 hb) hn
      rcases htl j hj with h4 | ⟨_, y, t, hy, hyg, hyt, _⟩
      · rw [hna] at h4; cases h4
      · exact ⟨y, hy, hyg, ⟨t, hyt⟩, stabs_mem hst (List.mem_filterMap.2 ⟨j, by simp [dly, hj, hna], hy⟩)⟩
  induction fuel with
  | zero =>
    intro L ρ T a w hf hsz hdm hcl hI
    refine go 0 L ρ T a w hf hsz hdm hcl hI (.inl fun j hj => ?_)
    refine Classical.byContradiction fun hn => ?_
    have := undone_set (k := ops.size) (i := j) (by omega) (by omega) (notdone' hn (by omega))
    omega
  | succ fuel ih =>
    intro L ρ T a w hf hsz hdm hcl hI
    by_cases hq : (∀ j, j < m → done L j) ∨ ∃ i, i ∈ Region.ready .any ops L ∧ m ≤ i
    · exact go (fuel + 1) L ρ T a w hf hsz hdm hcl hI hq
    · have hall : ¬ ∀ j, j < m → done L j := fun h => hq (.inl h)
      refine ⟨fun hr => ?_, fun i hi => ?_⟩
      · exfalso
        -- the least one not done is ready
        have key : ∀ k, (∀ j, j < k → j < m → done L j) ∨ ∃ j, j < k ∧ j < m ∧ ¬ done L j ∧ ∀ j', j' < j → done L j' := by
          intro k
          induction k with
          | zero => left; intro j hj; omega
          | succ k ihk =>
            rcases ihk with h1 | ⟨j, q1, q2, q3, q4⟩
            · by_cases hk : k < m ∧ ¬ done L k
              · right
                exact ⟨k, by omega, hk.1, hk.2, fun j' hj' => h1 j' hj' (by omega)⟩
              · left
                intro j hj hjm
                rcases Nat.lt_or_ge j k with h3 | h3
                · exact h1 j h3 hjm
                · have : j = k := by omega
                  subst this
                  refine Classical.byContradiction fun hn => ?_
                  exact hk ⟨hjm, hn⟩
            · right; exact ⟨j, by omega, q2, q3, q4⟩
        rcases key m with h1 | ⟨j, q1, q2, q3, q4⟩
        · exact hall fun j hj => h1 j hj hj
        · have : j ∈ Region.ready .any ops L := ready_mk (by omega) (notdone' q3 (by omega)) (fun j' hj' => q4 j' (h.ok.back j j' hj'))
          rw [hr] at this
          cases this
      · obtain ⟨⟨o', ho'⟩, h1, h2⟩ := ready_spec hi
        have hil : i < ops.size := (Array.getElem?_eq_some_iff.1 ho').1
        obtain ⟨hnd, hiL⟩ := notdone h1
        have him : i < m := by
          rcases Nat.lt_or_ge i m with h3 | h3
          · exact h3
          · exact absurd (.inr ⟨i, hi, h3⟩) hq
        obtain ⟨o, x, ho, hx, q1, q2, q3, q4⟩ := hget i hil
        obtain ⟨x', new, hx', hR, hE⟩ := h.tr i him
        rw [hx] at hx'
        cases hx'
        obtain ⟨x', o', hx', ho'', hqa, hqo, _, hu⟩ := h.ok.quiet i him
        rw [hx] at hx'
        cases hx'
        have ho3 : ops[i]? = some o' := by simpa using ho''
        rw [ho] at ho3
        cases ho3
        have hs : Sim n (res ρ (R i).length) T (small (evAt al Dd env i) (uses x)) (R i) a w := by
          refine ⟨hI.rows i (by omega), fun t d hl => ?_, hI.size, hI.tlt, fun r hr => ?_, hI.defers⟩
          · obtain ⟨ht, hl⟩ := small_sub hl
            refine h.sees hI (by omega) (fun j hj hdj => ?_) hl
            have := hu t ht j hj hdj
            exact ⟨h2 j this, h.ok.back i j this⟩
          · unfold res; rw [if_neg (by omega)]
        have hdl : dstOf al i = o.dst := by simp [dstOf, hx, q4]
        refine ex_wp h.nor h.ctx ho q2 q3 hs hI.glob hqo hE.congr ?_
        intro ρ' T' v w' hs' hst' hv' hk'
        have hI' := h.next hI him hiL hnd (fun t ht => cDst_lt q1 t (by rw [← hdl]; exact ht)) hs' hst' hv' hk'.1 hk'.2
        rw [hdl] at hI'
        refine ih _ _ T' _ w' ?_ (by simpa using hsz) (fun j hj => ?_) (fun i' hi' j hj => ?_) hI'
        · have := undone_set hil hiL h1
          omega
        · rcases (done_set hiL).1 hj with h3 | h3
          · exact hdm j h3
          · omega
        · refine (done_set hiL).2 (.inl ?_)
          rcases (done_set hiL).1 hi' with h3 | h3
          · exact hcl i' h3 j hj
          · subst h3; exact h2 j hj
end
theorem dstOf_take {al : List AOper} {m j : Nat} (hj : j < m) : dstOf (al.take m) j = dstOf al j := by
  unfold dstOf
  rw [List.getElem?_take_of_lt hj]
theorem evAt_take {al : List AOper} {m : Nat} {Dd : Nat → D} {env : Env} : ∀ (i : Nat), i ≤ m → evAt (al.take m) Dd env i = evAt al Dd env i
  | 0, _ => rfl
  | i + 1, h => by simp only [evAt, evAt_take (m := m) i (by omega), dstOf_take (j := i) (show i < m by omega)]
theorem draw2_sound (hN : ∀ f, C.fnr f = none) (hC : CtxOK C P) (hP : P.follows .mixedOrders = true) {id : Nat} {ops : Array Oper} {al : List AOper} {m : Nat} (hc : cOps P n ops.toList ops.toList = some al) (hd : dOK2 ops.toList al m = true)
    {env : Env} {rows : Rows} {ρ : Pl} {T : Nat → Prop} {a : Act} {w : World} {Q : AExit → Env → Rows → Prop} {Q' : Exit → Act → World → Prop}
    (h : aops C (al.take m) env rows fun env rows => stabs C env rows ((dly ops.toList m m).filterMap fun j => al[j]?) ∧ aopsT C (tailL ops.toList al m m (ops.toList.length - m)) env rows (Q .normal)) (hs : Sim n ρ T env rows a w) (hg : GlobOK C w T)
    (hp : Post n ρ T rows w Q Q') : (Code.region id ops true).wp P Q' a w := by
  have hok := dOK2_spec hd
  have hlen := (cOps_get hc).1
  have hml : m ≤ al.length := by rw [hlen]; exact hok.le
  have hq : ∀ i, i < m → ∃ x, (al.take m)[i]? = some x ∧ quietA x.op = true := by
    intro i hi
    obtain ⟨x, o, h1, _, h3, _⟩ := hok.quiet i hi
    exact ⟨x, by rw [List.getElem?_take_of_lt hi]; exact h1, h3⟩
  obtain ⟨Dd, R, h0, h1, h2⟩ := trace hN m (by simp; omega) hq h
  subst h0
  have hnil : (al.take m).drop m = [] := List.drop_eq_nil_of_le (by simp; omega)
  rw [hnil, evAt_take m (Nat.le_refl _)] at h2
  obtain ⟨h2a, h2b⟩ := h2
  have h1' : ∀ i, i < m → ∃ x new, al[i]? = some x ∧ R (i + 1) = R i ++ new ∧ Ex C (evAt al Dd env i) (R i) x (Dd i) (R (i + 1)) := by
    intro i hi
    obtain ⟨x, new, q1, q2, q3⟩ := h1 i hi
    rw [List.getElem?_take_of_lt hi] at q1
    rw [evAt_take i (by omega)] at q3
    exact ⟨x, new, q1, q2, q3⟩
  have hrun : Run C P n ops al m env Dd R := ⟨⟨hok.toDOK0, hc, hC⟩, hN, h1'⟩
  have hw1 : Sim n ρ T env (R 0) a { w with drawn := w.drawn + 1 } := hs.heap rfl
  have hg1 : GlobOK C { w with drawn := w.drawn + 1 } T := hg.keep (fun _ _ => rfl) (fun _ h => h)
  have hLf : ∀ j, ¬ done (Array.replicate ops.size false) j := by
    intro j hj
    unfold done at hj
    simp [Array.getD] at hj
  have hsz : ops.toList.length - m = ops.size - m := by simp
  rw [hsz] at h2b
  refine wp_region_any hP (hrun.any2 hok h2a h2b (w0 := { w with drawn := w.drawn + 1 }) (ρ0 := ρ) (T0 := T) ?_ ops.size _ ρ T a _ ?_ (by simp) (fun j hj => absurd hj (hLf j)) (fun i hi => absurd hi (hLf i)) (hrun.start hw1 hg1 hLf))
  · intro env' rows' ρ' T' a' w' hk hs' hst'
    exact hp .normal env' rows' ρ' T' a' w' hk hs' ⟨hst'.pl, hst'.tt, hst'.tnew, hst'.size, hst'.keep, hst'.fresh, hst'.os, hst'.tape, hst'.output, hst'.len, hst'.same⟩
  · unfold undone
    exact Nat.le_trans (List.length_filter_le _ _) (by simp)
theorem draw1_sound (hC : CtxOK C P) (hP : P.follows .mixedOrders = true) {id : Nat} {ops : Array Oper} {al : List AOper} {m : Nat} (hc : cOps P n ops.toList ops.toList = some al) (hd : dOK ops.toList al m = true)
    {env : Env} {rows : Rows} {ρ : Pl} {T : Nat → Prop} {a : Act} {w : World} {Q : AExit → Env → Rows → Prop} {Q' : Exit → Act → World → Prop}
    (h : aops C.quiet (al.take m) env rows fun env rows => aops C (al.drop m) env rows (Q .normal)) (hs : Sim n ρ T env rows a w) (hg : GlobOK C w T)
    (hp : Post n ρ T rows w Q Q') : (Code.region id ops true).wp P Q' a w := by
  have hok := dOK_spec hd
  have hlen := (cOps_get hc).1
  have hml : m ≤ al.length := by rw [hlen]; exact hok.le
  have hq : ∀ i, i < m → ∃ x, (al.take m)[i]? = some x ∧ quietA x.op = true := by
    intro i hi
    obtain ⟨x, o, h1, _, h3, _⟩ := hok.quiet i hi
    exact ⟨x, by rw [List.getElem?_take_of_lt hi]; exact h1, h3⟩
  have hN : ∀ f, C.quiet.fnr f = none := fun _ => rfl
  obtain ⟨Dd, R, h0, h1, h2⟩ := trace hN m (by simp; omega) hq h
  subst h0
  have hnil : (al.take m).drop m = [] := List.drop_eq_nil_of_le (by simp; omega)
  rw [hnil, evAt_take m (Nat.le_refl _)] at h2
  have h2' : aops C (al.drop m) (evAt al Dd env m) (R m) (Q .normal) := h2
  have h1' : ∀ i, i < m → ∃ x new, al[i]? = some x ∧ R (i + 1) = R i ++ new ∧ Ex C.quiet (evAt al Dd env i) (R i) x (Dd i) (R (i + 1)) := by
    intro i hi
    obtain ⟨x, new, q1, q2, q3⟩ := h1 i hi
    rw [List.getElem?_take_of_lt hi] at q1
    rw [evAt_take i (by omega)] at q3
    exact ⟨x, new, q1, q2, q3⟩
  have hrun : Run C.quiet P n ops al m env Dd R := ⟨⟨hok.toDOK0, hc, hC.quiet⟩, hN, h1'⟩
  have hw1 : Sim n ρ T env (R 0) a { w with drawn := w.drawn + 1 } := hs.heap rfl
  have hg0 : GlobOK C.quiet w T := hg
  have hg1 : GlobOK C.quiet { w with drawn := w.drawn + 1 } T := hg0.keep (fun _ _ => rfl) (fun _ h => h)
  have hLf : ∀ j, ¬ done (Array.replicate ops.size false) j := by
    intro j hj
    unfold done at hj
    simp [Array.getD] at hj
  refine wp_region_any hP (hrun.any hok hC (fun _ _ h => h) h2' (w0 := { w with drawn := w.drawn + 1 }) (ρ0 := ρ) (T0 := T) ?_ ops.size _ ρ T a _ ?_ (by simp) (fun j hj => absurd hj (hLf j)) (fun i hi => absurd hi (hLf i)) (hrun.start hw1 hg1 hLf))
  · intro env' rows' ρ' T' a' w' hk hs' hst'
    exact hp .normal env' rows' ρ' T' a' w' hk hs' ⟨hst'.pl, hst'.tt, hst'.tnew, hst'.size, hst'.keep, hst'.fresh, hst'.os, hst'.tape, hst'.output, hst'.len, hst'.same⟩
  · unfold undone
    exact Nat.le_trans (List.length_filter_le _ _) (by simp)
theorem leastM_ok {ops : List Oper} {al : List AOper} {m : Nat} (h : leastM ops al = some m) : dOK ops al m = true := by
  unfold leastM at h
  have := List.find?_some h
  simpa using this
end Go.Am
namespace Go.Am
set_option linter.unusedVariables false
set_option linter.unusedSimpArgs false
variable {C : Ctx} {P : Program} {n : Nat} {ρ : Pl} {T : Nat → Prop} {env : Env} {rows : Rows} {a : Act} {w : World}
theorem code_sound (hC : CtxOK C P) : ∀ (c : Code) (ac : ACode), comp P n c = some ac → ∀ (Q : AExit → Env → Rows → Prop) (Q' : Exit → Act → World → Prop) (env : Env) (rows : Rows) (ρ : Pl) (T : Nat → Prop) (a : Act) (w : World),
    aw C ac Q env rows → Sim n ρ T env rows a w → GlobOK C w T → Post n ρ T rows w Q Q' → c.wp P Q' a w := by
  intro c
  induction c with
  | skip =>
    intro ac hc Q Q' env rows ρ T a w h hs hg hp
    simp [comp] at hc; subst hc
    exact wp_skip (hp .normal env rows ρ T a w h hs (Step.refl _ _ _ _))
  | region id ops draw =>
    intro ac hc Q Q' env rows ρ T a w h hs hg hp
    simp only [comp] at hc
    split at hc
    · rename_i al h1
      cases draw with
      | false =>
        simp only [Bool.not_false, cond_true] at hc
        cases hc
        refine wp_region ?_
        have := ops_sound hC ops (Q' := Q') ops.toList 0 (by simp) al h1 env rows ρ T a w (Q .normal) h hs hg (fun env' rows' ρ' T' a' w' hk hs' hst => hp .normal env' rows' ρ' T' a' w' hk hs' hst)
        rw [List.range_eq_range']
        simpa using this
      | true =>
        simp only [Bool.not_true, cond_false] at hc
        cases hdr : (P.follows .mixedOrders && drawOK ops.toList al) with
        | false =>
          rw [hdr] at hc
          simp only [cond_false] at hc
          cases hd2 : (P.follows .mixedOrders && dOK2 ops.toList al (mQ ops.toList al)) with
          | false => rw [hd2] at hc; cases hc; exact h.elim
          | true =>
            rw [hd2] at hc
            simp only [cond_true] at hc
            cases hc
            simp only [Bool.and_eq_true] at hd2
            exact draw2_sound (C := C.quiet) (fun _ => rfl) hC.quiet hd2.1 h1 hd2.2 h hs hg hp
        | true =>
          rw [hdr] at hc
          simp only [cond_true] at hc
          cases hc
          simp only [Bool.and_eq_true] at hdr
          cases hm : leastM ops.toList al with
          | none =>
            have e : drawA ops.toList al = .region true al := by unfold drawA; rw [hm]
            rw [e] at h
            exact draw_sound (C := C.quiet) (fun _ => rfl) hC.quiet hdr.1 h1 hdr.2 h hs hg hp
          | some m =>
            cases hcl : callsA (al.drop m) with
            | false =>
              have e : drawA ops.toList al = .region true al := by unfold drawA; rw [hm]; simp only [hcl, cond_false]
              rw [e] at h
              exact draw_sound (C := C.quiet) (fun _ => rfl) hC.quiet hdr.1 h1 hdr.2 h hs hg hp
            | true =>
              have e : drawA ops.toList al = .draw1 (al.take m) (al.drop m) := by unfold drawA; rw [hm]; simp only [hcl, cond_true]
              rw [e] at h
              exact draw1_sound hC hdr.1 h1 (leastM_ok hm) h hs hg hp
    · cases hc; exact h.elim
  | seq x y ihx ihy =>
    intro ac hc Q Q' env rows ρ T a w h hs hg hp
    obtain ⟨ax, h1, hc⟩ := o2_some hc
    obtain ⟨ay, h2, hc⟩ := o2_some hc
    cases hc
    refine wp_seq (ihx ax h1 _ _ env rows ρ T a w h hs hg ?_)
    intro e env' rows' ρ' T' a' w' hq hs' hst
    cases e with
    | normal => exact ihy ay h2 Q Q' env' rows' ρ' T' a' w' hq hs' (hg.step hs hst) (fun e2 env2 rows2 ρ2 T2 a2 w2 hq2 hs2 hst2 => hp e2 env2 rows2 ρ2 T2 a2 w2 hq2 hs2 (hst.trans hst2))
    | exit i => exact hp (.exit i) env' rows' ρ' T' a' w' hq hs' hst
    | ret => exact hp .ret env' rows' ρ' T' a' w' hq hs' hst
  | cond x p q ihp ihq =>
    intro ac hc Q Q' env rows ρ T a w h hs hg hp
    obtain ⟨x', h1, hc⟩ := o2_some hc
    obtain ⟨ap, h2, hc⟩ := o2_some hc
    obtain ⟨aq, h3, hc⟩ := o2_some hc
    cases hc
    obtain ⟨d, he, hk⟩ := bnd_some h
    split at hk
    · rename_i t
      have hG : Glob C ρ w T := fun g d hd => (hg g d hd).mono (by intro r L h; cases h) (fun _ _ => rfl) (fun _ h => h)
      have hx := ev_raw h1 he hs hG
      refine wp_cond_split hx (fun ht => ?_) (fun ht => ?_)
      · exact ihp ap h2 Q Q' env rows ρ T a w (hk.1 ht) hs hg hp
      · exact ihq aq h3 Q Q' env rows ρ T a w (hk.2 ht) hs hg hp
    · exact hk.elim
  | block id x ih =>
    intro ac hc Q Q' env rows ρ T a w h hs hg hp
    obtain ⟨ax, h1, hc⟩ := o2_some hc
    cases hc
    refine wp_block (ih ax h1 _ _ env rows ρ T a w h hs hg ?_)
    intro e env' rows' ρ' T' a' w' hq hs' hst
    cases e with
    | normal => exact hp .normal env' rows' ρ' T' a' w' hq hs' hst
    | exit i =>
      simp only [exitOf, Exit.inBlock]
      by_cases hi : i = id
      · rw [if_pos hi]; exact hp .normal env' rows' ρ' T' a' w' (hq.1 hi) hs' hst
      · rw [if_neg hi]; exact hp (.exit i) env' rows' ρ' T' a' w' (hq.2 hi) hs' hst
    | ret => exact hp .ret env' rows' ρ' T' a' w' hq hs' hst
  | loop x ih =>
    intro ac hc Q Q' env rows ρ T a w h hs hg hp
    obtain ⟨ax, h1, hc⟩ := o2_some hc
    cases hc
    obtain ⟨m, hm⟩ := h
    refine wp_loop_rounds m ?_
    induction m generalizing env rows ρ T a w with
    | zero => exact hm.elim
    | succ m ihm =>
      refine ih ax h1 _ _ env rows ρ T a w hm hs hg ?_
      intro e env' rows' ρ' T' a' w' hq hs' hst
      cases e with
      | normal => exact ihm env' rows' ρ' T' a' w' hs' (hg.step hs hst) (fun e2 env2 rows2 ρ2 T2 a2 w2 hq2 hs2 hst2 => hp e2 env2 rows2 ρ2 T2 a2 w2 hq2 hs2 (hst.trans hst2)) hq
      | exit i => exact hp (.exit i) env' rows' ρ' T' a' w' hq hs' hst
      | ret => exact hp .ret env' rows' ρ' T' a' w' hq hs' hst
  | exit id =>
    intro ac hc Q Q' env rows ρ T a w h hs hg hp
    simp [comp] at hc; subst hc
    exact wp_exit (hp (.exit id) env rows ρ T a w h hs (Step.refl _ _ _ _))
  | ret =>
    intro ac hc Q Q' env rows ρ T a w h hs hg hp
    simp [comp] at hc; subst hc
    exact wp_ret (hp .ret env rows ρ T a w h hs (Step.refl _ _ _ _))
  | _ => intro ac hc; cases hc; intro Q Q' env rows ρ T a w h; exact h.elim
inductive ARes where
  | tmp (t : Nat)
  | cell (t : Nat) (s : Sh)
  deriving Inhabited
def cRes (P : Program) : ResultVar → Option ARes
  | .tmp t => some (.tmp t)
  | .cell t ty => o2 (sh P ty) fun s => ifo (leafOk P ty s) (some (.cell t s))
def cRess (P : Program) : List ResultVar → Option (List ARes)
  | [] => some []
  | r :: l => o2 (cRes P r) fun a => o2 (cRess P l) fun b => some (a :: b)
def ares1 (env : Env) (rows : Rows) : ARes → Option D
  | .tmp t => match look env t with
    | some (.tup _) => none
    | d => d
  | .cell t s => match look env t with
    | some (.ptr s' r p) => bif s' == s then (match live rows r with
      | some row => rowGet row.els p
      | none => none) else none
    | _ => none
def ares (env : Env) (rows : Rows) : List ARes → Option (List D)
  | [] => some []
  | r :: l => match ares1 env rows r with
    | some d => match ares env rows l with
      | some ds => some (d :: ds)
      | none => none
    | none => none
def resOf : List D → D
  | [d] => d
  | l => .tup l
def zipEnv : Nat → List D → Env
  | _, [] => []
  | i, d :: l => (i, d) :: zipEnv (i + 1) l
theorem look_zip : ∀ (l : List D) (i t : Nat) (d : D), look (zipEnv i l) t = some d → i ≤ t ∧ l[t - i]? = some d
  | [], i, t, d, h => by simp [zipEnv, look] at h
  | x :: l, i, t, d, h => by
    simp only [zipEnv, look] at h
    cases hb : (i == t) with
    | true =>
      have : i = t := by simpa using hb
      subst this
      simp [hb] at h
      subst h
      simp
    | false =>
      simp [hb] at h
      have hne : i ≠ t := by simpa using hb
      obtain ⟨h1, h2⟩ := look_zip l (i + 1) t d h
      refine ⟨by omega, ?_⟩
      have : t - i = (t - (i + 1)) + 1 := by omega
      rw [this]
      simpa using h2
theorem res_sound (hs : Sim n ρ T env rows a w) : ∀ {l : List ResultVar} {l' : List ARes} {ds : List D}, cRess P l = some l' → ares env rows l' = some ds →
    ∃ vs : List Value, (l.mapM (fun r : ResultVar => (match r with | .tmp t => pure (a.tmps.getD t undef) | .cell x t => do loadVar t (← asAddr (a.tmps.getD x undef)) : Sem Value))).run P w = .ok vs w ∧ All2 (VR1 ρ w T) ds vs
  | [], l', ds, h1, h2 => by
    simp [cRess] at h1; subst h1
    simp [ares] at h2; subst h2
    exact ⟨[], by simp, .nil⟩
  | r :: l, l', ds, h1, h2 => by
    obtain ⟨r', g1, h1⟩ := o2_some h1
    obtain ⟨q, g2, h1⟩ := o2_some h1
    cases h1
    simp only [ares] at h2
    split at h2
    · rename_i d hd
      split at h2
      · rename_i ds' hds
        cases h2
        obtain ⟨vs, k1, k2⟩ := res_sound hs g2 hds
        have one : ∃ v, (match r with | .tmp t => pure (a.tmps.getD t undef) | .cell x t => do loadVar t (← asAddr (a.tmps.getD x undef)) : Sem Value).run P w = .ok v w ∧ VR1 ρ w T d v := by
          cases r with
          | tmp t =>
            simp [cRes] at g1
            subst g1
            simp only [ares1] at hd
            refine ⟨a.tmps.getD t undef, by simp, ?_⟩
            split at hd
            · cases hd
            · rename_i x hx
              have := hs.env t d hd
              cases d with
              | tup z => exact absurd hd (by intro h; exact hx z h)
              | _ => exact this
          | cell x t =>
            obtain ⟨s, g3, g1⟩ := o2_some g1
            obtain ⟨g4, g1⟩ := ifo_some g1
            cases g1
            simp only [ares1] at hd
            split at hd
            · rename_i s' rr p hlk
              cases hss : (s' == s) with
              | false => rw [hss] at hd; simp at hd
              | true =>
                have hss' : s' = s := by simpa using hss
                subst hss'
                simp only [hss, cond_true] at hd
                split at hd
                · rename_i row hl
                  have hv := hs.env x _ hlk
                  obtain ⟨b, o', cs, hx, m1, m2, m3⟩ := hs.rowsOK.readPtr (show LR ρ w T _ _ from hv) hl hd
                  have hlen := m2.len
                  rw [m1.len] at hlen
                  refine ⟨ofCells s' cs, ?_, ?_⟩
                  · simp only [Sem.run_bind]
                    rw [hx]
                    simp [asAddr, run_loadVar_at g3 g4 m3 hlen.symm (leaf_one m1 m2)]
                  · have := VR.ofCells (ρ := ρ) (T := T) m1 m2
                    unfold ofCells at this ⊢
                    cases hag : s'.isAgg with
                    | true => exact VR1.ofAgg m1 hag (by simpa using m2)
                    | false =>
                      have hlf := m1.leafOf hag
                      rw [leaf_flat hlf] at m2
                      have hl2 := m2.len
                      match cs, hl2 with
                      | [c], _ => exact VR1.ofLeaf m2.head
                · cases hd
            · cases hd
        obtain ⟨v, m1, m2⟩ := one
        refine ⟨v :: vs, ?_, .cons m2 k2⟩
        rw [List.mapM_cons]
        simp only [Sem.run_bind, m1, k1, Result.andThen_ok, Sem.run_pure]
      · cases h2
    · cases h2
def afun (C : Ctx) (np : Nat) (res : List ARes) (ac : ACode) : AFun := fun ds rows K =>
  ds.length = np ∧ aw C ac (fun e env rows' => (e = .normal ∨ e = .ret) ∧ bnd (ares env rows' res) fun l => K (resOf l) rows') (zipEnv 0 ds) rows
theorem fn_sound (hC : CtxOK C P) {f : FuncId} {fn : Func} {ac : ACode} {res : List ARes} {np : Nat} (hf : P.funcs[f]? = some fn) (hb : o2 fn.body (comp P fn.ntmps) = some ac) (hr : cRess P fn.results.toList = some res) (hnp : np ≤ fn.ntmps) :
    Meets C.glob P f (afun C np res ac) := by
  intro ds rows K ⟨hlen, h⟩ ρ w T args hrows hdom htlt hargs hG0
  obtain ⟨c, hbody, hcomp⟩ := o2_some hb
  refine calls_of_wp hf hbody ?_
  have hal : args.size = np := by rw [← hlen]; simpa using hargs.len.symm
  have hs : Sim fn.ntmps ρ T (zipEnv 0 ds) rows { tmps := args ++ Array.replicate (fn.ntmps - args.size) undef, defers := [] } w := by
    refine ⟨hrows, fun t d hd => ?_, by simp; omega, htlt, hdom, rfl⟩
    obtain ⟨_, h2⟩ := look_zip ds 0 t d hd
    rw [Nat.sub_zero] at h2
    obtain ⟨v, hv, hvr⟩ := hargs.some h2
    have hv' : args[t]? = some v := by simpa using hv
    have hlt : t < args.size := (Array.getElem?_eq_some_iff.1 hv').1
    have : (args ++ Array.replicate (fn.ntmps - args.size) undef).getD t undef = v := by
      simp only [Array.getD_eq_getD_getElem?]
      rw [Array.getElem?_append_left hlt, hv']
      rfl
    rw [this]
    exact hvr
  refine code_sound hC c ac hcomp _ _ _ rows ρ T _ w h hs hG0 ?_
  intro e env' rows' ρ' T' a' w' ⟨he, hk⟩ hs' hst
  obtain ⟨l, hl, hk⟩ := bnd_some hk
  obtain ⟨vs, h1, h2⟩ := res_sound hs' hr hl
  have hres : ∃ v, (results fn a'.tmps).run P w' = .ok v w' ∧ VR ρ' w' T' (resOf l) v := by
    have hm : (fn.results.mapM (fun r : ResultVar => (match r with | .tmp t => pure (a'.tmps.getD t undef) | .cell x t => do loadVar t (← asAddr (a'.tmps.getD x undef)) : Sem Value))).run P w' = .ok vs.toArray w' := by
      rw [Array.mapM_eq_mapM_toList]
      simp only [Sem.run_map, h1, Result.andThen_ok]
    have hlen := h2.len
    have e0 : (results fn a'.tmps).run P w' = ((fn.results.mapM (fun r : ResultVar => (match r with | .tmp t => pure (a'.tmps.getD t undef) | .cell x t => do loadVar t (← asAddr (a'.tmps.getD x undef)) : Sem Value))).run P w').andThen
        fun vs w' => (pure (if h : vs.size = 1 then vs[0] else .tuple vs) : Sem Value).run P w' := by
      unfold results
      rw [Sem.run_bind]
      rfl
    rw [e0, hm]
    simp only [Result.andThen_ok, Sem.run_pure, List.size_toArray]
    by_cases h1' : vs.length = 1
    · have hl1 : l.length = 1 := by omega
      obtain ⟨v, rfl⟩ := List.length_eq_one_iff.1 h1'
      obtain ⟨d, rfl⟩ := List.length_eq_one_iff.1 hl1
      exact ⟨v, by simp, VR.ofVR1 h2.head⟩
    · refine ⟨.tuple vs.toArray, by simp [h1'], ?_⟩
      have : resOf l = .tup l := by
        have hl1 : l.length ≠ 1 := by omega
        clear hlen h2 hl hk h1 hm e0
        match l, hl1 with
        | [], _ => rfl
        | [d], hq => exact absurd rfl hq
        | _ :: _ :: _, _ => rfl
      rw [this]
      exact ⟨vs.toArray, rfl, by simpa using h2⟩
  obtain ⟨v, hv1, hv2⟩ := hres
  have hback : Back K ρ T rows w (.returned v) w' := ⟨v, resOf l, rows', ρ', T', rfl, hk, hs'.rowsOK, hs'.dom, hs'.tlt, hst, hv2⟩
  rcases he with rfl | rfl
  · exact ⟨hs'.defers, v, hv1, hback⟩
  · exact ⟨hs'.defers, v, hv1, hback⟩
end Go.Am
namespace Go.Am
set_option linter.unusedVariables false
set_option linter.unusedSimpArgs false
variable {C : Ctx} {P : Program} {n : Nat} {ρ : Pl} {T : Nat → Prop} {env : Env} {rows : Rows} {a : Act} {w : World}
inductive Expo (rows : Rows) : D → D → Rows → Prop where
  | val (d : D) : hasRef d = false → Expo rows d d []
  | frz (d d' : D) : view rows 9 d = some d' → Expo rows d d' []
  | frzT (l l' : List D) : mapO (view rows 9) l = some l' → Expo rows (.tup l) (.tup l') []
  | own (s : Sh) (r off len : Nat) (ex ex' : Bool) (row : Row) : live rows r = some row → row.sh.pure = true → (ex' = true → ex = true) → Expo rows (.sl s r [] off len ex) (.sl s 0 [] off len ex') [some row]
  | nil0 (s : Sh) : Expo rows (.raw (.slice none 0 0)) (.sl s 0 [] 0 0 false) [some ⟨s, []⟩]
  | ownT (s : Sh) (r off len : Nat) (ex ex' : Bool) (row : Row) (l : List D) : live rows r = some row → row.sh.pure = true → hasRefL l = false → (ex' = true → ex = true) →
      Expo rows (.tup (.sl s r [] off len ex :: l)) (.tup (.sl s 0 [] off len ex' :: l)) [some row]
  | ownU (z : List D) (s : Sh) (r off len : Nat) (ex ex' : Bool) (row : Row) (l : List D) : live rows r = some row → row.sh.pure = true → hasRefL z = false → hasRefL l = false → (ex' = true → ex = true) →
      Expo rows (.tup (z ++ .sl s r [] off len ex :: l)) (.tup (z ++ .sl s 0 [] off len ex' :: l)) [some row]
  | own2 (z y l : List D) (s s2 : Sh) (r r2 off len off2 len2 : Nat) (ex ex' ex2 ex2' : Bool) (row row2 : Row) : live rows r = some row → live rows r2 = some row2 → r ≠ r2 → row.sh.pure = true → row2.sh.pure = true → hasRefL z = false → hasRefL y = false → hasRefL l = false →
      (ex' = true → ex = true) → (ex2' = true → ex2 = true) →
      Expo rows (.tup (z ++ .sl s r [] off len ex :: (y ++ .sl s2 r2 [] off2 len2 ex2 :: l))) (.tup (z ++ .sl s 0 [] off len ex' :: (y ++ .sl s2 1 [] off2 len2 ex2' :: l))) [some row, some row2]
def twoPl (L L2 : Option Loc) : Pl := fun r => if r = 0 then L else if r = 1 then L2 else none
def onePl (L : Option Loc) : Pl := fun r => if r = 0 then L else none
theorem Step.emp {ρ' : Pl} {T' : Nat → Prop} {w' : World} {rows' : Rows} (hst : Step ρ T [] w ρ' T' rows' w') (hdom : ∀ r, ρ r = none) : ∀ r row L, live rows' r = some row → ρ' r = some L → w.heap.size ≤ L.b := by
  intro r row L h1 h2
  rcases hst.fresh r row L h1 h2 with ⟨r0, row0, L0, h3, _⟩ | h3
  · simp [live] at h3
  · exact h3
theorem RowOK.pure {ρ' : Pl} {row : Row} {L : Loc} {T' : Nat → Prop} (h : RowOK ρ row L w T) (hp : row.sh.pure = true) : RowOK ρ' row L w T := by
  refine ⟨h.sh, h.notT, h.els, fun hm => ?_, h.mcells⟩
  obtain ⟨cur, t, h1, h2, h3, h4⟩ := h.cells hm
  exact ⟨cur, t, h1, h2, h3, h4.ofRaw (pure_flatL h.els hp)⟩
theorem view_tup {k : Nat} {d : D} {z : List D} (h : view rows k d = some (.tup z)) : False := by
  cases k with
  | zero => simp [view] at h
  | succ k =>
    cases d with
    | lst s l e =>
      simp only [view] at h
      cases hp : s.pure with
      | true => simp [hp] at h
      | false =>
        simp only [hp, cond_false] at h
        split at h <;> cases h
    | agg s l =>
      simp only [view] at h
      cases hp : s.pure with
      | true => simp [hp] at h
      | false =>
        simp only [hp, cond_false] at h
        split at h <;> cases h
    | sl s r p off len e =>
      simp only [view] at h
      split at h
      · rename_i l hl
        cases hb : (l.length == len) with
        | false => simp [hb] at h
        | true =>
          simp only [hb, Bool.not_true, cond_false] at h
          cases hp : s.pure with
          | true => simp [hp] at h
          | false =>
            simp only [hp, cond_false] at h
            split at h <;> cases h
      · cases h
    | mp r =>
      simp only [view] at h
      split at h <;> cases h
    | ptr s r p =>
      simp only [view] at h
      split at h
      · split at h
        · cases hp : s.pure with
          | true => simp [hp] at h
          | false =>
            simp only [hp, cond_false] at h
            split at h <;> cases h
        · cases h
      · cases h
    | _ => simp [view] at h
theorem Back.expo {K K' : D → Rows → Prop} {e : Ending} {w' : World} (hdom : ∀ r, ρ r = none) (h : Back K ρ T [] w e w') (hk : ∀ d rows, K d rows → ∃ d' rows', Expo rows d d' rows' ∧ K' d' rows') : Back K' ρ T [] w e w' := by
  obtain ⟨v, d, rows', ρ', T', he, hkd, hrows, hd, ht, hst, hv⟩ := h.ex
  obtain ⟨d', rows2, hx, hk'⟩ := hk d rows' hkd
  have hnew := hst.emp hdom
  have ev0 : ∀ (r : Nat) (row : Row), live ([] : Rows) r ≠ some row := by intro r row h; simp [live] at h
  have hT : ∀ b, T b → w'.heap[b]? = w'.heap[b]? := fun _ _ => rfl
  -- nothing left
  have val : VR noPl w' T' d' v → Back (fun d r => d = d' ∧ r = []) ρ T [] w e w' := by
    intro hv'
    exact ⟨v, d', [], noPl, T', he, ⟨rfl, rfl⟩, ⟨fun r row L h => absurd h (ev0 r row), fun r _ row _ _ _ h => absurd h (ev0 r row)⟩, fun _ _ => rfl, ht,
      ⟨fun r L hr => by rw [hdom r] at hr; (cases hr), hst.tt, hst.tnew, hst.size, hst.keep, fun r row L h => absurd h (ev0 r row), hst.os, hst.tape, hst.output, Nat.le_refl _, fun r hr => by simp at hr⟩, hv'⟩
  have frz : VR noPl w' (Blk ρ' T' rows') d' v → Back (fun d r => d = d' ∧ r = []) ρ T [] w e w' := by
    intro hv'
    refine ⟨v, d', [], noPl, Blk ρ' T' rows', he, ⟨rfl, rfl⟩, ⟨fun r row L h => absurd h (ev0 r row), fun r _ row _ _ _ h => absurd h (ev0 r row)⟩, fun _ _ => rfl, ?_,
      ⟨fun r L hr => by rw [hdom r] at hr; (cases hr), fun b hb => .inl (hst.tt b hb), ?_, hst.size, hst.keep, fun r row L h => absurd h (ev0 r row), hst.os, hst.tape, hst.output, Nat.le_refl _, fun r hr => by simp at hr⟩, hv'⟩
    · rintro b (h1 | ⟨r, row, L, h1, h2, rfl⟩)
      · exact ht b h1
      · exact (hrows.row r row L h1 h2).lt
    · rintro b (h1 | ⟨r, row, L, h1, h2, rfl⟩)
      · exact hst.tnew b h1
      · exact .inr (.inl (hnew r row L h1 h2))
  have own : ∀ (r : Nat) (row : Row), live rows' r = some row → row.sh.pure = true → VR (onePl (ρ' r)) w' T' d' v → Back (fun d r => d = d' ∧ r = [some row]) ρ T [] w e w' := by
    intro r row hl hp hv'
    have hl0 : ∀ q row', live [some row] q = some row' → q = 0 ∧ row' = row := by
      intro q row' hq
      cases q with
      | zero => simp [live] at hq; exact ⟨rfl, hq.symm⟩
      | succ q => simp [live] at hq
    refine ⟨v, d', [some row], onePl (ρ' r), T', he, ⟨rfl, rfl⟩, ⟨fun q row' L h1 h2 => ?_, fun q q' row1 row2 L L' h1 h2 _ _ hne => ?_⟩, fun q hq => ?_, ht,
      ⟨fun r L hr => by rw [hdom r] at hr; (cases hr), hst.tt, hst.tnew, hst.size, hst.keep, fun q row' L h1 h2 => ?_, hst.os, hst.tape, hst.output, by simp, fun r hr => by simp at hr⟩, hv'⟩
    · obtain ⟨rfl, rfl⟩ := hl0 q row' h1
      simp only [onePl, if_true] at h2
      exact (hrows.row r row' L hl h2).pure (T' := T') hp
    · exact absurd ((hl0 q row1 h1).1.trans (hl0 q' row2 h2).1.symm) hne
    · simp at hq
      unfold onePl
      rw [if_neg (by omega)]
    · obtain ⟨rfl, rfl⟩ := hl0 q row' h1
      simp only [onePl, if_true] at h2
      exact .inr (hnew r row' L hl h2)
  have sl1 : ∀ (s : Sh) (r off len : Nat) (ex ex' : Bool) (v : Value), (ex' = true → ex = true) → LR ρ' w' T' (.sl s r [] off len ex) v → LR (onePl (ρ' r)) w' T' (.sl s 0 [] off len ex') v := by
    intro s r off len ex ex' v hee hlr
    cases hlr with
    | sl _ _ _ _ _ _ L cap h1 h2 h3 h4 => exact .sl s 0 [] off len ex' L cap (by simp [onePl, h1]) h2 (fun h => h3 (hee h)) h4
    | slz _ _ _ _ _ a => exact .slz s 0 [] off ex' a
  have own2 : ∀ (r r2 : Nat) (row row2 : Row), live rows' r = some row → live rows' r2 = some row2 → r ≠ r2 → row.sh.pure = true → row2.sh.pure = true → VR (twoPl (ρ' r) (ρ' r2)) w' T' d' v → Back (fun d r => d = d' ∧ r = [some row, some row2]) ρ T [] w e w' := by
    intro r r2 row row2 hl hl2 hne2 hp hp2 hv'
    have hl0 : ∀ q row', live [some row, some row2] q = some row' → (q = 0 ∧ row' = row) ∨ (q = 1 ∧ row' = row2) := by
      intro q row' hq
      match q, hq with
      | 0, hq => simp [live] at hq; exact .inl ⟨rfl, hq.symm⟩
      | 1, hq => simp [live] at hq; exact .inr ⟨rfl, hq.symm⟩
      | q + 2, hq => simp [live] at hq
    have t0 : twoPl (ρ' r) (ρ' r2) 0 = ρ' r := by simp [twoPl]
    have t1 : twoPl (ρ' r) (ρ' r2) 1 = ρ' r2 := by simp [twoPl]
    refine ⟨v, d', [some row, some row2], twoPl (ρ' r) (ρ' r2), T', he, ⟨rfl, rfl⟩, ⟨fun q row' L h1 h2 => ?_, fun q q' row1 row3 L L' h1 h2 h3 h4 hne => ?_⟩, fun q hq => ?_, ht,
      ⟨fun r L hr => by rw [hdom r] at hr; (cases hr), hst.tt, hst.tnew, hst.size, hst.keep, fun q row' L h1 h2 => ?_, hst.os, hst.tape, hst.output, by simp, fun r hr => by simp at hr⟩, hv'⟩
    · rcases hl0 q row' h1 with ⟨rfl, rfl⟩ | ⟨rfl, rfl⟩
      · rw [t0] at h2
        exact (hrows.row r row' L hl h2).pure (T' := T') hp
      · rw [t1] at h2
        exact (hrows.row r2 row' L hl2 h2).pure (T' := T') hp2
    · rcases hl0 q row1 h1 with ⟨rfl, rfl⟩ | ⟨rfl, rfl⟩ <;> rcases hl0 q' row3 h2 with ⟨rfl, rfl⟩ | ⟨rfl, rfl⟩
      · exact absurd rfl hne
      · rw [t0] at h3; rw [t1] at h4
        exact hrows.dist r r2 _ _ L L' hl hl2 h3 h4 hne2
      · rw [t1] at h3; rw [t0] at h4
        exact hrows.dist r2 r _ _ L L' hl2 hl h3 h4 (Ne.symm hne2)
      · exact absurd rfl hne
    · simp at hq
      unfold twoPl
      rw [if_neg (by omega), if_neg (by omega)]
    · rcases hl0 q row' h1 with ⟨rfl, rfl⟩ | ⟨rfl, rfl⟩
      · rw [t0] at h2
        exact .inr (hnew r row' L hl h2)
      · rw [t1] at h2
        exact .inr (hnew r2 row' L hl2 h2)
  have sl2 : ∀ (s : Sh) (r r' q off len : Nat) (ex ex' : Bool) (v : Value) (ρ2 : Pl), ρ2 q = ρ' r → (ex' = true → ex = true) → LR ρ' w' T' (.sl s r [] off len ex) v → LR ρ2 w' T' (.sl s q [] off len ex') v := by
    intro s r r' q off len ex ex' v ρ2 hq hee hlr
    cases hlr with
    | sl _ _ _ _ _ _ L cap h1 h2 h3 h4 => exact .sl s q [] off len ex' L cap (by rw [hq]; exact h1) h2 (fun h => h3 (hee h)) h4
    | slz _ _ _ _ _ a => exact .slz s q [] off ex' a
  have done : Back (fun d r => d = d' ∧ r = rows2) ρ T [] w e w' → Back K' ρ T [] w e w' := by
    rintro ⟨v, d2, r2, ρ2, T2, q1, ⟨rfl, rfl⟩, q3⟩
    exact ⟨v, d2, r2, ρ2, T2, q1, hk', q3⟩
  refine done ?_
  cases hx with
  | val _ h1 => exact val (hv.closed h1)
  | frz _ _ h1 => exact frz (view_VR hrows h1 hv)
  | frzT l l' h1 =>
    obtain ⟨vs, rfl, hall⟩ := hv
    refine frz ⟨vs, rfl, ?_⟩
    obtain ⟨g1, g2⟩ := mapO_get h1
    refine ⟨by rw [g1]; exact hall.len, fun i x y hx hy => ?_⟩
    have hil : i < l.length := by rw [← g1]; exact lt_of_get hx
    have hxi := List.getElem?_eq_getElem hil
    have := view_VR hrows (g2 i _ _ hxi hx) (VR.ofVR1 (hall.at_ i _ y hxi hy))
    cases x with
    | tup z =>
      exact (view_tup (g2 i _ _ hxi hx)).elim
    | _ => exact this
  | own s r off len ex ex' row h1 h2 h4 => exact own r row h1 h2 (VR.ofLeaf (sl1 s r off len ex ex' v h4 hv))
  | nil0 s =>
    have hv' := hv.ofRaw
    subst hv'
    refine ⟨_, _, [some ⟨s, []⟩], noPl, T', he, ⟨rfl, rfl⟩, ⟨fun _ _ _ _ h => (by cases h), fun _ _ _ _ _ _ _ _ h => (by cases h)⟩, fun _ _ => rfl, ht,
      ⟨fun r L hr => by rw [hdom r] at hr; (cases hr), hst.tt, hst.tnew, hst.size, hst.keep, fun _ _ _ _ h => (by cases h), hst.os, hst.tape, hst.output, by simp, fun r hr => by simp at hr⟩, VR.ofLeaf (.slz s 0 [] 0 false none)⟩
  | ownT s r off len ex ex' row l h1 h2 h3 h4 =>
    obtain ⟨vs, rfl, hall⟩ := hv
    refine own r row h1 h2 ⟨vs, rfl, ?_⟩
    cases hvs : vs.toList with
    | nil => rw [hvs] at hall; have := hall.len; simp at this
    | cons v0 vs' =>
      rw [hvs] at hall
      refine .cons (VR1.ofLeaf (sl1 s r off len ex ex' v0 h4 hall.head)) ?_
      have ht := hall.tail
      refine ⟨ht.len, fun i x y hx hy => ?_⟩
      exact ((ht.at_ i x y hx hy).closed (hasRefL_mem h3 x (mem_of_get hx))).mono (by intro r L h; cases h) (fun _ _ => rfl) (fun _ h => h)

  | ownU z s r off len ex ex' row l h1 h2 h3 h5 h4 =>
    obtain ⟨vs, rfl, hall⟩ := hv
    refine own r row h1 h2 ⟨vs, rfl, ?_⟩
    refine ⟨by rw [← hall.len]; simp, fun i x y hx hy => ?_⟩
    have same : ∀ x, (z ++ .sl s r [] off len ex :: l)[i]? = some x → hasRef x = false → VR1 (onePl (ρ' r)) w' T' x y := fun x hx hr =>
      ((hall.at_ i x y hx hy).closed hr).mono (by intro r L h; cases h) (fun _ _ => rfl) (fun _ h => h)
    by_cases c : i < z.length
    · rw [List.getElem?_append_left c] at hx
      exact same x (by rw [List.getElem?_append_left c]; exact hx) (hasRefL_mem h3 x (mem_of_get hx))
    · rw [List.getElem?_append_right (by omega)] at hx
      have hz : (z ++ .sl s r [] off len ex :: l)[i]? = (D.sl s r [] off len ex :: l)[i - z.length]? := List.getElem?_append_right (by omega)
      cases hi : i - z.length with
      | zero =>
        rw [hi] at hx hz
        simp only [List.getElem?_cons_zero, Option.some.injEq] at hx hz
        subst hx
        exact VR1.ofLeaf (sl1 s r off len ex ex' y h4 (hall.at_ i _ y hz hy))
      | succ m =>
        rw [hi] at hx hz
        simp only [List.getElem?_cons_succ] at hx hz
        exact same x (by rw [hz]; exact hx) (hasRefL_mem h5 x (mem_of_get hx))
  | own2 z y l s s2 r r2 off len off2 len2 ex ex' ex2 ex2' row row2 h1 h2 hne p1 p2 h3 h5 h6 h4 h7 =>
    obtain ⟨vs, rfl, hall⟩ := hv
    refine own2 r r2 row row2 h1 h2 hne p1 p2 ⟨vs, rfl, ?_⟩
    have t0 : twoPl (ρ' r) (ρ' r2) 0 = ρ' r := by simp [twoPl]
    have t1 : twoPl (ρ' r) (ρ' r2) 1 = ρ' r2 := by simp [twoPl]
    refine ⟨by rw [← hall.len]; simp, fun i x x' hx hy => ?_⟩
    have same : ∀ x, (z ++ .sl s r [] off len ex :: (y ++ .sl s2 r2 [] off2 len2 ex2 :: l))[i]? = some x → hasRef x = false → VR1 (twoPl (ρ' r) (ρ' r2)) w' T' x x' := fun x hx hr =>
      ((hall.at_ i x x' hx hy).closed hr).mono (by intro r L h; cases h) (fun _ _ => rfl) (fun _ h => h)
    by_cases c : i < z.length
    · rw [List.getElem?_append_left c] at hx
      exact same x (by rw [List.getElem?_append_left c]; exact hx) (hasRefL_mem h3 x (mem_of_get hx))
    · rw [List.getElem?_append_right (by omega)] at hx
      have hz : (z ++ .sl s r [] off len ex :: (y ++ .sl s2 r2 [] off2 len2 ex2 :: l))[i]? = (D.sl s r [] off len ex :: (y ++ .sl s2 r2 [] off2 len2 ex2 :: l))[i - z.length]? := List.getElem?_append_right (by omega)
      cases hi : i - z.length with
      | zero =>
        rw [hi] at hx hz
        simp only [List.getElem?_cons_zero, Option.some.injEq] at hx hz
        subst hx
        exact VR1.ofLeaf (sl2 s r 0 0 off len ex ex' x' _ t0 h4 (hall.at_ i _ x' hz hy))
      | succ m =>
        rw [hi] at hx hz
        simp only [List.getElem?_cons_succ] at hx hz
        by_cases c2 : m < y.length
        · rw [List.getElem?_append_left c2] at hx hz
          exact same x (by rw [hz]; exact hx) (hasRefL_mem h5 x (mem_of_get hx))
        · have hz2 : (y ++ D.sl s2 r2 [] off2 len2 ex2 :: l)[m]? = (D.sl s2 r2 [] off2 len2 ex2 :: l)[m - y.length]? := List.getElem?_append_right (by omega)
          rw [List.getElem?_append_right (by omega)] at hx
          rw [hz2] at hz
          cases hm : m - y.length with
          | zero =>
            rw [hm] at hx hz
            simp only [List.getElem?_cons_zero, Option.some.injEq] at hx hz
            subst hx
            exact VR1.ofLeaf (sl2 s2 r2 0 1 off2 len2 ex2 ex2' x' _ t1 h7 (hall.at_ i _ x' hz hy))
          | succ q =>
            rw [hm] at hx hz
            simp only [List.getElem?_cons_succ] at hx hz
            exact same x (by rw [hz]; exact hx) (hasRefL_mem h6 x (mem_of_get hx))
def fnTab : List (Nat × Fn) → FuncId → Option Fn
  | [], _ => none
  | (k, F) :: l, f => bif k == f then some F else fnTab l f
theorem ctx_nil {G : Nat → Option D} : CtxOK ⟨G, fnTab [], fun _ => none⟩ P := ⟨(by intro f F h; cases h), (by intro f F h; cases h)⟩
theorem ctx_cons {G : Nat → Option D} {k : Nat} {F : Fn} {l : List (Nat × Fn)} {r : FuncId → Option AFun} (h : Meets G P k (Fn.run F)) (hl : CtxOK ⟨G, fnTab l, r⟩ P) : CtxOK ⟨G, fnTab ((k, F) :: l), r⟩ P := by
  refine ⟨?_, hl.2⟩
  intro f F' hf
  simp only [fnTab] at hf
  cases hb : (k == f) with
  | true =>
    rw [hb] at hf
    have : k = f := by simpa using hb
    subst this
    cases hf
    exact h
  | false =>
    rw [hb] at hf
    exact hl.1 f F' hf
def afTab : List (Nat × AFun) → FuncId → Option AFun
  | [], _ => none
  | (k, F) :: l, f => bif k == f then some F else afTab l f
theorem ctx_nilr {G : Nat → Option D} : CtxOK ⟨G, fnTab [], afTab []⟩ P := ⟨(by intro f F h; cases h), (by intro f F h; cases h)⟩
theorem ctx_consr {G : Nat → Option D} {k : Nat} {A : AFun} {t : FuncId → Option Fn} {l : List (Nat × AFun)} (h : Meets G P k A) (hl : CtxOK ⟨G, t, afTab l⟩ P) : CtxOK ⟨G, t, afTab ((k, A) :: l)⟩ P := by
  refine ⟨hl.1, ?_⟩
  intro f F' hf
  simp only [afTab] at hf
  cases hb : (k == f) with
  | true =>
    rw [hb] at hf
    have : k = f := by simpa using hb
    subst this
    cases hf
    exact h
  | false =>
    rw [hb] at hf
    exact hl.2 f F' hf
end Go.Am
