/- Regions whose order is drawn: quiet operations that may come late. -/
import Derived.Test.YtloclegkilgglaaAm21
namespace Go.Am
set_option linter.unusedVariables false
set_option linter.unusedSimpArgs false

variable {C : Ctx} {P : Program} {n : Nat}

/-- an environment without some slots -/
def hideE (env : Env) (ts : List Nat) : Env := env.filter fun p => !ts.contains p.1
theorem look_hide (ts : List Nat) (t : Nat) : ∀ (env : Env), look (hideE env ts) t = if t ∈ ts then none else look env t
  | [] => by simp [hideE, look]
  | (k, d) :: env => by
    have ih := look_hide ts t env
    simp only [hideE, List.filter_cons] at ih ⊢
    by_cases hk : k ∈ ts
    · have : (!ts.contains k) = false := by simp [hk]
      simp only [this]
      rw [if_neg (by simp), ih]
      by_cases ht : t ∈ ts
      · simp [ht]
      · have : (k == t) = false := by
          have : k ≠ t := fun e => ht (e ▸ hk)
          simpa using this
        simp [ht, look, this]
    · have : (!ts.contains k) = true := by simp [hk]
      simp only [this, if_true, look]
      cases hkt : (k == t) with
      | true =>
        have : k = t := by simpa using hkt
        subst this
        simp [hk]
      | false => simpa using ih
def undL (al : List AOper) (m : Nat) (L : Array Bool) : List Nat := (List.range m).filterMap fun j => bif L.getD j false then none else dstOf al j
theorem mem_undL {al : List AOper} {m : Nat} {L : Array Bool} {t : Nat} : t ∈ undL al m L ↔ ∃ j, j < m ∧ ¬ done L j ∧ dstOf al j = some t := by
  unfold undL done
  rw [List.mem_filterMap]
  constructor
  · rintro ⟨j, hj, h⟩
    cases hb : L.getD j false with
    | true => rw [hb] at h; cases h
    | false => rw [hb] at h; exact ⟨j, by simpa using hj, by rw [hb]; simp, h⟩
  · rintro ⟨j, hj, h1, h2⟩
    refine ⟨j, by simpa using hj, ?_⟩
    have : L.getD j false = false := by simpa using h1
    rw [this]; exact h2
def hid (al : List AOper) (m : Nat) (L : Array Bool) (env : Env) : Env := hideE env (undL al m L)
theorem look_hid {al : List AOper} {m : Nat} {L : Array Bool} {env : Env} {t : Nat} (h : ∀ j, j < m → ¬ done L j → dstOf al j ≠ some t) : look (hid al m L env) t = look env t := by
  unfold hid
  rw [look_hide, if_neg]
  rw [mem_undL]
  rintro ⟨j, h1, h2, h3⟩
  exact h j h1 h2 h3
theorem look_hid_some {al : List AOper} {m : Nat} {L : Array Bool} {env : Env} {t : Nat} {d : D} (h : look (hid al m L env) t = some d) : look env t = some d ∧ ∀ j, j < m → ¬ done L j → dstOf al j ≠ some t := by
  unfold hid at h
  rw [look_hide] at h
  split at h
  · cases h
  · rename_i hn
    refine ⟨h, fun j h1 h2 h3 => hn (mem_undL.2 ⟨j, h1, h2, h3⟩)⟩

theorem Sim.ext {ρ : Pl} {T : Nat → Prop} {env env' : Env} {rows : Rows} {a : Act} {w : World} (h : Sim n ρ T env rows a w) (he : ∀ t d, look env' t = some d → look env t = some d) : Sim n ρ T env' rows a w :=
  ⟨h.rowsOK, fun t d hd => h.env t d (he t d hd), h.size, h.tlt, h.dom, h.defers⟩

/-- what an operation's successor says, of another environment -/
def KH (dst : Option Nat) (hd env : Env) (K0 : Env → Rows → Prop) : Env → Rows → Prop := fun env' rows => match dst with
  | some t => ∃ d, env' = (t, d) :: hd ∧ K0 ((t, d) :: env) rows
  | none => env' = hd ∧ K0 env rows
theorem KH_put (dst : Option Nat) (hd env : Env) (K0 : Env → Rows → Prop) (d : D) (rows : Rows) : KH dst hd env K0 (put dst d hd) rows = K0 (put dst d env) rows := by
  cases dst with
  | none => simp [KH, put]
  | some t =>
    simp only [KH, put]
    apply propext
    constructor
    · rintro ⟨d', h1, h2⟩
      cases h1
      exact h2
    · intro h
      exact ⟨d, rfl, h⟩
theorem aops1_KH {x : AOper} {hd env : Env} {rows : Rows} {K0 : Env → Rows → Prop} (hev : ∀ t, t ∈ uses x → look hd t = look env t) (h : aops C [x] env rows K0) : aops C [x] hd rows (KH x.dst hd env K0) := by
  obtain ⟨dst, o, g⟩ := x
  have hx : ∀ y ∈ o.xs, ev C hd y = ev C env y := by
    intro y hy
    cases y with
    | tmp t => exact hev t (List.mem_append_left _ (mem_xslots hy))
    | const _ => rfl
    | glob _ => rfl
  have hop : ∀ k : D → Rows → Prop, aop C hd rows o k = aop C env rows o k := fun k => aop_congr hx k
  have e1 : (fun d rows => aops C [] (put dst d hd) rows (KH dst hd env K0)) = fun d rows => aops C [] (put dst d env) rows K0 := by
    funext d r
    exact KH_put dst hd env K0 d r
  cases g with
  | none =>
    show aop C hd rows o (fun d rows => aops C [] (put dst d hd) rows (KH dst hd env K0))
    rw [e1, hop]
    exact h
  | some gw =>
    obtain ⟨g, want⟩ := gw
    have hg : look hd g = look env g := hev g (by simp [uses])
    have h' := h
    simp only [aops] at h' ⊢
    rw [hg]
    obtain ⟨v, hv, hk⟩ := bnd_some h'
    rw [hv]
    split at hk
    · rename_i t
      show ((t = want → aop C hd rows o fun d rows => KH dst hd env K0 (put dst d hd) rows) ∧ (t = !want → KH dst hd env K0 (put dst (.tup []) hd) rows))
      refine ⟨fun ht => ?_, fun ht => ?_⟩
      · have e2 : (fun d rows => KH dst hd env K0 (put dst d hd) rows) = fun d rows => K0 (put dst d env) rows := by
          funext d r
          exact KH_put dst hd env K0 d r
        rw [e2, hop]
        exact hk.1 ht
      · rw [KH_put]; exact hk.2 ht
    · show KH dst hd env K0 (put dst (.tup []) hd) rows
      rw [KH_put]; exact hk
    · exact hk.elim

theorem anc_done {ops : Array Oper} {L : Array Bool} (hcl : ∀ i, done L i → ∀ j, dep ops.toList i j = true → done L j) : ∀ (f i j : Nat), (∀ j, dep ops.toList i j = true → done L j) → anc ops.toList f i j = true → done L j
  | 0, i, j, _, h => by simp [anc] at h
  | f + 1, i, j, hd, h => by
    simp only [anc, Bool.or_eq_true] at h
    rcases h with h | h
    · exact hd j h
    · obtain ⟨k, _, hk⟩ := List.any_eq_true.1 h
      simp only [Bool.and_eq_true] at hk
      exact anc_done hcl f k j (fun q hq => hcl k (hd k hk.1) q hq) hk.2

theorem stabs_mem {env : Env} {rows : Rows} : ∀ {l : List AOper} {y : AOper}, stabs C env rows l → y ∈ l → aop C env rows y.op (stab1 env rows y.dst)
  | [], y, _, h => by simp at h
  | x :: l, y, h, hy => by
    rcases List.mem_cons.1 hy with rfl | hy
    · exact h.1
    · exact stabs_mem h.2 hy

theorem tail2_any {ops : Array Oper} {al : List AOper} {m : Nat} (hD : DOK2 ops.toList al m) (hd : Draw C P n ops al m) {K : Env → Rows → Prop} {Q' : Exit → Act → World → Prop} {ρ0 : Pl} {T0 : Nat → Prop} {rows0 : Rows} {w0 : World}
    (hK : ∀ env' rows' ρ' T' a' w', K env' rows' → Sim n ρ' T' env' rows' a' w' → Step ρ0 T0 rows0 w0 ρ' T' rows' w' → Q' .normal a' w') :
    ∀ (fuel : Nat) (L : Array Bool) (k : Nat) (env : Env) (rows : Rows) (ρ : Pl) (T : Nat → Prop) (a : Act) (w : World), m ≤ k → k ≤ ops.size → undone L ops.size ≤ fuel → L.size = ops.size → (∀ j, k ≤ j → ¬ done L j) → (∀ j, m ≤ j → j < k → done L j) →
      (∀ i, done L i → ∀ j, dep ops.toList i j = true → done L j) → (∀ j, j < m → ¬ done L j → ∃ y, al[j]? = some y ∧ y.guard = none ∧ (∃ t, y.dst = some t) ∧ aop C env rows y.op (stab1 env rows y.dst)) →
      aopsT C (tailL ops.toList al m k (ops.size - k)) env rows K → Sim n ρ T (hid al m L env) rows a w → GlobOK C w T → Step ρ0 T0 rows0 w0 ρ T rows w → wpAny P .any ops Q' fuel L a w := by
  obtain ⟨hlen, hget⟩ := hd.get
  intro fuel
  have fin : ∀ (L : Array Bool) (k : Nat) (env : Env) (rows : Rows) (ρ : Pl) (T : Nat → Prop) (a : Act) (w : World), k = ops.size → (∀ j, j < ops.size → done L j) → m ≤ k → aopsT C (tailL ops.toList al m k (ops.size - k)) env rows K → Sim n ρ T (hid al m L env) rows a w → Step ρ0 T0 rows0 w0 ρ T rows w → Q' .normal a w := by
    intro L k env rows ρ T a w hk hall hmk h hs hst
    subst hk
    rw [Nat.sub_self] at h
    exact hK env rows ρ T a w h (hs.ext fun t d hl => by rw [look_hid (fun j hj hn => absurd (hall j (by omega)) hn)]; exact hl) hst
  have hmin : ∀ (L : Array Bool), L.size = ops.size → (∃ j, j < ops.size ∧ ¬ done L j) → ∃ j, j ∈ Region.ready .any ops L := by
    intro L hsz ⟨j, hj, hn⟩
    have key : ∀ q, (∀ j, j < q → done L j) ∨ ∃ j, j < q ∧ ¬ done L j ∧ ∀ j', j' < j → done L j' := by
      intro q
      induction q with
      | zero => left; intro j hj; omega
      | succ q ih =>
        rcases ih with h1 | ⟨j, q1, q2, q3⟩
        · by_cases hq : done L q
          · left; intro j hj
            rcases Nat.lt_or_ge j q with h2 | h2
            · exact h1 j h2
            · have : j = q := by omega
              subst this; exact hq
          · exact .inr ⟨q, by omega, hq, h1⟩
        · exact .inr ⟨j, by omega, q2, q3⟩
    rcases key ops.size with h1 | ⟨j', q1, q2, q3⟩
    · exact absurd (h1 j hj) hn
    · exact ⟨j', ready_mk q1 (notdone' q2 (by omega)) (fun j'' hj'' => q3 j'' (hd.ok.back j' j'' hj''))⟩
  have alldone : ∀ (L : Array Bool), L.size = ops.size → Region.ready .any ops L = [] → ∀ j, j < ops.size → done L j := by
    intro L hsz hr j hj
    refine Classical.byContradiction fun hn => ?_
    obtain ⟨i, hi⟩ := hmin L hsz ⟨j, hj, hn⟩
    rw [hr] at hi
    cases hi
  have kend : ∀ (L : Array Bool) (k : Nat), k ≤ ops.size → (∀ j, k ≤ j → ¬ done L j) → (∀ j, j < ops.size → done L j) → k = ops.size := by
    intro L k hk h1 h2
    rcases Nat.lt_or_ge k ops.size with h3 | h3
    · exact absurd (h2 k h3) (h1 k (Nat.le_refl _))
    · omega
  induction fuel with
  | zero =>
    intro L k env rows ρ T a w hmk hk hf hsz hhi hlo hcl hob h hs hg hst
    have hall : ∀ j, j < ops.size → done L j := by
      intro j hj
      refine Classical.byContradiction fun hn => ?_
      have := undone_set hj (by omega) (notdone' hn (by omega))
      omega
    have hke := kend L k hk hhi hall
    refine ⟨?_, fin L k env rows ρ T a w hke hall hmk h hs hst⟩
    cases hr : Region.ready .any ops L with
    | nil => rfl
    | cons i l =>
      exfalso
      obtain ⟨⟨o, ho⟩, h1, _⟩ := ready_spec (L := L) (ops := ops) (i := i) (by rw [hr]; simp)
      exact (notdone h1).1 (hall i (Array.getElem?_eq_some_iff.1 ho).1)
  | succ fuel ih =>
    intro L k env rows ρ T a w hmk hk hf hsz hhi hlo hcl hob h hs hg hst
    refine ⟨fun hr => ?_, fun i hi => ?_⟩
    · have hall := alldone L hsz hr
      exact fin L k env rows ρ T a w (kend L k hk hhi hall) hall hmk h hs hst
    · obtain ⟨⟨o', ho'⟩, h1, h2⟩ := ready_spec hi
      have hil : i < ops.size := (Array.getElem?_eq_some_iff.1 ho').1
      obtain ⟨hnd, hiL⟩ := notdone h1
      obtain ⟨o, x, ho, hx, q1, q2, q3, q4⟩ := hget i hil
      have hunf : undone (L.setIfInBounds i true) ops.size ≤ fuel := by have := undone_set hil hiL h1; omega
      have hcl' : ∀ i', done (L.setIfInBounds i true) i' → ∀ j, dep ops.toList i' j = true → done (L.setIfInBounds i true) j := by
        intro i' hi' j hj
        refine (done_set hiL).2 (.inl ?_)
        rcases (done_set hiL).1 hi' with h3 | h3
        · exact hcl i' h3 j hj
        · subst h3; exact h2 j hj
      rcases Nat.lt_or_ge i m with him | him
      · -- a quiet one that comes late
        obtain ⟨y, hy, hyg, ⟨t, hyt⟩, hya⟩ := hob i him hnd
        rw [hx] at hy
        cases hy
        obtain ⟨x', o2, hx', ho2, hqa, hqo, _, hu⟩ := hD.quiet i him
        rw [hx] at hx'
        cases hx'
        have hev : ∀ t', t' ∈ uses x → look (hid al m L env) t' = look env t' := fun t' ht' => look_hid fun j hj hn he => hn (h2 j (hu t' ht' j hj he))
        have hst1 : aops C [x] env rows (fun env' rows' => env' = put x.dst ((look env t).getD default) env ∧ look env t = some ((look env t).getD default) ∧ rows' = rows) := by
          obtain ⟨dst, op, g⟩ := x
          simp only at hyg hyt
          subst hyg
          subst hyt
          show aop C env rows op _
          have e : (fun d rows' => aops C [] (put (some t) d env) rows' fun env' rows' => env' = put (some t) ((look env t).getD default) env ∧ look env t = some ((look env t).getD default) ∧ rows' = rows) = stab1 env rows (some t) := by
            funext d r
            simp only [aops, stab1, put]
            apply propext
            constructor
            · rintro ⟨e1, e2, e3⟩
              cases e1
              exact ⟨e2, e3⟩
            · rintro ⟨e1, e2⟩
              rw [e1]
              exact ⟨rfl, rfl, e2⟩
          rw [e]
          exact hya
        refine op_step hd.ctx ho q1 q2 q3 q4 hs hg (aops1_KH hev hst1) ?_
        intro env' rows' ρ' T' a' w' h' hs' hst'
        rw [hyt] at h'
        obtain ⟨d, rfl, h3, h4, rfl⟩ := h'
        have hld : look env t = some d := by
          simp only [put, hyt] at h3
          cases h3
          exact h4
        have hti : dstOf al i = some t := by simp [dstOf, hx, hyt]
        refine ih _ k env rows' ρ' T' a' w' hmk hk hunf (by simpa using hsz) (fun j hj hdn => ?_) (fun j hj hj2 => (done_set hiL).2 (.inl (hlo j hj hj2))) hcl' (fun j hj hn => hob j hj (fun hdn => hn ((done_set hiL).2 (.inl hdn)))) h
          (hs'.ext fun t' d' hl => ?_) (hg.step hs hst') (hst.trans hst')
        · rcases (done_set hiL).1 hdn with h5 | h5
          · exact hhi j hj h5
          · omega
        · obtain ⟨h5, h6⟩ := look_hid_some hl
          simp only [look]
          cases htt : (t == t') with
          | true =>
            have : t = t' := by simpa using htt
            subst this
            rw [hld] at h5
            simpa using h5
          | false =>
            have hne : t ≠ t' := by simpa using htt
            simp only [cond_false]
            rw [look_hid fun j hj hn he => ?_]
            · exact h5
            · by_cases hji : j = i
              · subst hji
                rw [hti] at he
                exact hne (Option.some.inj he)
              · exact h6 j hj (fun hdn => (done_set hiL).1 hdn |>.elim (fun h7 => hn h7) (fun h7 => hji h7)) he
      · -- the next one of the tail
        have hik : k ≤ i := by
          rcases Nat.lt_or_ge i k with h3 | h3
          · exact absurd (hlo i him h3) hnd
          · exact h3
        obtain ⟨x', hx', htl⟩ := hD.tail i (by simpa using hil) him
        rw [hx] at hx'
        cases hx'
        have hie : i = k := by
          rcases Nat.lt_or_ge k i with h3 | h3
          · exfalso
            rcases htl k h3 with h4 | ⟨h4, _⟩
            · exact hhi k (Nat.le_refl _) (anc_done hcl 2 i k h2 h4)
            · omega
          · omega
        subst hie
        have hsub : ops.size - i = (ops.size - (i + 1)) + 1 := by omega
        rw [hsub] at h
        simp only [tailL, hx] at h
        have hnotd : ∀ j, j < m → ¬ done L j → j ∈ dly ops.toList m i ∧ ∃ y t, al[j]? = some y ∧ y.guard = none ∧ y.dst = some t ∧ x.dst ≠ some t ∧ t ∉ uses x := by
          intro j hj hn
          have hna : anc ops.toList 2 i j = false := by
            cases hb : anc ops.toList 2 i j with
            | false => rfl
            | true => exact absurd (anc_done hcl 2 i j h2 hb) hn
          refine ⟨by simp [dly, hj, hna], ?_⟩
          rcases htl j (by omega) with h4 | ⟨_, h4⟩
          · rw [hna] at h4; cases h4
          · exact h4
        have hev : ∀ t', t' ∈ uses x → look (hid al m L env) t' = look env t' := fun t' ht' => look_hid fun j hj hn he => by
          obtain ⟨_, y, t, hy, _, hyt, _, hyu⟩ := hnotd j hj hn
          have : dstOf al j = some t := by simp [dstOf, hy, hyt]
          rw [this] at he
          cases he
          exact hyu ht'
        refine op_step hd.ctx ho q1 q2 q3 q4 hs hg (aops1_KH hev h) ?_
        intro env' rows' ρ' T' a' w' h' hs' hst'
        obtain ⟨env2, hs2, hst2, hrest⟩ : ∃ env2, Sim n ρ' T' (hid al m (L.setIfInBounds i true) env2) rows' a' w' ∧ stabs C env2 rows' ((dly ops.toList m i).filterMap fun j => al[j]?) ∧ aopsT C (tailL ops.toList al m (i + 1) (ops.size - (i + 1))) env2 rows' K := by
          have hund : ∀ j, j < m → ¬ done (L.setIfInBounds i true) j → ¬ done L j := fun j hj hn hdn => hn ((done_set hiL).2 (.inl hdn))
          have hund' : ∀ j, j < m → ¬ done L j → ¬ done (L.setIfInBounds i true) j := fun j hj hn hdn => (done_set hiL).1 hdn |>.elim (fun h7 => hn h7) (fun h7 => by omega)
          simp only [aops, KH] at h'
          cases hxd : x.dst with
          | none =>
            rw [hxd] at h'
            obtain ⟨rfl, h3, h4⟩ := h'
            refine ⟨env, hs'.ext fun t' d' hl => ?_, h3, h4⟩
            obtain ⟨h5, h6⟩ := look_hid_some hl
            rw [look_hid fun j hj hn => h6 j hj (hund' j hj hn)]
            exact h5
          | some t =>
            rw [hxd] at h'
            obtain ⟨d, rfl, h3, h4⟩ := h'
            refine ⟨(t, d) :: env, hs'.ext fun t' d' hl => ?_, h3, h4⟩
            obtain ⟨h5, h6⟩ := look_hid_some hl
            simp only [look] at h5 ⊢
            cases htt : (t == t') with
            | true => rw [htt] at h5; exact h5
            | false =>
              rw [htt] at h5
              simp only [cond_false] at h5 ⊢
              rw [look_hid fun j hj hn => h6 j hj (hund' j hj hn)]
              exact h5
        refine ih _ (i + 1) env2 rows' ρ' T' a' w' (by omega) (by omega) hunf (by simpa using hsz) (fun j hj hdn => ?_) (fun j hj hj2 => ?_) hcl' (fun j hj hn => ?_) hrest hs2 (hg.step hs hst') (hst.trans hst')
        · rcases (done_set hiL).1 hdn with h5 | h5
          · exact hhi j (by omega) h5
          · omega
        · refine (done_set hiL).2 ?_
          rcases Nat.lt_or_ge j i with h5 | h5
          · exact .inl (hlo j hj h5)
          · exact .inr (by omega)
        · have hn' : ¬ done L j := fun hdn => hn ((done_set hiL).2 (.inl hdn))
          obtain ⟨h5, y, t, hy, hyg, hyt, _⟩ := hnotd j hj hn'
          exact ⟨y, hy, hyg, ⟨t, hyt⟩, stabs_mem hst2 (List.mem_filterMap.2 ⟨j, h5, hy⟩)⟩

section
variable {ops : Array Oper} {al : List AOper} {m : Nat} {env : Env} {Dd : Nat → D} {R : Nat → Rows}
/-- those that have come up -/
theorem Run.come (h : Run C P n ops al m env Dd R) {L : Array Bool} {ρ0 ρ : Pl} {T0 T : Nat → Prop} {a : Act} {w0 w : World} (hI : DInv C n al m env Dd R ρ0 T0 w0 L ρ T a w) :
    Sim n ρ T (hid al m L (evAt al Dd env m)) (R m) a w := by
  refine ⟨⟨fun r row Lc h1 h2 => ?_, fun r r' row row' Lc Lc' h1 h2 h3 h4 => ?_⟩, fun t d hl => ?_, hI.size, hI.tlt, hI.dom, hI.defers⟩
  · have hr := live_lt h1
    have := (hI.rows m (Nat.le_refl _)).row r row Lc h1 (by unfold res; rw [if_pos hr]; exact h2)
    exact this.mono res_sub (fun _ _ => rfl) (fun _ h => h) rfl this.notT
  · have hr := live_lt h1
    have hr' := live_lt h2
    exact (hI.rows m (Nat.le_refl _)).dist r r' row row' Lc Lc' h1 h2 (by unfold res; rw [if_pos hr]; exact h3) (by unfold res; rw [if_pos hr']; exact h4)
  · obtain ⟨h5, h6⟩ := look_hid_some hl
    exact (h.sees hI (Nat.le_refl _) (fun j hj he => ⟨Classical.byContradiction fun hn => h6 j hj hn he, hj⟩) h5).mono res_sub (fun _ _ => rfl) (fun _ h => h)

theorem Run.any2 (hD : DOK2 ops.toList al m) (h : Run C P n ops al m env Dd R) {K : Env → Rows → Prop} {Q' : Exit → Act → World → Prop} {ρ0 : Pl} {T0 : Nat → Prop} {w0 : World}
    (hst : stabs C (evAt al Dd env m) (R m) ((dly ops.toList m m).filterMap fun j => al[j]?)) (htail : aopsT C (tailL ops.toList al m m (ops.size - m)) (evAt al Dd env m) (R m) K)
    (hK : ∀ env' rows' ρ' T' a' w', K env' rows' → Sim n ρ' T' env' rows' a' w' → Step ρ0 T0 (R 0) w0 ρ' T' rows' w' → Q' .normal a' w') :
    ∀ (fuel : Nat) (L : Array Bool) (ρ : Pl) (T : Nat → Prop) (a : Act) (w : World), undone L ops.size ≤ fuel → L.size = ops.size → (∀ j, done L j → j < m) → (∀ i, done L i → ∀ j, dep ops.toList i j = true → done L j) → DInv C n al m env Dd R ρ0 T0 w0 L ρ T a w → wpAny P .any ops Q' fuel L a w := by
  obtain ⟨hlen, hget⟩ := h.toDraw.get
  have hm : m ≤ ops.size := by have := h.ok.le; simpa using this
  intro fuel
  have go : ∀ (fuel : Nat) (L : Array Bool) (ρ : Pl) (T : Nat → Prop) (a : Act) (w : World), undone L ops.size ≤ fuel → L.size = ops.size → (∀ j, done L j → j < m) → (∀ i, done L i → ∀ j, dep ops.toList i j = true → done L j) → DInv C n al m env Dd R ρ0 T0 w0 L ρ T a w →
      ((∀ j, j < m → done L j) ∨ ∃ i, i ∈ Region.ready .any ops L ∧ m ≤ i) → wpAny P .any ops Q' fuel L a w := by
    intro fuel L ρ T a w hf hsz hdm hcl hI hq
    refine tail2_any hD h.toDraw hK fuel L m _ _ ρ T a w (Nat.le_refl _) hm hf hsz (fun j hj hdn => by have := hdm j hdn; omega) (fun j h1 h2 => by omega) hcl (fun j hj hn => ?_) htail (h.come hI) hI.glob hI.step
    rcases hq with hq | ⟨i, hi, hmi⟩
    · exact absurd (hq j hj) hn
    · obtain ⟨⟨o', ho'⟩, h1, h2⟩ := ready_spec hi
      have hil : i < ops.size := (Array.getElem?_eq_some_iff.1 ho').1
      obtain ⟨x, hx, htl⟩ := hD.tail i (by simpa using hil) hmi
      have him : i = m := by
        rcases Nat.lt_or_ge m i with h3 | h3
        · exfalso
          rcases htl m h3 with h4 | ⟨h4, _⟩
          · have := hdm m (anc_done hcl 2 i m h2 h4); omega
          · omega
        · omega
      subst him
      have hna : anc ops.toList 2 i j = false := by
        cases hb : anc ops.toList 2 i j with
        | false => rfl
        | true => exact absurd (anc_done hcl 2 i j h2 hb) hn
      rcases htl j hj with h4 | ⟨_, y, t, hy, hyg, hyt, _⟩
      · rw [hna] at h4; cases h4
      · exact ⟨y, hy, hyg, ⟨t, hyt⟩, stabs_mem hst (List.mem_filterMap.2 ⟨j, by simp [dly, hj, hna], hy⟩)⟩
  induction fuel with
  | zero =>
    intro L ρ T a w hf hsz hdm hcl hI
    refine go 0 L ρ T a w hf hsz hdm hcl hI (.inl fun j hj => ?_)
    refine Classical.byContradiction fun hn => ?_
    have := undone_set (k := ops.size) (i := j) (by omega) (by omega) (notdone' hn (by omega))
    omega
  | succ fuel ih =>
    intro L ρ T a w hf hsz hdm hcl hI
    by_cases hq : (∀ j, j < m → done L j) ∨ ∃ i, i ∈ Region.ready .any ops L ∧ m ≤ i
    · exact go (fuel + 1) L ρ T a w hf hsz hdm hcl hI hq
    · have hall : ¬ ∀ j, j < m → done L j := fun h => hq (.inl h)
      refine ⟨fun hr => ?_, fun i hi => ?_⟩
      · exfalso
        -- the least one not done is ready
        have key : ∀ k, (∀ j, j < k → j < m → done L j) ∨ ∃ j, j < k ∧ j < m ∧ ¬ done L j ∧ ∀ j', j' < j → done L j' := by
          intro k
          induction k with
          | zero => left; intro j hj; omega
          | succ k ihk =>
            rcases ihk with h1 | ⟨j, q1, q2, q3, q4⟩
            · by_cases hk : k < m ∧ ¬ done L k
              · right
                exact ⟨k, by omega, hk.1, hk.2, fun j' hj' => h1 j' hj' (by omega)⟩
              · left
                intro j hj hjm
                rcases Nat.lt_or_ge j k with h3 | h3
                · exact h1 j h3 hjm
                · have : j = k := by omega
                  subst this
                  refine Classical.byContradiction fun hn => ?_
                  exact hk ⟨hjm, hn⟩
            · right; exact ⟨j, by omega, q2, q3, q4⟩
        rcases key m with h1 | ⟨j, q1, q2, q3, q4⟩
        · exact hall fun j hj => h1 j hj hj
        · have : j ∈ Region.ready .any ops L := ready_mk (by omega) (notdone' q3 (by omega)) (fun j' hj' => q4 j' (h.ok.back j j' hj'))
          rw [hr] at this
          cases this
      · obtain ⟨⟨o', ho'⟩, h1, h2⟩ := ready_spec hi
        have hil : i < ops.size := (Array.getElem?_eq_some_iff.1 ho').1
        obtain ⟨hnd, hiL⟩ := notdone h1
        have him : i < m := by
          rcases Nat.lt_or_ge i m with h3 | h3
          · exact h3
          · exact absurd (.inr ⟨i, hi, h3⟩) hq
        obtain ⟨o, x, ho, hx, q1, q2, q3, q4⟩ := hget i hil
        obtain ⟨x', new, hx', hR, hE⟩ := h.tr i him
        rw [hx] at hx'
        cases hx'
        obtain ⟨x', o', hx', ho'', hqa, hqo, _, hu⟩ := h.ok.quiet i him
        rw [hx] at hx'
        cases hx'
        have ho3 : ops[i]? = some o' := by simpa using ho''
        rw [ho] at ho3
        cases ho3
        have hs : Sim n (res ρ (R i).length) T (small (evAt al Dd env i) (uses x)) (R i) a w := by
          refine ⟨hI.rows i (by omega), fun t d hl => ?_, hI.size, hI.tlt, fun r hr => ?_, hI.defers⟩
          · obtain ⟨ht, hl⟩ := small_sub hl
            refine h.sees hI (by omega) (fun j hj hdj => ?_) hl
            have := hu t ht j hj hdj
            exact ⟨h2 j this, h.ok.back i j this⟩
          · unfold res; rw [if_neg (by omega)]
        have hdl : dstOf al i = o.dst := by simp [dstOf, hx, q4]
        refine ex_wp h.nor h.ctx ho q2 q3 hs hI.glob hqo hE.congr ?_
        intro ρ' T' v w' hs' hst' hv' hk'
        have hI' := h.next hI him hiL hnd (fun t ht => cDst_lt q1 t (by rw [← hdl]; exact ht)) hs' hst' hv' hk'.1 hk'.2
        rw [hdl] at hI'
        refine ih _ _ T' _ w' ?_ (by simpa using hsz) (fun j hj => ?_) (fun i' hi' j hj => ?_) hI'
        · have := undone_set hil hiL h1
          omega
        · rcases (done_set hiL).1 hj with h3 | h3
          · exact hdm j h3
          · omega
        · refine (done_set hiL).2 (.inl ?_)
          rcases (done_set hiL).1 hi' with h3 | h3
          · exact hcl i' h3 j hj
          · subst h3; exact h2 j hj

end

theorem dstOf_take {al : List AOper} {m j : Nat} (hj : j < m) : dstOf (al.take m) j = dstOf al j := by
  unfold dstOf
  rw [List.getElem?_take_of_lt hj]
theorem evAt_take {al : List AOper} {m : Nat} {Dd : Nat → D} {env : Env} : ∀ (i : Nat), i ≤ m → evAt (al.take m) Dd env i = evAt al Dd env i
  | 0, _ => rfl
  | i + 1, h => by simp only [evAt, evAt_take (m := m) i (by omega), dstOf_take (j := i) (show i < m by omega)]

theorem draw2_sound (hN : ∀ f, C.fnr f = none) (hC : CtxOK C P) (hP : P.follows .mixedOrders = true) {id : Nat} {ops : Array Oper} {al : List AOper} {m : Nat} (hc : cOps P n ops.toList ops.toList = some al) (hd : dOK2 ops.toList al m = true)
    {env : Env} {rows : Rows} {ρ : Pl} {T : Nat → Prop} {a : Act} {w : World} {Q : AExit → Env → Rows → Prop} {Q' : Exit → Act → World → Prop}
    (h : aops C (al.take m) env rows fun env rows => stabs C env rows ((dly ops.toList m m).filterMap fun j => al[j]?) ∧ aopsT C (tailL ops.toList al m m (ops.toList.length - m)) env rows (Q .normal)) (hs : Sim n ρ T env rows a w) (hg : GlobOK C w T)
    (hp : Post n ρ T rows w Q Q') : (Code.region id ops true).wp P Q' a w := by
  have hok := dOK2_spec hd
  have hlen := (cOps_get hc).1
  have hml : m ≤ al.length := by rw [hlen]; exact hok.le
  have hq : ∀ i, i < m → ∃ x, (al.take m)[i]? = some x ∧ quietA x.op = true := by
    intro i hi
    obtain ⟨x, o, h1, _, h3, _⟩ := hok.quiet i hi
    exact ⟨x, by rw [List.getElem?_take_of_lt hi]; exact h1, h3⟩
  obtain ⟨Dd, R, h0, h1, h2⟩ := trace hN m (by simp; omega) hq h
  subst h0
  have hnil : (al.take m).drop m = [] := List.drop_eq_nil_of_le (by simp; omega)
  rw [hnil, evAt_take m (Nat.le_refl _)] at h2
  obtain ⟨h2a, h2b⟩ := h2
  have h1' : ∀ i, i < m → ∃ x new, al[i]? = some x ∧ R (i + 1) = R i ++ new ∧ Ex C (evAt al Dd env i) (R i) x (Dd i) (R (i + 1)) := by
    intro i hi
    obtain ⟨x, new, q1, q2, q3⟩ := h1 i hi
    rw [List.getElem?_take_of_lt hi] at q1
    rw [evAt_take i (by omega)] at q3
    exact ⟨x, new, q1, q2, q3⟩
  have hrun : Run C P n ops al m env Dd R := ⟨⟨hok.toDOK0, hc, hC⟩, hN, h1'⟩
  have hw1 : Sim n ρ T env (R 0) a { w with drawn := w.drawn + 1 } := hs.heap rfl
  have hg1 : GlobOK C { w with drawn := w.drawn + 1 } T := hg.keep (fun _ _ => rfl) (fun _ h => h)
  have hLf : ∀ j, ¬ done (Array.replicate ops.size false) j := by
    intro j hj
    unfold done at hj
    simp [Array.getD] at hj
  have hsz : ops.toList.length - m = ops.size - m := by simp
  rw [hsz] at h2b
  refine wp_region_any hP (hrun.any2 hok h2a h2b (w0 := { w with drawn := w.drawn + 1 }) (ρ0 := ρ) (T0 := T) ?_ ops.size _ ρ T a _ ?_ (by simp) (fun j hj => absurd hj (hLf j)) (fun i hi => absurd hi (hLf i)) (hrun.start hw1 hg1 hLf))
  · intro env' rows' ρ' T' a' w' hk hs' hst'
    exact hp .normal env' rows' ρ' T' a' w' hk hs' ⟨hst'.pl, hst'.tt, hst'.tnew, hst'.size, hst'.keep, hst'.fresh, hst'.os, hst'.tape, hst'.output, hst'.len, hst'.same⟩
  · unfold undone
    exact Nat.le_trans (List.length_filter_le _ _) (by simp)

/-- a region whose order is drawn up to some operation, and is the text's from there on: that part may write -/
theorem draw1_sound (hC : CtxOK C P) (hP : P.follows .mixedOrders = true) {id : Nat} {ops : Array Oper} {al : List AOper} {m : Nat} (hc : cOps P n ops.toList ops.toList = some al) (hd : dOK ops.toList al m = true)
    {env : Env} {rows : Rows} {ρ : Pl} {T : Nat → Prop} {a : Act} {w : World} {Q : AExit → Env → Rows → Prop} {Q' : Exit → Act → World → Prop}
    (h : aops C.quiet (al.take m) env rows fun env rows => aops C (al.drop m) env rows (Q .normal)) (hs : Sim n ρ T env rows a w) (hg : GlobOK C w T)
    (hp : Post n ρ T rows w Q Q') : (Code.region id ops true).wp P Q' a w := by
  have hok := dOK_spec hd
  have hlen := (cOps_get hc).1
  have hml : m ≤ al.length := by rw [hlen]; exact hok.le
  have hq : ∀ i, i < m → ∃ x, (al.take m)[i]? = some x ∧ quietA x.op = true := by
    intro i hi
    obtain ⟨x, o, h1, _, h3, _⟩ := hok.quiet i hi
    exact ⟨x, by rw [List.getElem?_take_of_lt hi]; exact h1, h3⟩
  have hN : ∀ f, C.quiet.fnr f = none := fun _ => rfl
  obtain ⟨Dd, R, h0, h1, h2⟩ := trace hN m (by simp; omega) hq h
  subst h0
  have hnil : (al.take m).drop m = [] := List.drop_eq_nil_of_le (by simp; omega)
  rw [hnil, evAt_take m (Nat.le_refl _)] at h2
  have h2' : aops C (al.drop m) (evAt al Dd env m) (R m) (Q .normal) := h2
  have h1' : ∀ i, i < m → ∃ x new, al[i]? = some x ∧ R (i + 1) = R i ++ new ∧ Ex C.quiet (evAt al Dd env i) (R i) x (Dd i) (R (i + 1)) := by
    intro i hi
    obtain ⟨x, new, q1, q2, q3⟩ := h1 i hi
    rw [List.getElem?_take_of_lt hi] at q1
    rw [evAt_take i (by omega)] at q3
    exact ⟨x, new, q1, q2, q3⟩
  have hrun : Run C.quiet P n ops al m env Dd R := ⟨⟨hok.toDOK0, hc, hC.quiet⟩, hN, h1'⟩
  have hw1 : Sim n ρ T env (R 0) a { w with drawn := w.drawn + 1 } := hs.heap rfl
  have hg0 : GlobOK C.quiet w T := hg
  have hg1 : GlobOK C.quiet { w with drawn := w.drawn + 1 } T := hg0.keep (fun _ _ => rfl) (fun _ h => h)
  have hLf : ∀ j, ¬ done (Array.replicate ops.size false) j := by
    intro j hj
    unfold done at hj
    simp [Array.getD] at hj
  refine wp_region_any hP (hrun.any hok hC (fun _ _ h => h) h2' (w0 := { w with drawn := w.drawn + 1 }) (ρ0 := ρ) (T0 := T) ?_ ops.size _ ρ T a _ ?_ (by simp) (fun j hj => absurd hj (hLf j)) (fun i hi => absurd hi (hLf i)) (hrun.start hw1 hg1 hLf))
  · intro env' rows' ρ' T' a' w' hk hs' hst'
    exact hp .normal env' rows' ρ' T' a' w' hk hs' ⟨hst'.pl, hst'.tt, hst'.tnew, hst'.size, hst'.keep, hst'.fresh, hst'.os, hst'.tape, hst'.output, hst'.len, hst'.same⟩
  · unfold undone
    exact Nat.le_trans (List.length_filter_le _ _) (by simp)
theorem leastM_ok {ops : List Oper} {al : List AOper} {m : Nat} (h : leastM ops al = some m) : dOK ops al m = true := by
  unfold leastM at h
  have := List.find?_some h
  simpa using this

end Go.Am
