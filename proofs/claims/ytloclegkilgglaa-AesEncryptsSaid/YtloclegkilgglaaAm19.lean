/- Regions whose order is drawn: what the text's order comes to is what every order comes to. -/
import Derived.Test.YtloclegkilgglaaAm18
import Derived.Orders
namespace Go.Am
set_option linter.unusedVariables false
set_option linter.unusedSimpArgs false

variable {C : Ctx} {P : Program} {n : Nat}

structure DOK0 (ops : List Oper) (al : List AOper) (m : Nat) : Prop where
  le : m ≤ ops.length
  back : ∀ i j, dep ops i j = true → j < i
  quiet : ∀ i, i < m → ∃ x o, al[i]? = some x ∧ ops[i]? = some o ∧ quietA x.op = true ∧ quietOp o.op = true ∧ (∀ j, j < m → j ≠ i → ∀ t, x.dst = some t → dstOf al j ≠ some t) ∧ (∀ t, t ∈ uses x → ∀ j, j < m → dstOf al j = some t → dep ops i j = true)
structure DOK (ops : List Oper) (al : List AOper) (m : Nat) : Prop extends DOK0 ops al m where
  tail : ∀ i, i < ops.length → m ≤ i → ∀ j, j < i → dep ops i j = true ∨ ∃ k, k < i ∧ j < k ∧ dep ops k j = true
structure DOK2 (ops : List Oper) (al : List AOper) (m : Nat) : Prop extends DOK0 ops al m where
  tail : ∀ i, i < ops.length → m ≤ i → ∃ x, al[i]? = some x ∧ ∀ j, j < i → anc ops 2 i j = true ∨ (j < m ∧ ∃ y t, al[j]? = some y ∧ y.guard = none ∧ y.dst = some t ∧ x.dst ≠ some t ∧ t ∉ uses x)

theorem dOK0_spec {ops : List Oper} {al : List AOper} {m : Nat} (h1 : Nat.ble m ops.length = true) (h2 : ((List.range ops.length).all (fun i => match ops[i]? with
    | some o => o.after.toList.all fun e => !Region.binds .any e || Nat.blt e.on i
    | none => true)) = true) (h3 : ((List.range m).all (fun i => match al[i]?, ops[i]? with
    | some x, some o => quietA x.op && quietOp o.op &&
      (List.range m).all (fun j => j == i || x.dst.isNone || dstOf al j != x.dst) &&
      (uses x).all fun t => (List.range m).all fun j => dstOf al j != some t || dep ops i j
    | _, _ => false)) = true) : DOK0 ops al m := by
  refine ⟨Nat.le_of_ble_eq_true h1, fun i j hd => ?_, fun i hi => ?_⟩
  · unfold dep at hd
    split at hd
    · rename_i o ho
      have hi : i < ops.length := lt_of_get ho
      have := List.all_eq_true.1 h2 i (by simpa using hi)
      simp only [ho] at this
      obtain ⟨e, he, hb⟩ := List.any_eq_true.1 hd
      simp only [Bool.and_eq_true, beq_iff_eq] at hb
      have := List.all_eq_true.1 this e he
      simp only [hb.1, Bool.not_true, Bool.false_or] at this
      rw [← hb.2]
      exact Nat.blt_eq.mp this
    · cases hd
  · have := List.all_eq_true.1 h3 i (by simpa using hi)
    split at this
    · rename_i x o hx ho
      simp only [Bool.and_eq_true] at this
      obtain ⟨⟨⟨q1, q2⟩, q3⟩, q4⟩ := this
      refine ⟨x, o, hx, ho, q1, q2, fun j hj hne t ht hdj => ?_, fun t ht j hj hdj => ?_⟩
      · have := List.all_eq_true.1 q3 j (by simpa using hj)
        simp [hne, ht, hdj] at this
      · have := List.all_eq_true.1 (List.all_eq_true.1 q4 t ht) j (by simpa using hj)
        simpa [hdj] using this
    · cases this
theorem dOK_spec {ops : List Oper} {al : List AOper} {m : Nat} (h : dOK ops al m = true) : DOK ops al m := by
  simp only [dOK, Bool.and_eq_true] at h
  obtain ⟨⟨⟨h1, h2⟩, h3⟩, h4⟩ := h
  refine ⟨dOK0_spec h1 h2 h3, fun i hi hm j hj => ?_⟩
  · have := List.all_eq_true.1 h4 i (by simpa using hi)
    have hb : Nat.blt i m = false := by
      cases hb : Nat.blt i m with
      | false => rfl
      | true => have := Nat.blt_eq.mp hb; omega
    rw [hb, Bool.false_or] at this
    have := List.all_eq_true.1 this j (by simpa using hj)
    rcases Bool.or_eq_true_iff.1 this with h | h
    · exact .inl h
    · obtain ⟨k, hk, hb⟩ := List.any_eq_true.1 h
      simp only [Bool.and_eq_true] at hb
      exact .inr ⟨k, by simpa using hk, Nat.blt_eq.mp hb.1, hb.2⟩

theorem dOK2_spec {ops : List Oper} {al : List AOper} {m : Nat} (h : dOK2 ops al m = true) : DOK2 ops al m := by
  simp only [dOK2, Bool.and_eq_true] at h
  obtain ⟨⟨⟨h1, h2⟩, h3⟩, h4⟩ := h
  refine ⟨dOK0_spec h1 h2 h3, fun i hi hm => ?_⟩
  have := List.all_eq_true.1 h4 i (by simpa using hi)
  have hb : Nat.blt i m = false := by
    cases hb : Nat.blt i m with
    | false => rfl
    | true => have := Nat.blt_eq.mp hb; omega
  rw [hb, Bool.false_or] at this
  split at this
  · rename_i x hx
    refine ⟨x, hx, fun j hj => ?_⟩
    have := List.all_eq_true.1 this j (by simpa using hj)
    rcases Bool.or_eq_true_iff.1 this with h | h
    · exact .inl h
    · right
      simp only [Bool.and_eq_true] at h
      obtain ⟨q1, q2⟩ := h
      refine ⟨Nat.blt_eq.mp q1, ?_⟩
      split at q2
      · rename_i y hy
        simp only [Bool.and_eq_true] at q2
        obtain ⟨q2, q3⟩ := q2
        split at q3
        · rename_i t ht
          simp only [Bool.and_eq_true] at q3
          exact ⟨y, t, hy, by simpa using q2, ht, by simpa using q3.1, by simpa using q3.2⟩
        · cases q3
      · cases q2
  · cases this

/-- what one operation comes to, guard and all -/
def Ex (C : Ctx) (env : Env) (rows : Rows) (x : AOper) (d : D) (rows' : Rows) : Prop :=
  match x.guard with
  | none => aop C env rows x.op fun d2 r2 => d2 = d ∧ r2 = rows'
  | some (s, want) => (∃ b, look env s = some (.raw (.bool b)) ∧ (b = want → aop C env rows x.op fun d2 r2 => d2 = d ∧ r2 = rows') ∧ (b = !want → d = .tup [] ∧ rows' = rows)) ∨
      (look env s = some (.tup []) ∧ d = .tup [] ∧ rows' = rows)

theorem ex_of (hN : ∀ f, C.fnr f = none) {x : AOper} {l : List AOper} {env : Env} {rows : Rows} {K : Env → Rows → Prop} (h : aops C (x :: l) env rows K) (hq : quietA x.op = true) :
    ∃ d new, Ex C env rows x d (rows ++ new) ∧ aops C l (put x.dst d env) (rows ++ new) K := by
  obtain ⟨dst, o, g⟩ := x
  cases g with
  | none =>
    obtain ⟨d, new, h1, h2⟩ := aop_det hN o hq _ h
    exact ⟨d, new, h2, h1⟩
  | some sw =>
    obtain ⟨s, want⟩ := sw
    obtain ⟨v, hv, h⟩ := bnd_some h
    split at h
    · rename_i b
      by_cases hb : b = want
      · obtain ⟨d, new, h1, h2⟩ := aop_det hN o hq _ (h.1 hb)
        refine ⟨d, new, .inl ⟨b, hv, fun _ => h2, fun h3 => ?_⟩, h1⟩
        rw [hb] at h3
        cases want <;> cases h3
      · have hb' : b = !want := by cases b <;> cases want <;> simp_all
        refine ⟨.tup [], [], .inl ⟨b, hv, fun h3 => absurd h3 hb, fun _ => ⟨rfl, by simp⟩⟩, ?_⟩
        simpa using h.2 hb'
    · exact ⟨.tup [], [], .inr ⟨hv, rfl, by simp⟩, by simpa using h⟩
    · exact h.elim

/-- the environments on the way -/
def evAt (al : List AOper) (Dd : Nat → D) (env : Env) : Nat → Env
  | 0 => env
  | i + 1 => put (dstOf al i) (Dd i) (evAt al Dd env i)

theorem evAt_congr (al : List AOper) (env : Env) {D1 D2 : Nat → D} : ∀ (i : Nat), (∀ j, j < i → D1 j = D2 j) → evAt al D1 env i = evAt al D2 env i
  | 0, _ => rfl
  | i + 1, h => by simp only [evAt, h i (by omega), evAt_congr al env i (fun j hj => h j (by omega))]

theorem trace (hN : ∀ f, C.fnr f = none) {al : List AOper} {env : Env} {rows : Rows} {K : Env → Rows → Prop} : ∀ (m : Nat), m ≤ al.length → (∀ i, i < m → ∃ x, al[i]? = some x ∧ quietA x.op = true) → aops C al env rows K →
    ∃ (Dd : Nat → D) (R : Nat → Rows), R 0 = rows ∧ (∀ i, i < m → ∃ x new, al[i]? = some x ∧ R (i + 1) = R i ++ new ∧ Ex C (evAt al Dd env i) (R i) x (Dd i) (R (i + 1))) ∧ aops C (al.drop m) (evAt al Dd env m) (R m) K
  | 0, _, _, h => ⟨fun _ => default, fun _ => rows, rfl, fun i hi => by omega, by simpa [evAt] using h⟩
  | m + 1, hm, hq, h => by
    obtain ⟨Dd, R, h1, h2, h3⟩   := trace hN m (by omega) (fun i hi => hq i (by omega)) h
    obtain ⟨x, hx, hqx⟩ := hq m (by omega)
    have hdrop : al.drop m = x :: al.drop (m + 1) := by
      have hlt : m < al.length := by omega
      rw [List.drop_eq_getElem_cons hlt]
      congr 1
      rw [List.getElem?_eq_getElem hlt] at hx
      exact Option.some.inj hx
    rw [hdrop] at h3
    obtain ⟨d, new, g1, g2⟩ := ex_of hN h3 hqx
    have hdst : dstOf al m = x.dst := by simp [dstOf, hx]
    let Dd' : Nat → D := fun j => if j = m then d else Dd j
    let R' : Nat → Rows := fun j => if j = m + 1 then R m ++ new else R j
    have hev : ∀ i, i ≤ m → evAt al Dd' env i = evAt al Dd env i := fun i hi => evAt_congr al env i (fun j hj => by simp only [Dd']; rw [if_neg (by omega)])
    have hR : ∀ i, i ≤ m → R' i = R i := fun i hi => by simp only [R']; rw [if_neg (by omega)]
    have hRm : R' (m + 1) = R m ++ new := by simp [R']
    have hDm : Dd' m = d := by simp [Dd']
    refine ⟨Dd', R', by rw [hR 0 (by omega)]; exact h1, fun i hi => ?_, ?_⟩
    · by_cases him : i = m
      · subst him
        refine ⟨x, new, hx, by rw [hRm, hR i (by omega)], ?_⟩
        rw [hev i (by omega), hR i (by omega), hRm, hDm]
        exact g1
      · obtain ⟨x', new', q1, q2, q3⟩ := h2 i (by omega)
        refine ⟨x', new', q1, by rw [hR (i + 1) (by omega), hR i (by omega)]; exact q2, ?_⟩
        have : Dd' i = Dd i := by simp only [Dd']; rw [if_neg him]
        rw [hev i (by omega), hR i (by omega), hR (i + 1) (by omega), this]
        exact q3
    · simp only [evAt]
      rw [hev m (by omega), hRm, hDm, hdst]
      exact g2

theorem look_evAt_none {al : List AOper} {Dd : Nat → D} {env : Env} {t : Nat} : ∀ (i : Nat), (∀ j, j < i → dstOf al j ≠ some t) → look (evAt al Dd env i) t = look env t
  | 0, _ => rfl
  | i + 1, h => by
    have h1 := h i (by omega)
    have ih := look_evAt_none (Dd := Dd) (env := env) i (fun j hj => h j (by omega))
    simp only [evAt]
    cases hd : dstOf al i with
    | none => exact ih
    | some s =>
      simp only [put, look]
      have : (s == t) = false := by
        have : s ≠ t := fun e => h1 (by rw [hd, e])
        simpa using this
      rw [this]
      exact ih
theorem look_evAt_some {al : List AOper} {Dd : Nat → D} {env : Env} {t k : Nat} (hk : dstOf al k = some t) : ∀ (i : Nat), k < i → (∀ j, j < i → j ≠ k → dstOf al j ≠ some t) → look (evAt al Dd env i) t = some (Dd k)
  | 0, h, _ => by omega
  | i + 1, h, hu => by
    by_cases hi : i = k
    · subst hi
      simp [evAt, hk, put, look]
    · have ih := look_evAt_some (Dd := Dd) (env := env) hk i (by omega) (fun j hj => hu j (by omega))
      have h1 := hu i (by omega) hi
      simp only [evAt]
      cases hd : dstOf al i with
      | none => exact ih
      | some s =>
        simp only [put, look]
        have : (s == t) = false := by
          have : s ≠ t := fun e => h1 (by rw [hd, e])
          simpa using this
        rw [this]
        exact ih

/-- placements up to a number -/
def res (ρ : Pl) (k : Nat) : Pl := fun r => if r < k then ρ r else none
theorem res_mono {ρ : Pl} {k k' : Nat} (h : k ≤ k') : ∀ r L, res ρ k r = some L → res ρ k' r = some L := by
  intro r L hr
  unfold res at hr ⊢
  split at hr
  · rw [if_pos (by omega)]; exact hr
  · cases hr
theorem res_sub {ρ : Pl} {k : Nat} : ∀ r L, res ρ k r = some L → ρ r = some L := by
  intro r L hr
  unfold res at hr
  split at hr
  · exact hr
  · cases hr

/-- the least that an operation looks at -/
def small (env : Env) : List Nat → Env
  | [] => []
  | t :: l => match look env t with
    | some d => (t, d) :: small env l
    | none => small env l
theorem small_look {env : Env} : ∀ {l : List Nat} {t : Nat}, t ∈ l → look (small env l) t = look env t
  | s :: l, t, h => by
    simp only [small]
    by_cases hst : s = t
    · subst hst
      cases hl : look env s with
      | some d => simp [look]
      | none =>
        simp only
        by_cases hm : s ∈ l
        · rw [small_look hm]; exact hl
        · have : ∀ (l : List Nat), s ∉ l → look (small env l) s = none := by
            intro l
            induction l with
            | nil => intro _; rfl
            | cons q l ih =>
              intro hq
              simp only [List.mem_cons, not_or] at hq
              simp only [small]
              cases hlq : look env q with
              | none => exact ih hq.2
              | some d =>
                simp only [look]
                have : (q == s) = false := by simpa using fun e => hq.1 (Eq.symm e)
                rw [this]
                exact ih hq.2
          exact this l hm
    · have ht : t ∈ l := by
        rcases List.mem_cons.1 h with h | h
        · exact absurd h.symm hst
        · exact h
      cases hl : look env s with
      | none => exact small_look ht
      | some d =>
        simp only [look]
        have : (s == t) = false := by simpa using hst
        rw [this]
        exact small_look ht
theorem small_sub {env : Env} : ∀ {l : List Nat} {t : Nat} {d : D}, look (small env l) t = some d → t ∈ l ∧ look env t = some d
  | [], t, d, h => by simp [small, look] at h
  | s :: l, t, d, h => by
    simp only [small] at h
    cases hl : look env s with
    | none =>
      rw [hl] at h
      obtain ⟨h1, h2⟩ := small_sub h
      exact ⟨by simp [h1], h2⟩
    | some x =>
      rw [hl] at h
      simp only [look] at h
      cases hb : (s == t) with
      | true =>
        have : s = t := by simpa using hb
        subst this
        rw [hb] at h
        simp at h
        exact ⟨by simp, by rw [hl, h]⟩
      | false =>
        rw [hb] at h
        obtain ⟨h1, h2⟩ := small_sub (by simpa using h)
        exact ⟨by simp [h1], h2⟩

theorem mem_xslots : ∀ {l : List X} {t : Nat}, .tmp t ∈ l → t ∈ xslots l
  | x :: l, t, h => by
    rcases List.mem_cons.1 h with h' | h'
    · subst h'; simp [xslots]
    · have ih := mem_xslots h'
      cases x with
      | tmp s => simp [xslots, ih]
      | const _ => simpa [xslots] using ih
      | glob _ => simpa [xslots] using ih

theorem live_prefix {R R' new : Rows} {r : Nat} (h : R' = R ++ new) (hr : r < R.length) : live R' r = live R r := by
  subst h
  unfold live
  rw [List.getElem?_append_left hr]

end Go.Am
