import Derived.Test.YtpepmhbdblldeaaDoorPv8
namespace Go.Am
set_option linter.unusedVariables false
set_option linter.unusedSimpArgs false
variable {C : Ctx} {P : Program} {n : Nat}
def undF (al : List AOper) (F : List Nat) (L : Array Bool) : List Nat := F.filterMap fun j => bif L.getD j false then none else dstOf al j
theorem mem_undF {al : List AOper} {F : List Nat} {L : Array Bool} {t : Nat} : t ∈ undF al F L ↔ ∃ j, j ∈ F ∧ ¬ done L j ∧ dstOf al j = some t := by
 unfold undF done
 rw [List.mem_filterMap]
 constructor
 ·rintro ⟨j, hj, h⟩
  cases hb : L.getD j false with
  | true => rw [hb] at h; cases h
  | false => rw [hb] at h; exact ⟨j, hj, by rw [hb]; simp, h⟩
 ·rintro ⟨j, hj, h1, h2⟩
  refine ⟨j, hj, ?_⟩
  have : L.getD j false = false := by simpa using h1
  rw [this]; exact h2
def hidF (al : List AOper) (F : List Nat) (L : Array Bool) (env : Env) : Env := hideE env (undF al F L)
theorem look_hidF {al : List AOper} {F : List Nat} {L : Array Bool} {env : Env} {t : Nat} (h : ∀ j, j ∈ F → ¬ done L j → dstOf al j ≠ some t) : look (hidF al F L env) t = look env t := by
 unfold hidF
 rw [look_hide, if_neg]
 rw [mem_undF]
 rintro ⟨j, h1, h2, h3⟩
 exact h j h1 h2 h3
theorem look_hidF_some {al : List AOper} {F : List Nat} {L : Array Bool} {env : Env} {t : Nat} {d : D} (h : look (hidF al F L env) t = some d) : look env t = some d ∧ ∀ j, j ∈ F → ¬ done L j → dstOf al j ≠ some t := by
 unfold hidF at h
 rw [look_hide] at h
 split at h
 ·cases h
 ·rename_i hn
  refine ⟨h, fun j h1 h2 h3 => hn (mem_undF.2 ⟨j, h1, h2, h3⟩)⟩
def holeOf (env : Env) (t : Nat) : Option Nat := match look env t with
 | some (.ptr _ r _) => some r
 | some (.sl _ r _ _ _ _) => some r
 | _ => none
def makesA : AOp → Bool
 | .alloc _ _ => true
 | .bslice _ _ _ _ => true
 | _ => false
structure FInv (al : List AOper) (F : List Nat) (L : Array Bool) (b0 : Nat) (env : Env) (rows : Rows) (ρ : Pl) : Prop where
 hole : ∀ j, j ∈ F → ¬ done L j → ∀ x t, al[j]? = some x → x.dst = some t → makesA x.op = true → ∃ r, holeOf env t = some r ∧ b0 ≤ r ∧ r < rows.length ∧ ρ r = none
 dist : ∀ j j', j ∈ F → j' ∈ F → ¬ done L j → ¬ done L j' → j ≠ j' → ∀ x t x' t', al[j]? = some x → x.dst = some t → makesA x.op = true → al[j']? = some x' → x'.dst = some t' → makesA x'.op = true → holeOf env t ≠ holeOf env t'
mutual
theorem rawD_flat : ∀ (d : D), rawD d = true → ∀ x ∈ d.flat, ∃ v, x = .raw v
 | .raw v, _, x, hx => by simp [D.flat] at hx; exact ⟨v, hx⟩
 | .agg s l, h, x, hx => by
  simp only [D.flat] at hx
  exact rawDs_flat l (by simpa [rawD] using h) x hx
 | .ptr _ _ _, h, _, _ => by simp [rawD] at h
 | .sl _ _ _ _ _ _, h, _, _ => by simp [rawD] at h
 | .aptr _ _ _ _ _, h, _, _ => by simp [rawD] at h
 | .lst _ _ _, h, _, _ => by simp [rawD] at h
 | .cptr _, h, _, _ => by simp [rawD] at h
 | .tup _, h, _, _ => by simp [rawD] at h
 | .mp _, h, _, _ => by simp [rawD] at h
 | .om _ _, h, _, _ => by simp [rawD] at h
theorem rawDs_flat : ∀ (l : List D), rawDs l = true → ∀ x ∈ flatL l, ∃ v, x = .raw v
 | [], _, x, hx => by simp [flatL] at hx
 | d :: l, h, x, hx => by
  simp only [rawDs, Bool.and_eq_true] at h
  simp only [flatL, List.mem_append] at hx
  rcases hx with hx | hx
  ·exact rawD_flat d h.1 x hx
  ·exact rawDs_flat l h.2 x hx
end
theorem floatA_quiet {o : AOp} (h : floatA o = true) : quietA o = true := by cases o <;> first | exact h | rfl | (simp [floatA] at h)
theorem float_det (hN : ∀ f, C.fnr f = none) {env : Env} {rows : Rows} {o : AOp} {k : D → Rows → Prop} (hf : floatA o = true) (h : aop C env rows o k) :
  ∃ d new, k d (rows ++ new) ∧ (makesA o = true → new.length = 1 ∧ ∀ t env, holeOf ((t, d) :: env) t = some rows.length) := by
 cases hm : makesA o with
 | false =>
  obtain ⟨d, new, h1, _⟩ := aop_det hN o (floatA_quiet hf) _ h
  exact ⟨d, new, h1, fun h => by cases h⟩
 | true =>
  cases o with
  | alloc s z => exact ⟨_, _, h, fun _ => ⟨rfl, fun t env => by simp [holeOf, look]⟩⟩
  | bslice s m z ps =>
   obtain ⟨l, _, h2⟩ := bnd_some h
   exact ⟨_, _, h2, fun _ => ⟨rfl, fun t env => by simp [holeOf, look]⟩⟩
  | _ => cases hm
theorem fOK_spec {ops : List Oper} {al : List AOper} {i : Nat} (h : fOK ops al i = true) : ∃ o x t, ops[i]? = some o ∧ al[i]? = some x ∧ floatA x.op = true ∧ quietOp o.op = true ∧ x.guard = none ∧ x.dst = some t := by
 unfold fOK at h
 split at h
 ·rename_i o x ho hx
  simp only [Bool.and_eq_true] at h
  obtain ⟨⟨⟨h1, h2⟩, h3⟩, h4⟩ := h
  obtain ⟨t, ht⟩ := Option.isSome_iff_exists.1 h4
  exact ⟨o, x, t, ho, hx, h1, h2, by simpa using h3, ht⟩
 ·cases h
theorem okF1_spec {ops : List Oper} {al : List AOper} {prev : Option Nat} {F : List Nat} {i : Nat} (h : okF1 ops al prev F i = true) :
  fOK ops al i = true ∧ i ∉ F ∧ (∀ j ∈ F, dstOf al j ≠ dstOf al i) ∧ (∀ c, prev = some c → anc ops 2 i c = true) ∧ ∀ x, al[i]? = some x → ∀ t ∈ uses x, ∀ j, j < ops.length → dstOf al j = some t → dep ops i j = true := by
 simp only [okF1, Bool.and_eq_true] at h
 obtain ⟨⟨⟨⟨h1, h2⟩, h3⟩, h4⟩, h5⟩ := h
 refine ⟨h1, by simpa using h2, fun j hj => ?_, fun c hc => ?_, fun x hx t ht j hj hd => ?_⟩
 ·have := List.all_eq_true.1 h3 j hj
  simpa using this
 ·subst hc; exact h4
 ·rw [hx] at h5
  have := List.all_eq_true.1 (List.all_eq_true.1 h5 t ht) j (by simpa using hj)
  simpa [hd] using this
theorem okFs_mem {ops : List Oper} {al : List AOper} {prev : Option Nat} : ∀ {l F : List Nat}, okFs ops al prev F l = true → ∀ i ∈ l, fOK ops al i = true ∧ (∀ c, prev = some c → anc ops 2 i c = true) ∧ ∀ x, al[i]? = some x → ∀ t ∈ uses x, ∀ j, j < ops.length → dstOf al j = some t → dep ops i j = true
 | [], _, _, i, hi => by simp at hi
 | k :: l, F, h, i, hi => by
  simp only [okFs, Bool.and_eq_true] at h
  rcases List.mem_cons.1 hi with rfl | hi
  ·obtain ⟨h1, _, _, h4, h5⟩ := okF1_spec h.1
   exact ⟨h1, h4, h5⟩
  ·exact okFs_mem h.2 i hi
theorem atL_cons {al : List AOper} {i : Nat} {l : List Nat} {x : AOper} (h : al[i]? = some x) : atL al (i :: l) = x :: atL al l := by
 simp [atL, h]
theorem intro_fs {ops : List Oper} {al : List AOper} {L : Array Bool} {b0 : Nat} {ρ : Pl} {T : Nat → Prop} {a : Act} {w : World} {prev : Option Nat} {K : Env → Rows → Prop} (hN : ∀ f, C.fnr f = none) : ∀ (fl F : List Nat) (env : Env) (rows : Rows), okFs ops al prev F fl = true → aops C (atL al fl) env rows K → (∀ j ∈ fl, ¬ done L j) →
  FInv al F L b0 env rows ρ → b0 ≤ rows.length → Sim n ρ T (hidF al F L env) rows a w → ∃ env' rows', K env' rows' ∧ FInv al (F ++ fl) L b0 env' rows' ρ ∧ Sim n ρ T (hidF al (F ++ fl) L env') rows' a w ∧ ∃ new, rows' = rows ++ new
 | [], F, env, rows, _, h, _, hI, _, hs => ⟨env, rows, h, by rw [List.append_nil]; exact hI, by rw [List.append_nil]; exact hs, [], by simp⟩
 | i :: l, F, env, rows, hok, h, hnd, hI, hb, hs => by
  simp only [okFs, Bool.and_eq_true] at hok
  obtain ⟨h1, hiF, huq, _, _⟩ := okF1_spec hok.1
  obtain ⟨o, x, t, ho, hx, hfa, _, hg, ht⟩ := fOK_spec h1
  have hdi : dstOf al i = some t := by simp [dstOf, hx, ht]
  rw [atL_cons hx] at h
  obtain ⟨dst, op, g⟩ := x
  simp only at hfa hg ht
  subst hg
  subst ht
  obtain ⟨d, new, h2, hmk⟩ := float_det hN hfa h
  have hni : ¬ done L i := hnd i (.head _)
  have hlk : ∀ j ∈ F, ∀ t', dstOf al j = some t' → look ((t, d) :: env) t' = look env t' := by
   intro j hj t' hj'
   have hne : t ≠ t' := fun e => huq j hj (by rw [hj', hdi, e])
   have : (t == t') = false := by simpa using hne
   simp [look, this]
  have hho : ∀ j ∈ F, ∀ t', dstOf al j = some t' → holeOf ((t, d) :: env) t' = holeOf env t' := by
   intro j hj t' hj'
   unfold holeOf
   rw [hlk j hj t' hj']
  have hI' : FInv al (F ++ [i]) L b0 ((t, d) :: env) (rows ++ new) ρ := by
   refine ⟨fun j hj hnj x' t' hx' ht' hm' => ?_, fun j j' hj hj' hnj hnj' hne x1 t1 x2 t2 hx1 ht1 hm1 hx2 ht2 hm2 => ?_⟩
   ·rcases List.mem_append.1 hj with hj | hj
    ·obtain ⟨r, q1, q2, q3, q4⟩ := hI.hole j hj hnj x' t' hx' ht' hm'
     exact ⟨r, by rw [hho j hj t' (by simp [dstOf, hx', ht'])]; exact q1, q2, by rw [List.length_append]; omega, q4⟩
    ·rw [List.mem_singleton.1 hj] at hx'
     rw [hx] at hx'
     cases hx'
     cases ht'
     obtain ⟨q1, q2⟩ := hmk hm'
     exact ⟨rows.length, q2 _ _, hb, by rw [List.length_append, q1]; omega, hs.dom _ (Nat.le_refl _)⟩
   ·have one : ∀ (j : Nat), j ∈ F → ¬ done L j → ∀ (x1 : AOper) (t1 : Nat), al[j]? = some x1 → x1.dst = some t1 → makesA x1.op = true → makesA op = true → holeOf ((t, d) :: env) t1 ≠ holeOf ((t, d) :: env) t := by
     intro j hj hnj x1 t1 hx1 ht1 hm1 hmo he
     obtain ⟨r, q1, q2, q3, q4⟩ := hI.hole j hj hnj x1 t1 hx1 ht1 hm1
     rw [hho j hj t1 (by simp [dstOf, hx1, ht1]), q1, (hmk hmo).2] at he
     cases he
     omega
    rcases List.mem_append.1 hj with hj | hj
    ·rcases List.mem_append.1 hj' with hj' | hj'
     ·rw [hho j hj t1 (by simp [dstOf, hx1, ht1]), hho j' hj' t2 (by simp [dstOf, hx2, ht2])]
      exact hI.dist j j' hj hj' hnj hnj' hne x1 t1 x2 t2 hx1 ht1 hm1 hx2 ht2 hm2
     ·rw [List.mem_singleton.1 hj', hx] at hx2
      cases hx2
      cases ht2
      exact one j hj hnj x1 t1 hx1 ht1 hm1 hm2
    ·rw [List.mem_singleton.1 hj, hx] at hx1
     cases hx1
     cases ht1
     rcases List.mem_append.1 hj' with hj' | hj'
     ·exact (one j' hj' hnj' x2 t2 hx2 ht2 hm2 hm1).symm
     ·exact absurd ((List.mem_singleton.1 hj).trans (List.mem_singleton.1 hj').symm) hne
  have hs' : Sim n ρ T (hidF al (F ++ [i]) L ((t, d) :: env)) (rows ++ new) a w := by
   have hlow : ∀ r Lc, ρ r = some Lc → r < rows.length := by
    intro r Lc hr
    rcases Nat.lt_or_ge r rows.length with h1 | h1
    ·exact h1
    ·rw [hs.dom r h1] at hr; cases hr
   refine ⟨⟨fun r row Lc q1 q2 => ?_, fun r r' row row' Lc Lc' q1 q2 q3 q4 => ?_⟩, fun t' d' hl => ?_, hs.size, hs.tlt, fun r hr => hs.dom r (by rw [List.length_append] at hr; omega), hs.defers⟩
   ·rw [live_prefix rfl (hlow r Lc q2)] at q1
    exact hs.rowsOK.row r row Lc q1 q2
   ·rw [live_prefix rfl (hlow r Lc q3)] at q1
    rw [live_prefix rfl (hlow r' Lc' q4)] at q2
    exact hs.rowsOK.dist r r' row row' Lc Lc' q1 q2 q3 q4
   ·obtain ⟨q1, q2⟩ := look_hidF_some hl
    have hne : t ≠ t' := fun e => q2 i (by simp) hni (by rw [hdi, e])
    have hb' : (t == t') = false := by simpa using hne
    simp only [look, hb', cond_false] at q1
    refine hs.env t' d' ?_
    rw [look_hidF fun j hj hn => q2 j (by simp [hj]) hn]
    exact q1
  obtain ⟨env', rows', k1, k2, k3, new', k4⟩ := intro_fs hN l (F ++ [i]) ((t, d) :: env) (rows ++ new) hok.2 h2 (fun j hj => hnd j (.tail _ hj)) hI' (by rw [List.length_append]; omega) hs'
  exact ⟨env', rows', k1, by rw [List.append_assoc] at k2; exact k2, by rw [List.append_assoc] at k3; exact k3, new ++ new', by rw [k4, List.append_assoc]⟩
structure Mk (C : Ctx) (env : Env) (rows : Rows) (op : AOp) (d : D) (r0 : Nat) (d0 : D) (row : Row) : Prop where
 run : ∀ k : D → Rows → Prop, k d0 (rows ++ [some row]) → aop C env rows op k
 lv : live rows r0 = some row
 raw : (∀ e ∈ row.els, HasSh row.sh e) → ∀ y ∈ flatL row.els, ∃ v, y = .raw v
 vr : ∀ (ρ1 ρ2 : Pl) (w : World) (T : Nat → Prop) (v : Value), ρ1 rows.length = ρ2 r0 → VR ρ1 w T d0 v → VR ρ2 w T d v
theorem mk_of {env henv : Env} {rows : Rows} {op : AOp} {t : Nat} (hm : makesA op = true) (hf : floatA op = true) (hev : ∀ y ∈ op.xs, ev C henv y = ev C env y) (h : stabF1 C env rows op t) :
  ∃ d r0 d0 row, look env t = some d ∧ holeOf env t = some r0 ∧ Mk C henv rows op d r0 d0 row := by
 cases op with
 | alloc s z =>
  obtain ⟨d, hd, h⟩ := bnd_some h
  cases d with
  | ptr s' r p =>
   obtain ⟨rfl, rfl, hl⟩ := h
   refine ⟨_, r, .ptr s' rows.length [0], ⟨s', [z]⟩, hd, by simp [holeOf, hd], fun k hk => hk, hl, fun _ y hy => ?_, fun ρ1 ρ2 w T v he hv => ?_⟩
   ·simp only [flatL, List.append_nil] at hy
    exact rawD_flat z hf y hy
   ·have := hv.toLR rfl
    cases this with
    | ptr _ _ _ L h1 h2 => exact VR.ofLeaf (.ptr _ _ _ L (by rw [← he]; exact h1) h2)
  | _ => exact h.elim
 | bslice s m z ps =>
  obtain ⟨l, hl0, h⟩ := bnd_some h
  obtain ⟨d, hd, h⟩ := bnd_some h
  cases d with
  | sl s' r p off len ex =>
   obtain ⟨rfl, rfl, rfl, rfl, rfl, hl⟩ := h
   refine ⟨_, r, .sl s' rows.length [] 0 len true, ⟨s', l⟩, hd, by simp [holeOf, hd], fun k hk => ?_, hl, fun he y hy => pure_flatL he hf y hy, fun ρ1 ρ2 w T v he hv => ?_⟩
   ·show bnd (fillP C henv (Sh.ar len s').sub ps (List.replicate len z)) _
    rw [fillP_congr (env' := env) hev, hl0]
    exact hk
   ·have := hv.toLR rfl
    cases this with
    | sl _ _ _ _ _ _ L cap h1 h2 h3 h4 => exact VR.ofLeaf (.sl _ _ _ _ _ _ L cap (by rw [← he]; exact h1) h2 h3 h4)
    | slz _ _ _ _ _ a => exact VR.ofLeaf (.slz _ _ _ _ _ a)
  | _ => exact h.elim
 | _ => cases hm
theorem late_make {o : Oper} {op : AOp} {env : Env} {rows rows0 : Rows} {ρ ρ0 : Pl} {T T0 : Nat → Prop} {a : Act} {w w0 : World} {d d0 : D} {r0 : Nat} {row : Row} {next : Act → World → Prop} {Q' : Exit → Act → World → Prop}
  (hN : ∀ f, C.fnr f = none) (hC : CtxOK C P) (hop : cOp P o.op = some op) (hq : quietOp o.op = true) (hs : Sim n ρ T env rows a w) (hg : GlobOK C w T) (M : Mk C env rows op d r0 d0 row) (hr0 : ρ r0 = none) (hb : rows0.length ≤ r0) (hst : Step ρ0 T0 rows0 w0 ρ T rows w)
  (hn : ∀ ρ' T' v w', Sim n ρ' T' env rows a w' → VR ρ' w' T' d v → Step ρ0 T0 rows0 w0 ρ' T' rows w' → GlobOK C w' T' → (∀ r, r ≠ r0 → ρ' r = ρ r) → next (a.put o.dst v) w') : o.wp P a w next Q' := by
 refine op_sound hs hg hC hop (M.run (fun d2 r2 => d2 = d0 ∧ r2 = rows ++ [some row]) ⟨rfl, rfl⟩) ?_
 rintro d2 r2 ρ' T' v w' ⟨rfl, rfl⟩ hs' hst' hv hk
 obtain ⟨hqh, hfr⟩ := hk hN hq
 have hr0l := live_lt M.lv
 let ρn : Pl := fun r => if r = r0 then ρ' rows.length else ρ r
 have e0 : ρn r0 = ρ' rows.length := if_pos rfl
 have e1 : ∀ r, r ≠ r0 → ρn r = ρ r := fun r hr => if_neg hr
 have hA : ∀ r Lc, ρ r = some Lc → ρn r = some Lc := by
  intro r Lc hr
  rw [e1 r (fun e => by rw [e, hr0] at hr; cases hr)]
  exact hr
 have hlow : ∀ r Lc, ρ r = some Lc → r < rows.length := by
  intro r Lc hr
  rcases Nat.lt_or_ge r rows.length with h1 | h1
  ·exact h1
  ·rw [hs.dom r h1] at hr; cases hr
 have hw : ∀ b, T b → w'.heap[b]? = w.heap[b]? := fun b hb => by
  rcases hqh b (hs.tlt b hb) with h1 | ⟨_, r, row', Lc, h2, h3, rfl⟩
  ·exact h1
  ·exact absurd hb (hs.rowsOK.row r row' Lc h2 h3).notT
 have hlN : live (rows ++ [some row]) rows.length = some row := live_append_new rows row
 have hold : ∀ r row' Lc, live rows r = some row' → ρ r = some Lc → RowOK ρn row' Lc w' T' := by
  intro r row' Lc h1 h2
  have hro := hs.rowsOK.row r row' Lc h1 h2
  refine hro.monoQ hA hw hst'.tt ((hqh _ hro.lt).imp_right (·.1)) (fun hT => ?_)
  rcases hfr _ hT with h4 | h4
  ·exact hro.notT h4
  ·have := hro.lt; omega
 have hnew : ∀ Lc, ρ' rows.length = some Lc → RowOK ρn row Lc w' T' := by
  intro Lc h
  have hro := hs'.rowsOK.row rows.length row Lc hlN h
  refine ⟨hro.sh, hro.notT, hro.els, fun hm => ?_, hro.mcells⟩
  obtain ⟨cur, t, q1, q2, q3, q4⟩ := hro.cells hm
  exact ⟨cur, t, q1, q2, q3, q4.ofRaw (M.raw hro.els)⟩
 have hpl : ∀ r Lc, ρ r = some Lc → ρ' r = some Lc := hst'.pl
 have hs2 : Sim n ρn T' env rows a w' := by
  refine ⟨⟨fun r row' Lc h1 h2 => ?_, fun r r' row1 row2 Lc Lc' h1 h2 h3 h4 hne => ?_⟩, fun t' d' hl => (hs.env t' d' hl).mono hA hw hst'.tt, hs'.size, hs'.tlt, fun r hr => ?_, hs'.defers⟩
  ·by_cases hr : r = r0
   ·subst hr
    rw [M.lv] at h1
    cases h1
    rw [e0] at h2
    exact hnew Lc h2
   ·rw [e1 r hr] at h2
    exact hold r row' Lc h1 h2
  ·by_cases hr : r = r0
   ·have hr' : r' ≠ r0 := fun e => hne (hr.trans e.symm)
    subst hr
    rw [e0] at h3
    rw [e1 r' hr'] at h4
    have hl' := hlow r' Lc' h4
    exact hs'.rowsOK.dist rows.length r' row row2 Lc Lc' hlN (by rw [live_prefix rfl hl']; exact h2) h3 (hpl _ _ h4) (by omega)
   ·rw [e1 r hr] at h3
    have hl := hlow r Lc h3
    by_cases hr' : r' = r0
    ·subst hr'
     rw [e0] at h4
     exact hs'.rowsOK.dist r rows.length row1 row Lc Lc' (by rw [live_prefix rfl hl]; exact h1) hlN (hpl _ _ h3) h4 (by omega)
    ·rw [e1 r' hr'] at h4
     exact hs.rowsOK.dist r r' row1 row2 Lc Lc' h1 h2 h3 h4 hne
  ·rw [e1 r (by omega)]
   exact hs.dom r hr
 have htr := hst.trans hst'
 refine hn ρn T' v w' hs2 (M.vr ρ' ρn w' T' v e0.symm hv) ⟨fun r Lc hr => hA r Lc (hst.pl r Lc hr), htr.tt, htr.tnew, htr.size, htr.keep, fun r row' Lc h1 h2 => ?_, htr.os, htr.tape, htr.output, hst.len, fun r hr => ?_⟩ (hg.step hs hst') e1
 ·by_cases hr : r = r0
  ·subst hr
   rw [e0] at h2
   exact htr.fresh rows.length row Lc hlN h2
  ·rw [e1 r hr] at h2
   have hl := hlow r Lc h2
   exact htr.fresh r row' Lc (by rw [live_prefix rfl hl]; exact h1) (hpl _ _ h2)
 ·rw [e1 r (by omega)]
  exact hst.same r hr
theorem stabsF_mem {env : Env} {rows : Rows} : ∀ {l : List AOper} {y : AOper}, stabsF C env rows l → y ∈ l → ∃ t, y.dst = some t ∧ stabF1 C env rows y.op t
 | [], y, _, h => by simp at h
 | x :: l, y, h, hy => by
  rcases List.mem_cons.1 hy with rfl | hy
  ·have h1 := h.1
   cases hd : y.dst with
   | none => rw [hd] at h1; exact h1.elim
   | some t => rw [hd] at h1; exact ⟨t, rfl, h1⟩
  ·exact stabsF_mem h.2 hy
theorem stabF1_plain {env : Env} {rows : Rows} {o : AOp} {t : Nat} (hm : makesA o = false) (h : stabF1 C env rows o t) : aop C env rows o (stab1 env rows (some t)) := by
 cases o with
 | alloc s z => cases hm
 | bslice s m z ps => cases hm
 | _ => exact h
theorem rest_not {ops : Array Oper} {al : List AOper} {L : Array Bool} (hcl : ∀ i, done L i → ∀ j, dep ops.toList i j = true → done L j) {i : Nat} (hr : ∀ j, dep ops.toList i j = true → done L j) : ∀ (gs : List (Nat × List Nat)) (F : List Nat) (p : Nat), okG ops.toList al (some p) F gs = true → ¬ done L p → (∀ g ∈ gs, ¬ done L g.1) → inG gs i = true → False
 | [], _, _, _, _, _, h => by simp [inG] at h
 | (c, fl) :: gs, F, p, hok, hp, hg, h => by
  simp only [okG, Bool.and_eq_true] at hok
  obtain ⟨⟨⟨⟨h1, h2⟩, h3⟩, h4⟩, h5⟩ := hok
  have hc : ¬ done L c := hg _ (.head _)
  simp only [inG, List.any_cons, Bool.or_eq_true] at h
  rcases h with (h | h) | h
  ·have : c = i := by simpa using h
   subst this
   simp only [okC, Bool.and_eq_true] at h1
   exact hp (anc_done hcl 2 c p hr h1.1.2)
  ·have hm : i ∈ fl := by simpa using h
   exact hc (anc_done hcl 2 i c hr ((okFs_mem h4 i hm).2.1 c rfl))
  ·exact rest_not hcl hr gs (F ++ fl) c h5 hc (fun g hg' => hg g (.tail _ hg')) h
def restU (L : Array Bool) (gs : List (Nat × List Nat)) : Prop := ∀ i, inG gs i = true → ¬ done L i
theorem tail3_any {ops : Array Oper} {al : List AOper} (hd : Draw C P n ops al 0) {K : Env → Rows → Prop} {Q' : Exit → Act → World → Prop} {ρ0 : Pl} {T0 : Nat → Prop} {rows0 : Rows} {w0 : World}
  (hK : ∀ env' rows' ρ' T' a' w', K env' rows' → Sim n ρ' T' env' rows' a' w' → Step ρ0 T0 rows0 w0 ρ' T' rows' w' → Q' .normal a' w') :
  ∀ (fuel : Nat) (gs : List (Nat × List Nat)) (F Pd : List Nat) (prev : Option Nat) (L : Array Bool) (env : Env) (rows : Rows) (ρ : Pl) (T : Nat → Prop) (a : Act) (w : World), (∀ j ∈ F, ¬ done L j → j ∈ Pd) → undone L ops.size ≤ fuel → L.size = ops.size →
   okG ops.toList al prev F gs = true → (∀ i, i < ops.size → i ∈ F ∨ done L i ∨ inG gs i = true) → (∀ c, prev = some c → done L c) → restU L gs →
   (∀ i ∈ F, fOK ops.toList al i = true ∧ ∀ x, al[i]? = some x → ∀ t ∈ uses x, ∀ j, j < ops.size → dstOf al j = some t → dep ops.toList i j = true) → (∀ i ∈ F, ∀ j ∈ F, i ≠ j → dstOf al i ≠ dstOf al j) →
   (∀ i, done L i → ∀ j, dep ops.toList i j = true → done L j) → (∀ j, j ∈ F → ¬ done L j → ∃ y t, al[j]? = some y ∧ y.dst = some t ∧ stabF1 C.quiet env rows y.op t) → FInv al F L rows0.length env rows ρ →
   aopsF C (tailF ops.toList al Pd gs) env rows K → Sim n ρ T (hidF al F L env) rows a w → GlobOK C w T → Step ρ0 T0 rows0 w0 ρ T rows w → wpAny P .any ops Q' fuel L a w := by
 obtain ⟨hlen, hget⟩ := hd.get
 intro fuel
 have fin : ∀ (gs : List (Nat × List Nat)) (F Pd : List Nat) (L : Array Bool) (env : Env) (rows : Rows) (ρ : Pl) (T : Nat → Prop) (a : Act) (w : World), restU L gs → (∀ j ∈ F, j < ops.size) → (∀ g ∈ gs, g.1 < ops.size) → (∀ j, j < ops.size → done L j) → aopsF C (tailF ops.toList al Pd gs) env rows K → Sim n ρ T (hidF al F L env) rows a w → Step ρ0 T0 rows0 w0 ρ T rows w → Q' .normal a w := by
  intro gs F Pd L env rows ρ T a w hru hF hG hall h hs hst
  cases gs with
  | cons g gs =>
   exfalso
   exact hru g.1 (by simp [inG]) (hall g.1 (hG g (.head _)))
  | nil => exact hK env rows ρ T a w h (hs.ext fun t d hl => by rw [look_hidF (fun j hj hn => absurd (hall j (hF j hj)) hn)]; exact hl) hst
 have hmin : ∀ (L : Array Bool), L.size = ops.size → (∃ j, j < ops.size ∧ ¬ done L j) → ∃ j, j ∈ Region.ready .any ops L := by
  intro L hsz ⟨j, hj, hn⟩
  have key : ∀ q, (∀ j, j < q → done L j) ∨ ∃ j, j < q ∧ ¬ done L j ∧ ∀ j', j' < j → done L j' := by
   intro q
   induction q with
   | zero => left; intro j hj; omega
   | succ q ih =>
    rcases ih with h1 | ⟨j, q1, q2, q3⟩
    ·by_cases hq : done L q
     ·left; intro j hj
      rcases Nat.lt_or_ge j q with h2 | h2
      ·exact h1 j h2
      ·have : j = q := by omega
       subst this; exact hq
     ·exact .inr ⟨q, by omega, hq, h1⟩
    ·exact .inr ⟨j, by omega, q2, q3⟩
  rcases key ops.size with h1 | ⟨j', q1, q2, q3⟩
  ·exact absurd (h1 j hj) hn
  ·exact ⟨j', ready_mk q1 (notdone' q2 (by omega)) (fun j'' hj'' => q3 j'' (hd.ok.back j' j'' hj''))⟩
 have alldone : ∀ (L : Array Bool), L.size = ops.size → Region.ready .any ops L = [] → ∀ j, j < ops.size → done L j := by
  intro L hsz hr j hj
  refine Classical.byContradiction fun hn => ?_
  obtain ⟨i, hi⟩ := hmin L hsz ⟨j, hj, hn⟩
  rw [hr] at hi
  cases hi
 have ltF : ∀ (F : List Nat), (∀ i ∈ F, fOK ops.toList al i = true ∧ ∀ x, al[i]? = some x → ∀ t ∈ uses x, ∀ j, j < ops.size → dstOf al j = some t → dep ops.toList i j = true) → ∀ j ∈ F, j < ops.size := by
  intro F h j hj
  obtain ⟨o, _, _, ho, _⟩ := fOK_spec (h j hj).1
  have := lt_of_get ho
  simpa using this
 have ltG : ∀ (gs : List (Nat × List Nat)) (F : List Nat) (prev : Option Nat), okG ops.toList al prev F gs = true → ∀ g ∈ gs, g.1 < ops.size := by
  intro gs
  induction gs with
  | nil => intro F prev _ g hg; simp at hg
  | cons g gs ih =>
   obtain ⟨c, fl⟩ := g
   intro F prev hok g hg
   simp only [okG, Bool.and_eq_true] at hok
   obtain ⟨⟨⟨⟨h1, h2⟩, h3⟩, h4⟩, h5⟩ := hok
   rcases List.mem_cons.1 hg with rfl | hg
   ·simp only [okC, Bool.and_eq_true] at h1
    have h6 := h1.2
    split at h6
    ·rename_i x hx
     have := lt_of_get hx
     show c < ops.size
     omega
    ·cases h6
   ·exact ih (F ++ fl) (some c) h5 g hg
 induction fuel with
 | zero =>
  intro gs F Pd prev L env rows ρ T a w hPd hf hsz hok hcov hprev hru hFs hFd hcl hob hI h hs hg hst
  have hall : ∀ j, j < ops.size → done L j := by
   intro j hj
   refine Classical.byContradiction fun hn => ?_
   have := undone_set hj (by omega) (notdone' hn (by omega))
   omega
  refine ⟨?_, fin gs F Pd L env rows ρ T a w hru (ltF F hFs) (ltG gs F prev hok) hall h hs hst⟩
  cases hr : Region.ready .any ops L with
  | nil => rfl
  | cons i l =>
   exfalso
   obtain ⟨⟨o, ho⟩, h1, _⟩ := ready_spec (L := L) (ops := ops) (i := i) (by rw [hr]; simp)
   exact (notdone h1).1 (hall i (Array.getElem?_eq_some_iff.1 ho).1)
 | succ fuel ih =>
  intro gs F Pd prev L env rows ρ T a w hPd hf hsz hok hcov hprev hru hFs hFd hcl hob hI h hs hg hst
  refine ⟨fun hr => ?_, fun i hi => ?_⟩
  ·exact fin gs F Pd L env rows ρ T a w hru (ltF F hFs) (ltG gs F prev hok) (alldone L hsz hr) h hs hst
  ·obtain ⟨⟨o', ho'⟩, h1, h2⟩ := ready_spec hi
   have hil : i < ops.size := (Array.getElem?_eq_some_iff.1 ho').1
   obtain ⟨hnd, hiL⟩ := notdone h1
   obtain ⟨o, x, ho, hx, q1, q2, q3, q4⟩ := hget i hil
   have hunf : undone (L.setIfInBounds i true) ops.size ≤ fuel := by have := undone_set hil hiL h1; omega
   have hcl' : ∀ i', done (L.setIfInBounds i true) i' → ∀ j, dep ops.toList i' j = true → done (L.setIfInBounds i true) j := by
    intro i' hi' j hj
    refine (done_set hiL).2 (.inl ?_)
    rcases (done_set hiL).1 hi' with h3 | h3
    ·exact hcl i' h3 j hj
    ·subst h3; exact h2 j hj
   have hund : ∀ j, ¬ done (L.setIfInBounds i true) j → ¬ done L j := fun j hn hdn => hn ((done_set hiL).2 (.inl hdn))
   by_cases hiF : i ∈ F
   · -- it comes when it will
    obtain ⟨y, t, hy, hyt, hya⟩ := hob i hiF hnd
    rw [hx] at hy
    cases hy
    obtain ⟨o2, x2, t2, ho2, hx2, hfa, hqo, hgn, _⟩ := fOK_spec (hFs i hiF).1
    have ho2' : ops[i]? = some o2 := by simpa using ho2
    rw [ho] at ho2'
    cases ho2'
    rw [hx] at hx2
    cases hx2
    have hti : dstOf al i = some t := by simp [dstOf, hx, hyt]
    have hev : ∀ t', t' ∈ uses x → look (hidF al F L env) t' = look env t' := fun t' ht' => look_hidF fun j hj hn he => hn (h2 j ((hFs i hiF).2 x hx t' ht' j (ltF F hFs j hj) he))
    have hru' : restU (L.setIfInBounds i true) gs := by
     intro j hj hdn
     rcases (done_set hiL).1 hdn with h5 | h5
     ·exact hru j hj h5
     ·subst h5
      exact absurd hnd (by
       intro _
       exact hru j hj |> fun hh => by
        -- i lies in F and among the rest
        have : inG gs j = true := hj
        exact absurd hiF (by
         have key : ∀ (gs : List (Nat × List Nat)) (F : List Nat) (prev : Option Nat), okG ops.toList al prev F gs = true → inG gs j = true → j ∉ F := by
          intro gs
          induction gs with
          | nil => intro F prev _ hh; simp [inG] at hh
          | cons g gs ihg =>
           obtain ⟨c, fl⟩ := g
           intro F prev hok hh
           simp only [okG, Bool.and_eq_true] at hok
           obtain ⟨⟨⟨⟨k1, k2⟩, k3⟩, k4⟩, k5⟩ := hok
           simp only [inG, List.any_cons, Bool.or_eq_true] at hh
           rcases hh with (hh | hh) | hh
           ·have : c = j := by simpa using hh
            subst this
            simp only [okC, Bool.and_eq_true] at k1
            simpa using k1.1.1
           ·have hm : j ∈ fl := by simpa using hh
            have fresh : ∀ (fl F : List Nat), okFs ops.toList al (some c) F fl = true → j ∈ fl → j ∉ F := by
             intro fl
             induction fl with
             | nil => intro F _ hm; simp at hm
             | cons q fl ihf =>
              intro F hk hm
              simp only [okFs, Bool.and_eq_true] at hk
              rcases List.mem_cons.1 hm with rfl | hm
              ·exact (okF1_spec hk.1).2.1
              ·exact fun hF => ihf (F ++ [q]) hk.2 hm (List.mem_append_left _ hF)
            exact fresh fl F k4 hm
           ·exact fun hF => ihg (F ++ fl) (some c) k5 hh (List.mem_append_left _ hF)
         exact key gs F prev hok this))
    have hcov' : ∀ j, j < ops.size → j ∈ F ∨ done (L.setIfInBounds i true) j ∨ inG gs j = true := fun j hj => (hcov j hj).imp_right (fun h5 => h5.imp_left (fun h6 => (done_set hiL).2 (.inl h6)))
    have hprev' : ∀ c, prev = some c → done (L.setIfInBounds i true) c := fun c hc => (done_set hiL).2 (.inl (hprev c hc))
    have hob' : ∀ j, j ∈ F → ¬ done (L.setIfInBounds i true) j → ∃ y t, al[j]? = some y ∧ y.dst = some t ∧ stabF1 C.quiet env rows y.op t := fun j hj hn => hob j hj (hund j hn)
    have hsim : ∀ (ρ' : Pl) (T' : Nat → Prop) (v : Value) (w' : World) (d : D), look env t = some d → Sim n ρ' T' (hidF al F L env) rows a w' → VR ρ' w' T' d v → Sim n ρ' T' (hidF al F (L.setIfInBounds i true) env) rows (a.put o.dst v) w' := by
     intro ρ' T' v w' d hld hs' hv
     have hs2 := hs'.put hv (dst := o.dst) (cDst_lt q1)
     rw [← q4, hyt] at hs2 ⊢
     refine hs2.ext fun t' d' hl => ?_
     obtain ⟨h5, h6⟩ := look_hidF_some hl
     simp only [put, look]
     cases htt : (t == t') with
     | true =>
      have : t = t' := by simpa using htt
      subst this
      rw [hld] at h5
      simpa using h5
     | false =>
      have hne : t ≠ t' := by simpa using htt
      simp only [cond_false]
      rw [look_hidF fun j hj hn he => ?_]
      ·exact h5
      ·by_cases hji : j = i
       ·subst hji
        rw [hti] at he
        exact hne (Option.some.inj he)
       ·exact h6 j hj (fun hdn => (done_set hiL).1 hdn |>.elim (fun h7 => hn h7) (fun h7 => hji h7)) he
    have hxs : ∀ y ∈ x.op.xs, ev C.quiet (hidF al F L env) y = ev C.quiet env y := by
     intro y hy
     cases y with
     | tmp t' => exact hev t' (List.mem_append_left _ (mem_xslots hy))
     | const _ => rfl
     | glob _ => rfl
    cases hm : makesA x.op with
    | true =>
     obtain ⟨d, r0, d0, row, hld, hhole, M⟩ := mk_of hm hfa hxs hya
     obtain ⟨r, g1, g2, g3, g4⟩ := hI.hole i hiF hnd x t hx hyt hm
     rw [hhole] at g1
     cases g1
     unfold wpOp
     simp only [ho]
     have hgo : o.guard = none := by
      cases hgo : o.guard with
      | none => rfl
      | some jw =>
       rw [hgo] at q3
       obtain ⟨j, want⟩ := jw
       simp only [cGuard] at q3
       split at q3
       ·split at q3
        ·rw [hgn] at q3; cases q3
        ·cases q3
       ·cases q3
     have hwt : Region.wanted o (yielded ops a.tmps) = true := by simp [Region.wanted, hgo]
     rw [if_pos hwt]
     refine .inl (late_make (C := C.quiet) (fun _ => rfl) hd.ctx.quiet q2 hqo hs hg M g4 g2 hst ?_)
     intro ρ' T' v w' hs' hv hst' hg' hρ
     refine ih gs F Pd prev _ env rows ρ' T' _ w' (fun j hj hn => hPd j hj (hund j hn)) hunf (by simpa using hsz) hok hcov' hprev' hru' hFs hFd hcl' hob' ⟨fun j hj hnj x1 t1 hx1 ht1 hm1 => ?_, fun j j' hj hj' hnj hnj' => hI.dist j j' hj hj' (hund j hnj) (hund j' hnj')⟩ h (hsim ρ' T' v w' d hld hs' hv) hg' hst'
     obtain ⟨r1, p1, p2, p3, p4⟩ := hI.hole j hj (hund j hnj) x1 t1 hx1 ht1 hm1
     have hji : j ≠ i := fun e => hnj ((done_set hiL).2 (.inr e))
     have hne : r1 ≠ r0 := fun e => by
      have := hI.dist j i hj hiF (hund j hnj) hnd hji x1 t1 x t hx1 ht1 hm1 hx hyt hm
      rw [p1, hhole, e] at this
      exact this rfl
     exact ⟨r1, p1, p2, p3, by rw [hρ r1 hne]; exact p4⟩
    | false =>
     have hya := stabF1_plain hm hya
     have hst1 : aops C.quiet [x] env rows (fun env' rows' => env' = put x.dst ((look env t).getD default) env ∧ look env t = some ((look env t).getD default) ∧ rows' = rows) := by
      obtain ⟨dst, op, g⟩ := x
      simp only at hgn hyt
      subst hgn
      subst hyt
      show aop C.quiet env rows op _
      have e : (fun d rows' => aops C.quiet [] (put (some t) d env) rows' fun env' rows' => env' = put (some t) ((look env t).getD default) env ∧ look env t = some ((look env t).getD default) ∧ rows' = rows) = stab1 env rows (some t) := by
       funext d r
       simp only [aops, stab1, put]
       apply propext
       constructor
       ·rintro ⟨e1, e2, e3⟩
        cases e1
        exact ⟨e2, e3⟩
       ·rintro ⟨e1, e2⟩
        rw [e1]
        exact ⟨rfl, rfl, e2⟩
      rw [e]
      exact hya
     refine op_step (C := C.quiet) hd.ctx.quiet ho q1 q2 q3 q4 hs hg (aops1_KH hev hst1) ?_
     intro env' rows' ρ' T' a' w' h' hs' hst'
     rw [hyt] at h'
     obtain ⟨d, rfl, h3, h4, rfl⟩ := h'
     have hld : look env t = some d := by
      simp only [put, hyt] at h3
      cases h3
      exact h4
     refine ih gs F Pd prev _ env rows' ρ' T' a' w' (fun j hj hn => hPd j hj (hund j hn)) hunf (by simpa using hsz) hok hcov' hprev' hru' hFs hFd hcl' hob' ⟨fun j hj hnj x1 t1 hx1 ht1 hm1 => ?_, fun j j' hj hj' hnj hnj' => hI.dist j j' hj hj' (hund j hnj) (hund j' hnj')⟩ h
      (hs'.ext fun t' d' hl => ?_) (hg.step hs hst') (hst.trans hst')
     ·obtain ⟨r1, p1, p2, p3, p4⟩ := hI.hole j hj (hund j hnj) x1 t1 hx1 ht1 hm1
      exact ⟨r1, p1, p2, p3, by rw [hst'.same r1 p3]; exact p4⟩
     ·obtain ⟨h5, h6⟩ := look_hidF_some hl
      simp only [look]
      cases htt : (t == t') with
      | true =>
       have : t = t' := by simpa using htt
       subst this
       rw [hld] at h5
       simpa using h5
      | false =>
       have hne : t ≠ t' := by simpa using htt
       simp only [cond_false]
       rw [look_hidF fun j hj hn he => ?_]
       ·exact h5
       ·by_cases hji : j = i
        ·subst hji
         rw [hti] at he
         exact hne (Option.some.inj he)
        ·exact h6 j hj (fun hdn => (done_set hiL).1 hdn |>.elim (fun h7 => hn h7) (fun h7 => hji h7)) he
   · -- the next one of the text's order
    have hin : inG gs i = true := by
     rcases hcov i hil with h3 | h3 | h3
     ·exact absurd h3 hiF
     ·exact absurd h3 hnd
     ·exact h3
    cases gs with
    | nil => simp [inG] at hin
    | cons g gs =>
     obtain ⟨c, fl⟩ := g
     have hok0 := hok
     simp only [okG, Bool.and_eq_true] at hok
     obtain ⟨⟨⟨⟨k1, k2⟩, k3⟩, k4⟩, k5⟩ := hok
     have hcU : ¬ done L c := hru c (by simp [inG])
     have hie : i = c := by
      simp only [inG, List.any_cons, Bool.or_eq_true] at hin
      rcases hin with (hh | hh) | hh
      ·have : c = i := by simpa using hh
       exact this.symm
      ·have hm : i ∈ fl := by simpa using hh
       exact absurd (anc_done hcl 2 i c h2 ((okFs_mem k4 i hm).2.1 c rfl)) hcU
      ·exact (rest_not hcl h2 gs (F ++ fl) c k5 hcU (fun g hg' => hru g.1 (by
        simp only [inG, List.any_cons, Bool.or_eq_true]
        exact .inr (List.any_eq_true.2 ⟨g, hg', by simp⟩))) hh).elim
     subst hie
     simp only [tailF, hx] at h
     simp only [okC, Bool.and_eq_true, hx] at k1
     obtain ⟨⟨_, _⟩, k6⟩ := k1
     have hnotd : ∀ j, j ∈ F → ¬ done L j → j ∈ dlyF ops.toList Pd i ∧ ∃ t, dstOf al j = some t ∧ x.dst ≠ some t ∧ t ∉ uses x := by
      intro j hj hn
      have hna : anc ops.toList 2 i j = false := by
       cases hb : anc ops.toList 2 i j with
       | false => rfl
       | true => exact absurd (anc_done hcl 2 i j h2 hb) hn
      refine ⟨by simp [dlyF, hPd j hj hn, hna], ?_⟩
      have := List.all_eq_true.1 k6 j hj
      rw [hna, Bool.false_or] at this
      split at this
      ·rename_i t ht
       simp only [Bool.and_eq_true] at this
       exact ⟨t, ht, by simpa using this.1, by simpa using this.2⟩
      ·cases this
     have hev : ∀ t', t' ∈ uses x → look (hidF al F L env) t' = look env t' := fun t' ht' => look_hidF fun j hj hn he => by
      obtain ⟨_, t, ht, _, hyu⟩ := hnotd j hj hn
      rw [ht] at he
      cases he
      exact hyu ht'
     refine op_step hd.ctx ho q1 q2 q3 q4 hs hg (aops1_KH hev h) ?_
     intro env' rows' ρ' T' a' w' h' hs' hst'
     have hund' : ∀ j, j ∈ F → ¬ done L j → ¬ done (L.setIfInBounds i true) j := fun j hj hn hdn => (done_set hiL).1 hdn |>.elim (fun h7 => hn h7) (fun h7 => hiF (h7 ▸ hj))
     have hslot : ∀ j, j ∈ F → ¬ done L j → ∀ t, dstOf al j = some t → x.dst ≠ some t := by
      intro j hj hn t ht
      obtain ⟨_, t', ht', hne, _⟩ := hnotd j hj hn
      rw [ht] at ht'
      cases ht'
      exact hne
     obtain ⟨env2, hs2, hlk2, hrest⟩ : ∃ env2, Sim n ρ' T' (hidF al F (L.setIfInBounds i true) env2) rows' a' w' ∧ (∀ t, x.dst ≠ some t → look env2 t = look env t) ∧ aops C.quiet (atL al fl) env2 rows' (fun env rows => stabsF C.quiet env rows (atL al (dlyF ops.toList Pd i ++ fl)) ∧ aopsF C (tailF ops.toList al (dlyF ops.toList Pd i ++ fl) gs) env rows K) := by
      simp only [aops, KH] at h'
      cases hxd : x.dst with
      | none =>
       rw [hxd] at h'
       obtain ⟨rfl, h3⟩ := h'
       refine ⟨env, hs'.ext fun t' d' hl => ?_, fun t _ => rfl, h3⟩
       obtain ⟨h5, h6⟩ := look_hidF_some hl
       rw [look_hidF fun j hj hn => h6 j hj (hund' j hj hn)]
       exact h5
      | some t =>
       rw [hxd] at h'
       obtain ⟨d, rfl, h3⟩ := h'
       refine ⟨(t, d) :: env, hs'.ext fun t' d' hl => ?_, fun t' ht' => ?_, h3⟩
       ·obtain ⟨h5, h6⟩ := look_hidF_some hl
        simp only [look] at h5 ⊢
        cases htt : (t == t') with
        | true => rw [htt] at h5; exact h5
        | false =>
         rw [htt] at h5
         simp only [cond_false] at h5 ⊢
         rw [look_hidF fun j hj hn => h6 j hj (hund' j hj hn)]
         exact h5
       ·have : (t == t') = false := by
         have : t ≠ t' := fun e => ht' (by rw [e])
         simpa using this
        simp [look, this]
     have hI2 : FInv al F (L.setIfInBounds i true) rows0.length env2 rows' ρ' := by
      have hh : ∀ j, j ∈ F → ¬ done L j → ∀ t, dstOf al j = some t → holeOf env2 t = holeOf env t := by
       intro j hj hn t ht
       unfold holeOf
       rw [hlk2 t (hslot j hj hn t ht)]
      refine ⟨fun j hj hnj x1 t1 hx1 ht1 hm1 => ?_, fun j j' hj hj' hnj hnj' hne x1 t1 x2 t2 hx1 ht1 hm1 hx2 ht2 hm2 => ?_⟩
      ·obtain ⟨r1, p1, p2, p3, p4⟩ := hI.hole j hj (hund j hnj) x1 t1 hx1 ht1 hm1
       exact ⟨r1, by rw [hh j hj (hund j hnj) t1 (by simp [dstOf, hx1, ht1])]; exact p1, p2, Nat.lt_of_lt_of_le p3 hst'.len, by rw [hst'.same r1 p3]; exact p4⟩
      ·rw [hh j hj (hund j hnj) t1 (by simp [dstOf, hx1, ht1]), hh j' hj' (hund j' hnj') t2 (by simp [dstOf, hx2, ht2])]
       exact hI.dist j j' hj hj' (hund j hnj) (hund j' hnj') hne x1 t1 x2 t2 hx1 ht1 hm1 hx2 ht2 hm2
     have hflU : ∀ j ∈ fl, ¬ done (L.setIfInBounds i true) j := by
      intro j hj hdn
      rcases (done_set hiL).1 hdn with h5 | h5
      ·exact hru j (by simp only [inG, List.any_cons, Bool.or_eq_true]; exact .inl (.inr (by simpa using hj))) h5
      ·subst h5
       simp only [List.contains_eq_mem, decide_eq_true_eq, Bool.not_eq_true', decide_eq_false_iff_not] at k3
       exact k3 hj
     have hlen0 : rows0.length ≤ rows'.length := Nat.le_trans hst.len hst'.len
     obtain ⟨env3, rows3, ⟨hstab, htl⟩, hI3, hs3, new, hnew⟩ := intro_fs (C := C.quiet) (fun _ => rfl) fl F env2 rows' k4 hrest hflU hI2 hlen0 hs2
     have hstep3 : Step ρ0 T0 rows0 w0 ρ' T' rows3 w' := by
      have h0 := hst.trans hst'
      have hlow : ∀ r Lc, ρ' r = some Lc → r < rows'.length := by
       intro r Lc hr
       rcases Nat.lt_or_ge r rows'.length with h1 | h1
       ·exact h1
       ·rw [hs'.dom r h1] at hr; cases hr
      refine ⟨h0.pl, h0.tt, h0.tnew, h0.size, h0.keep, fun r row Lc p1 p2 => ?_, h0.os, h0.tape, h0.output, by rw [hnew, List.length_append]; have := h0.len; omega, h0.same⟩
      rw [live_prefix hnew (hlow r Lc p2)] at p1
      exact h0.fresh r row Lc p1 p2
     refine ih gs (F ++ fl) (dlyF ops.toList Pd i ++ fl) (some i) _ env3 rows3 ρ' T' a' w' (fun j hj hn => ?_) hunf (by simpa using hsz) k5 (fun j hj => ?_) (fun c hc => by cases hc; exact (done_set hiL).2 (.inr rfl)) (fun j hj hdn => ?_) (fun j hj => ?_) (fun j hj j' hj' hne => ?_) hcl' (fun j hj hn => ?_) hI3 htl hs3 (hg.step hs hst') hstep3
     ·rcases List.mem_append.1 hj with hj | hj
      ·exact List.mem_append_left _ (hnotd j hj (hund j hn)).1
      ·exact List.mem_append_right _ hj
     ·rcases hcov j hj with h5 | h5 | h5
      ·exact .inl (List.mem_append_left _ h5)
      ·exact .inr (.inl ((done_set hiL).2 (.inl h5)))
      ·simp only [inG, List.any_cons, Bool.or_eq_true] at h5
       rcases h5 with (h5 | h5) | h5
       ·exact .inr (.inl ((done_set hiL).2 (.inr (by simpa using (Eq.symm (by simpa using h5))))))
       ·exact .inl (List.mem_append_right _ (by simpa using h5))
       ·exact .inr (.inr h5)
     ·have hj0 : inG ((i, fl) :: gs) j = true := by simp only [inG, List.any_cons, Bool.or_eq_true]; exact .inr hj
      rcases (done_set hiL).1 hdn with h5 | h5
      ·exact hru j hj0 h5
      ·subst h5
       obtain ⟨g, hg1, hg2⟩ := List.any_eq_true.1 hj
       simp only [Bool.or_eq_true] at hg2
       rcases hg2 with hg2 | hg2
       ·have := List.all_eq_true.1 k2 g hg1
        simp only [bne, Bool.not_eq_true'] at this
        rw [this] at hg2
        cases hg2
       · -- it would come when it will behind a later one
        have hm : j ∈ g.2 := by simpa using hg2
        have key : ∀ (gs : List (Nat × List Nat)) (F : List Nat) (prev : Option Nat), okG ops.toList al prev F gs = true → ∀ g ∈ gs, j ∈ g.2 → anc ops.toList 2 j g.1 = true := by
         intro gs
         induction gs with
         | nil => intro F prev _ g hg; simp at hg
         | cons g0 gs ihg =>
          obtain ⟨c0, fl0⟩ := g0
          intro F prev hok g hg hm
          simp only [okG, Bool.and_eq_true] at hok
          obtain ⟨⟨⟨⟨r1, r2⟩, r3⟩, r4⟩, r5⟩ := hok
          rcases List.mem_cons.1 hg with rfl | hg
          ·exact (okFs_mem r4 j hm).2.1 c0 rfl
          ·exact ihg (F ++ fl0) (some c0) r5 g hg hm
        have han := key gs (F ++ fl) (some j) k5 g hg1 hm
        exact hru g.1 (by
         simp only [inG, List.any_cons, Bool.or_eq_true]
         exact .inr (List.any_eq_true.2 ⟨g, hg1, by simp⟩)) (anc_done hcl 2 j g.1 h2 han)
     ·rcases List.mem_append.1 hj with hj | hj
      ·exact hFs j hj
      ·obtain ⟨r1, _, r3⟩ := okFs_mem k4 j hj
       exact ⟨r1, fun x' hx' t ht j' hj' => r3 x' hx' t ht j' (by simpa using hj')⟩
     ·have uq : ∀ (fl F : List Nat), okFs ops.toList al (some i) F fl = true → (∀ p ∈ F, ∀ q ∈ F, p ≠ q → dstOf al p ≠ dstOf al q) → ∀ p ∈ F ++ fl, ∀ q ∈ F ++ fl, p ≠ q → dstOf al p ≠ dstOf al q := by
       intro fl
       induction fl with
       | nil => intro F _ hF p hp q hq; simp at hp hq; exact hF p hp q hq
       | cons e fl ihf =>
        intro F hk hF p hp q hq
        simp only [okFs, Bool.and_eq_true] at hk
        obtain ⟨_, _, u3, _, _⟩ := okF1_spec hk.1
        refine ihf (F ++ [e]) hk.2 (fun p hp q hq hne => ?_) p (by simpa using hp) q (by simpa using hq)
        rcases List.mem_append.1 hp with hp | hp <;> rcases List.mem_append.1 hq with hq | hq
        ·exact hF p hp q hq hne
        ·rw [List.mem_singleton.1 hq]; exact u3 p hp
        ·rw [List.mem_singleton.1 hp]; exact (u3 q hq).symm
        ·exact absurd ((List.mem_singleton.1 hp).trans (List.mem_singleton.1 hq).symm) hne
      exact uq fl F k4 hFd j hj j' hj' hne
     ·have hmem : ∃ y, al[j]? = some y := by
       rcases List.mem_append.1 hj with hj | hj
       ·obtain ⟨_, y, _, _, hy, _⟩ := fOK_spec (hFs j hj).1
        exact ⟨y, hy⟩
       ·obtain ⟨_, y, _, _, hy, _⟩ := fOK_spec (okFs_mem k4 j hj).1
        exact ⟨y, hy⟩
      obtain ⟨y, hy⟩ := hmem
      have hin2 : y ∈ atL al (dlyF ops.toList Pd i ++ fl) := by
       refine List.mem_filterMap.2 ⟨j, ?_, hy⟩
       rcases List.mem_append.1 hj with hj | hj
       ·exact List.mem_append_left _ (hnotd j hj (hund j hn)).1
       ·exact List.mem_append_right _ hj
      obtain ⟨t, ht, hstb⟩ := stabsF_mem hstab hin2
      exact ⟨y, t, hy, ht, hstb⟩
theorem draw3_sound (hC : CtxOK C P) (hP : P.follows .mixedOrders = true) {id : Nat} {ops : Array Oper} {al : List AOper} {f0 : List Nat} {gs : List (Nat × List Nat)} (hc : cOps P n ops.toList ops.toList = some al) (hd : dOK3 ops.toList al f0 gs = true)
  {env : Env} {rows : Rows} {ρ : Pl} {T : Nat → Prop} {a : Act} {w : World} {Q : AExit → Env → Rows → Prop} {Q' : Exit → Act → World → Prop}
  (h : aops C.quiet (atL al f0) env rows fun env rows => stabsF C.quiet env rows (atL al f0) ∧ aopsF C (tailF ops.toList al f0 gs) env rows (Q .normal)) (hs : Sim n ρ T env rows a w) (hg : GlobOK C w T)
  (hp : Post n ρ T rows w Q Q') : (Code.region id ops true).wp P Q' a w := by
 simp only [dOK3, Bool.and_eq_true] at hd
 obtain ⟨⟨⟨d1, d2⟩, d3⟩, d4⟩ := hd
 have hok0 : DOK0 ops.toList al 0 := dOK0_spec (by simp [Nat.ble]) d1 (by simp)
 have hD : Draw C P n ops al 0 := ⟨hok0, hc, hC⟩
 have hw1 : Sim n ρ T env rows a { w with drawn := w.drawn + 1 } := hs.heap rfl
 have hg1 : GlobOK C { w with drawn := w.drawn + 1 } T := hg.keep (fun _ _ => rfl) (fun _ h => h)
 have hLf : ∀ j, ¬ done (Array.replicate ops.size false) j := by
  intro j hj
  unfold done at hj
  simp [Array.getD] at hj
 have hs0 : Sim n ρ T (hidF al [] (Array.replicate ops.size false) env) rows a { w with drawn := w.drawn + 1 } := hw1.ext fun t d hl => (look_hidF_some hl).1
 obtain ⟨env3, rows3, ⟨hstab, htl⟩, hI3, hs3, new, hnew⟩ := intro_fs (C := C.quiet) (L := Array.replicate ops.size false) (b0 := rows.length) (fun _ => rfl) f0 [] env rows d3 h (fun j _ => hLf j) ⟨fun j hj => by simp at hj, fun j j' hj => by simp at hj⟩ (Nat.le_refl _) hs0
 rw [List.nil_append] at hI3 hs3
 refine wp_region_any hP (tail3_any hD (ρ0 := ρ) (T0 := T) (rows0 := rows) (w0 := { w with drawn := w.drawn + 1 }) (K := Q .normal) ?_ ops.size gs f0 f0 none _ env3 rows3 ρ T a _ (fun j hj _ => hj) ?_ (by simp) d4 (fun i hi => ?_) (fun c hc => by cases hc) (fun i _ => hLf i) (fun i hi => ?_) (fun i hi j hj hne => ?_) (fun i hi => absurd hi (hLf i)) (fun j hj _ => ?_) hI3 htl hs3 hg1 ?_)
 ·intro env' rows' ρ' T' a' w' hk hs' hst'
  exact hp .normal env' rows' ρ' T' a' w' hk hs' ⟨hst'.pl, hst'.tt, hst'.tnew, hst'.size, hst'.keep, hst'.fresh, hst'.os, hst'.tape, hst'.output, hst'.len, hst'.same⟩
 ·unfold undone
  exact Nat.le_trans (List.length_filter_le _ _) (by simp)
 ·have := List.all_eq_true.1 d2 i (by simpa using hi)
  rcases Bool.or_eq_true_iff.1 this with h1 | h1
  ·exact .inl (by simpa using h1)
  ·exact .inr (.inr h1)
 ·obtain ⟨r1, _, r3⟩ := okFs_mem d3 i hi
  exact ⟨r1, fun x' hx' t ht j' hj' => r3 x' hx' t ht j' (by simpa using hj')⟩
 ·have uq : ∀ (fl F : List Nat), okFs ops.toList al none F fl = true → (∀ p ∈ F, ∀ q ∈ F, p ≠ q → dstOf al p ≠ dstOf al q) → ∀ p ∈ F ++ fl, ∀ q ∈ F ++ fl, p ≠ q → dstOf al p ≠ dstOf al q := by
   intro fl
   induction fl with
   | nil => intro F _ hF p hp q hq; simp at hp hq; exact hF p hp q hq
   | cons e fl ihf =>
    intro F hk hF p hp q hq
    simp only [okFs, Bool.and_eq_true] at hk
    obtain ⟨_, _, u3, _, _⟩ := okF1_spec hk.1
    refine ihf (F ++ [e]) hk.2 (fun p hp q hq hne => ?_) p (by simpa using hp) q (by simpa using hq)
    rcases List.mem_append.1 hp with hp | hp <;> rcases List.mem_append.1 hq with hq | hq
    ·exact hF p hp q hq hne
    ·rw [List.mem_singleton.1 hq]; exact u3 p hp
    ·rw [List.mem_singleton.1 hp]; exact (u3 q hq).symm
    ·exact absurd ((List.mem_singleton.1 hp).trans (List.mem_singleton.1 hq).symm) hne
  exact uq f0 [] d3 (fun p hp => by simp at hp) i (by simpa using hi) j (by simpa using hj) hne
 ·obtain ⟨_, y, _, _, hy, _⟩ := fOK_spec (okFs_mem d3 j hj).1
  obtain ⟨t, ht, hstb⟩ := stabsF_mem hstab (List.mem_filterMap.2 ⟨j, hj, hy⟩)
  exact ⟨y, t, hy, ht, hstb⟩
 ·have h0 := Step.refl ρ T rows { w with drawn := w.drawn + 1 }
  have hlow : ∀ r Lc, ρ r = some Lc → r < rows.length := by
   intro r Lc hr
   rcases Nat.lt_or_ge r rows.length with h1 | h1
   ·exact h1
   ·rw [hs.dom r h1] at hr; cases hr
  refine ⟨h0.pl, h0.tt, h0.tnew, h0.size, h0.keep, fun r row Lc p1 p2 => ?_, h0.os, h0.tape, h0.output, by rw [hnew, List.length_append]; omega, h0.same⟩
  rw [live_prefix hnew (hlow r Lc p2)] at p1
  exact h0.fresh r row Lc p1 p2
end Go.Am
namespace Go.Am
set_option linter.unusedVariables false
set_option linter.unusedSimpArgs false
variable {C : Ctx} {P : Program} {n : Nat} {ρ : Pl} {T : Nat → Prop} {env : Env} {rows : Rows} {a : Act} {w : World}
theorem code_sound (hC : CtxOK C P) : ∀ (c : Code) (ac : ACode), comp P n c = some ac → ∀ (Q : AExit → Env → Rows → Prop) (Q' : Exit → Act → World → Prop) (env : Env) (rows : Rows) (ρ : Pl) (T : Nat → Prop) (a : Act) (w : World),
  aw C ac Q env rows → Sim n ρ T env rows a w → GlobOK C w T → Post n ρ T rows w Q Q' → c.wp P Q' a w := by
 intro c
 induction c with
 | skip =>
  intro ac hc Q Q' env rows ρ T a w h hs hg hp
  simp [comp] at hc; subst hc
  exact wp_skip (hp .normal env rows ρ T a w h hs (Step.refl _ _ _ _))
 | region id ops draw =>
  intro ac hc Q Q' env rows ρ T a w h hs hg hp
  simp only [comp] at hc
  split at hc
  ·rename_i al h1
   cases draw with
   | false =>
    simp only [Bool.not_false, cond_true] at hc
    cases hc
    refine wp_region ?_
    have := ops_sound hC ops (Q' := Q') ops.toList 0 (by simp) al h1 env rows ρ T a w (Q .normal) h hs hg (fun env' rows' ρ' T' a' w' hk hs' hst => hp .normal env' rows' ρ' T' a' w' hk hs' hst)
    rw [List.range_eq_range']
    simpa using this
   | true =>
    simp only [Bool.not_true, cond_false] at hc
    cases hdr : (P.follows .mixedOrders && drawOK ops.toList al) with
    | false =>
     rw [hdr] at hc
     simp only [cond_false] at hc
     cases hd2 : (P.follows .mixedOrders && dOK2 ops.toList al (mQ ops.toList al)) with
     | false =>
      rw [hd2] at hc
      simp only [cond_false] at hc
      cases hd3 : (P.follows .mixedOrders && dOK3 ops.toList al (plan ops.toList al).1 (plan ops.toList al).2) with
      | false => rw [hd3] at hc; cases hc; exact h.elim
      | true =>
       rw [hd3] at hc
       simp only [cond_true] at hc
       cases hc
       simp only [Bool.and_eq_true] at hd3
       exact draw3_sound hC hd3.1 h1 hd3.2 h hs hg hp
     | true =>
      rw [hd2] at hc
      simp only [cond_true] at hc
      cases hc
      simp only [Bool.and_eq_true] at hd2
      exact draw2_sound (C := C.quiet) (fun _ => rfl) hC.quiet hd2.1 h1 hd2.2 h hs hg hp
    | true =>
     rw [hdr] at hc
     simp only [cond_true] at hc
     cases hc
     simp only [Bool.and_eq_true] at hdr
     cases hm : leastM ops.toList al with
     | none =>
      have e : drawA ops.toList al = .region true al := by unfold drawA; rw [hm]
      rw [e] at h
      exact draw_sound (C := C.quiet) (fun _ => rfl) hC.quiet hdr.1 h1 hdr.2 h hs hg hp
     | some m =>
      cases hcl : callsA (al.drop m) with
      | false =>
       have e : drawA ops.toList al = .region true al := by unfold drawA; rw [hm]; simp only [hcl, cond_false]
       rw [e] at h
       exact draw_sound (C := C.quiet) (fun _ => rfl) hC.quiet hdr.1 h1 hdr.2 h hs hg hp
      | true =>
       have e : drawA ops.toList al = .draw1 (al.take m) (al.drop m) := by unfold drawA; rw [hm]; simp only [hcl, cond_true]
       rw [e] at h
       exact draw1_sound hC hdr.1 h1 (leastM_ok hm) h hs hg hp
  ·cases hc; exact h.elim
 | seq x y ihx ihy =>
  intro ac hc Q Q' env rows ρ T a w h hs hg hp
  obtain ⟨ax, h1, hc⟩ := o2_some hc
  obtain ⟨ay, h2, hc⟩ := o2_some hc
  cases hc
  refine wp_seq (ihx ax h1 _ _ env rows ρ T a w h hs hg ?_)
  intro e env' rows' ρ' T' a' w' hq hs' hst
  cases e with
  | normal => exact ihy ay h2 Q Q' env' rows' ρ' T' a' w' hq hs' (hg.step hs hst) (fun e2 env2 rows2 ρ2 T2 a2 w2 hq2 hs2 hst2 => hp e2 env2 rows2 ρ2 T2 a2 w2 hq2 hs2 (hst.trans hst2))
  | exit i => exact hp (.exit i) env' rows' ρ' T' a' w' hq hs' hst
  | ret => exact hp .ret env' rows' ρ' T' a' w' hq hs' hst
 | cond x p q ihp ihq =>
  intro ac hc Q Q' env rows ρ T a w h hs hg hp
  obtain ⟨x', h1, hc⟩ := o2_some hc
  obtain ⟨ap, h2, hc⟩ := o2_some hc
  obtain ⟨aq, h3, hc⟩ := o2_some hc
  cases hc
  obtain ⟨d, he, hk⟩ := bnd_some h
  split at hk
  ·rename_i t
   have hG : Glob C ρ w T := fun g d hd => (hg g d hd).mono (by intro r L h; cases h) (fun _ _ => rfl) (fun _ h => h)
   have hx := ev_raw h1 he hs hG
   refine wp_cond_split hx (fun ht => ?_) (fun ht => ?_)
   ·exact ihp ap h2 Q Q' env rows ρ T a w (hk.1 ht) hs hg hp
   ·exact ihq aq h3 Q Q' env rows ρ T a w (hk.2 ht) hs hg hp
  ·exact hk.elim
 | block id x ih =>
  intro ac hc Q Q' env rows ρ T a w h hs hg hp
  obtain ⟨ax, h1, hc⟩ := o2_some hc
  cases hc
  refine wp_block (ih ax h1 _ _ env rows ρ T a w h hs hg ?_)
  intro e env' rows' ρ' T' a' w' hq hs' hst
  cases e with
  | normal => exact hp .normal env' rows' ρ' T' a' w' hq hs' hst
  | exit i =>
   simp only [exitOf, Exit.inBlock]
   by_cases hi : i = id
   ·rw [if_pos hi]; exact hp .normal env' rows' ρ' T' a' w' (hq.1 hi) hs' hst
   ·rw [if_neg hi]; exact hp (.exit i) env' rows' ρ' T' a' w' (hq.2 hi) hs' hst
  | ret => exact hp .ret env' rows' ρ' T' a' w' hq hs' hst
 | loop x ih =>
  intro ac hc Q Q' env rows ρ T a w h hs hg hp
  obtain ⟨ax, h1, hc⟩ := o2_some hc
  cases hc
  obtain ⟨m, hm⟩ := h
  refine wp_loop_rounds m ?_
  induction m generalizing env rows ρ T a w with
  | zero => exact hm.elim
  | succ m ihm =>
   refine ih ax h1 _ _ env rows ρ T a w hm hs hg ?_
   intro e env' rows' ρ' T' a' w' hq hs' hst
   cases e with
   | normal => exact ihm env' rows' ρ' T' a' w' hs' (hg.step hs hst) (fun e2 env2 rows2 ρ2 T2 a2 w2 hq2 hs2 hst2 => hp e2 env2 rows2 ρ2 T2 a2 w2 hq2 hs2 (hst.trans hst2)) hq
   | exit i => exact hp (.exit i) env' rows' ρ' T' a' w' hq hs' hst
   | ret => exact hp .ret env' rows' ρ' T' a' w' hq hs' hst
 | exit id =>
  intro ac hc Q Q' env rows ρ T a w h hs hg hp
  simp [comp] at hc; subst hc
  exact wp_exit (hp (.exit id) env rows ρ T a w h hs (Step.refl _ _ _ _))
 | ret =>
  intro ac hc Q Q' env rows ρ T a w h hs hg hp
  simp [comp] at hc; subst hc
  exact wp_ret (hp .ret env rows ρ T a w h hs (Step.refl _ _ _ _))
 | _ => intro ac hc; cases hc; intro Q Q' env rows ρ T a w h; exact h.elim
inductive ARes where
 | tmp (t : Nat)
 | cell (t : Nat) (s : Sh)
 deriving Inhabited
def cRes (P : Program) : ResultVar → Option ARes
 | .tmp t => some (.tmp t)
 | .cell t ty => o2 (sh P ty) fun s => ifo (leafOk P ty s) (some (.cell t s))
def cRess (P : Program) : List ResultVar → Option (List ARes)
 | [] => some []
 | r :: l => o2 (cRes P r) fun a => o2 (cRess P l) fun b => some (a :: b)
def ares1 (env : Env) (rows : Rows) : ARes → Option D
 | .tmp t => match look env t with
  | some (.tup _) => none
  | d => d
 | .cell t s => match look env t with
  | some (.ptr s' r p) => bif s' == s then (match live rows r with
   | some row => rowGet row.els p
   | none => none) else none
  | _ => none
def ares (env : Env) (rows : Rows) : List ARes → Option (List D)
 | [] => some []
 | r :: l => match ares1 env rows r with
  | some d => match ares env rows l with
   | some ds => some (d :: ds)
   | none => none
  | none => none
def resOf : List D → D
 | [d] => d
 | l => .tup l
def zipEnv : Nat → List D → Env
 | _, [] => []
 | i, d :: l => (i, d) :: zipEnv (i + 1) l
theorem look_zip : ∀ (l : List D) (i t : Nat) (d : D), look (zipEnv i l) t = some d → i ≤ t ∧ l[t - i]? = some d
 | [], i, t, d, h => by simp [zipEnv, look] at h
 | x :: l, i, t, d, h => by
  simp only [zipEnv, look] at h
  cases hb : (i == t) with
  | true =>
   have : i = t := by simpa using hb
   subst this
   simp [hb] at h
   subst h
   simp
  | false =>
   simp [hb] at h
   have hne : i ≠ t := by simpa using hb
   obtain ⟨h1, h2⟩ := look_zip l (i + 1) t d h
   refine ⟨by omega, ?_⟩
   have : t - i = (t - (i + 1)) + 1 := by omega
   rw [this]
   simpa using h2
theorem res_sound (hs : Sim n ρ T env rows a w) : ∀ {l : List ResultVar} {l' : List ARes} {ds : List D}, cRess P l = some l' → ares env rows l' = some ds →
  ∃ vs : List Value, (l.mapM (fun r : ResultVar => (match r with | .tmp t => pure (a.tmps.getD t undef) | .cell x t => do loadVar t (← asAddr (a.tmps.getD x undef)) : Sem Value))).run P w = .ok vs w ∧ All2 (VR1 ρ w T) ds vs
 | [], l', ds, h1, h2 => by
  simp [cRess] at h1; subst h1
  simp [ares] at h2; subst h2
  exact ⟨[], by simp, .nil⟩
 | r :: l, l', ds, h1, h2 => by
  obtain ⟨r', g1, h1⟩ := o2_some h1
  obtain ⟨q, g2, h1⟩ := o2_some h1
  cases h1
  simp only [ares] at h2
  split at h2
  ·rename_i d hd
   split at h2
   ·rename_i ds' hds
    cases h2
    obtain ⟨vs, k1, k2⟩ := res_sound hs g2 hds
    have one : ∃ v, (match r with | .tmp t => pure (a.tmps.getD t undef) | .cell x t => do loadVar t (← asAddr (a.tmps.getD x undef)) : Sem Value).run P w = .ok v w ∧ VR1 ρ w T d v := by
     cases r with
     | tmp t =>
      simp [cRes] at g1
      subst g1
      simp only [ares1] at hd
      refine ⟨a.tmps.getD t undef, by simp, ?_⟩
      split at hd
      ·cases hd
      ·rename_i x hx
       have := hs.env t d hd
       cases d with
       | tup z => exact absurd hd (by intro h; exact hx z h)
       | _ => exact this
     | cell x t =>
      obtain ⟨s, g3, g1⟩ := o2_some g1
      obtain ⟨g4, g1⟩ := ifo_some g1
      cases g1
      simp only [ares1] at hd
      split at hd
      ·rename_i s' rr p hlk
       cases hss : (s' == s) with
       | false => rw [hss] at hd; simp at hd
       | true =>
        have hss' : s' = s := by simpa using hss
        subst hss'
        simp only [hss, cond_true] at hd
        split at hd
        ·rename_i row hl
         have hv := hs.env x _ hlk
         obtain ⟨b, o', cs, hx, m1, m2, m3⟩ := hs.rowsOK.readPtr (show LR ρ w T _ _ from hv) hl hd
         have hlen := m2.len
         rw [m1.len] at hlen
         refine ⟨ofCells s' cs, ?_, ?_⟩
         ·simp only [Sem.run_bind]
          rw [hx]
          simp [asAddr, run_loadVar_at g3 g4 m3 hlen.symm (leaf_one m1 m2)]
         ·have := VR.ofCells (ρ := ρ) (T := T) m1 m2
          unfold ofCells at this ⊢
          cases hag : s'.isAgg with
          | true => exact VR1.ofAgg m1 hag (by simpa using m2)
          | false =>
           have hlf := m1.leafOf hag
           rw [leaf_flat hlf] at m2
           have hl2 := m2.len
           match cs, hl2 with
           | [c], _ => exact VR1.ofLeaf m2.head
        ·cases hd
      ·cases hd
    obtain ⟨v, m1, m2⟩ := one
    refine ⟨v :: vs, ?_, .cons m2 k2⟩
    rw [List.mapM_cons]
    simp only [Sem.run_bind, m1, k1, Result.andThen_ok, Sem.run_pure]
   ·cases h2
  ·cases h2
def afun (C : Ctx) (np : Nat) (res : List ARes) (ac : ACode) : AFun := fun ds rows K =>
 ds.length = np ∧ aw C ac (fun e env rows' => (e = .normal ∨ e = .ret) ∧ bnd (ares env rows' res) fun l => K (resOf l) rows') (zipEnv 0 ds) rows
theorem fn_start {fn : Func} {ds : List D} {rows : Rows} {ρ : Pl} {w : World} {T : Nat → Prop} {args : Array Value} {np : Nat} (hnp : np ≤ fn.ntmps) (hlen : ds.length = np) (hrows : RowsOK ρ rows w T) (hdom : ∀ r, rows.length ≤ r → ρ r = none) (htlt : ∀ b, T b → b < w.heap.size)
  (hargs : All2 (VR ρ w T) ds args.toList) : Sim fn.ntmps ρ T (zipEnv 0 ds) rows { tmps := args ++ Array.replicate (fn.ntmps - args.size) undef, defers := [] } w := by
 have hal : args.size = np := by rw [← hlen]; simpa using hargs.len.symm
 refine ⟨hrows, fun t d hd => ?_, by simp; omega, htlt, hdom, rfl⟩
 obtain ⟨_, h2⟩ := look_zip ds 0 t d hd
 rw [Nat.sub_zero] at h2
 obtain ⟨v, hv, hvr⟩ := hargs.some h2
 have hv' : args[t]? = some v := by simpa using hv
 have hlt : t < args.size := (Array.getElem?_eq_some_iff.1 hv').1
 have : (args ++ Array.replicate (fn.ntmps - args.size) undef).getD t undef = v := by
  simp only [Array.getD_eq_getD_getElem?]
  rw [Array.getElem?_append_left hlt, hv']
  rfl
 rw [this]
 exact hvr
theorem fn_end {fn : Func} {res : List ARes} (hr : cRess P fn.results.toList = some res) {ρ' : Pl} {T' : Nat → Prop} {env' : Env} {rows' : Rows} {a' : Act} {w' : World} (hs' : Sim fn.ntmps ρ' T' env' rows' a' w') {l : List D} (hl : ares env' rows' res = some l) :
  ∃ v, (results fn a'.tmps).run P w' = .ok v w' ∧ VR ρ' w' T' (resOf l) v := by
 obtain ⟨vs, h1, h2⟩ := res_sound hs' hr hl
 have hm : (fn.results.mapM (fun r : ResultVar => (match r with | .tmp t => pure (a'.tmps.getD t undef) | .cell x t => do loadVar t (← asAddr (a'.tmps.getD x undef)) : Sem Value))).run P w' = .ok vs.toArray w' := by
  rw [Array.mapM_eq_mapM_toList]
  simp only [Sem.run_map, h1, Result.andThen_ok]
 have hlen := h2.len
 have e0 : (results fn a'.tmps).run P w' = ((fn.results.mapM (fun r : ResultVar => (match r with | .tmp t => pure (a'.tmps.getD t undef) | .cell x t => do loadVar t (← asAddr (a'.tmps.getD x undef)) : Sem Value))).run P w').andThen
   fun vs w' => (pure (if h : vs.size = 1 then vs[0] else .tuple vs) : Sem Value).run P w' := by
  unfold results
  rw [Sem.run_bind]
  rfl
 rw [e0, hm]
 simp only [Result.andThen_ok, Sem.run_pure, List.size_toArray]
 by_cases h1' : vs.length = 1
 ·have hl1 : l.length = 1 := by omega
  obtain ⟨v, rfl⟩ := List.length_eq_one_iff.1 h1'
  obtain ⟨d, rfl⟩ := List.length_eq_one_iff.1 hl1
  exact ⟨v, by simp, VR.ofVR1 h2.head⟩
 ·refine ⟨.tuple vs.toArray, by simp [h1'], ?_⟩
  have : resOf l = .tup l := by
   have hl1 : l.length ≠ 1 := by omega
   clear hlen h2 hl h1 hm e0
   match l, hl1 with
   | [], _ => rfl
   | [d], hq => exact absurd rfl hq
   | _ :: _ :: _, _ => rfl
  rw [this]
  exact ⟨vs.toArray, rfl, by simpa using h2⟩
theorem fn_sound (hC : CtxOK C P) {f : FuncId} {fn : Func} {ac : ACode} {res : List ARes} {np : Nat} (hf : P.funcs[f]? = some fn) (hb : o2 fn.body (comp P fn.ntmps) = some ac) (hr : cRess P fn.results.toList = some res) (hnp : np ≤ fn.ntmps) :
  Meets C.glob P f (afun C np res ac) := by
 intro ds rows K ⟨hlen, h⟩ ρ w T args hrows hdom htlt hargs hG0
 obtain ⟨c, hbody, hcomp⟩ := o2_some hb
 refine calls_of_wp hf hbody ?_
 refine code_sound hC c ac hcomp _ _ _ rows ρ T _ w h (fn_start hnp hlen hrows hdom htlt hargs) hG0 ?_
 intro e env' rows' ρ' T' a' w' ⟨he, hk⟩ hs' hst
 obtain ⟨l, hl, hk⟩ := bnd_some hk
 obtain ⟨v, hv1, hv2⟩ := fn_end hr hs' hl
 have hback : Back K ρ T rows w (.returned v) w' := ⟨v, resOf l, rows', ρ', T', rfl, hk, hs'.rowsOK, hs'.dom, hs'.tlt, hst, hv2⟩
 rcases he with rfl | rfl
 ·exact ⟨hs'.defers, v, hv1, hback⟩
 ·exact ⟨hs'.defers, v, hv1, hback⟩
end Go.Am
