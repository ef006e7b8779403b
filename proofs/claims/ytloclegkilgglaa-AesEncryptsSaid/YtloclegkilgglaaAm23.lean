/- What a function leaves behind, made small; contracts. -/
import Derived.Test.YtloclegkilgglaaAm22
namespace Go.Am
set_option linter.unusedVariables false
set_option linter.unusedSimpArgs false

variable {C : Ctx} {P : Program} {n : Nat} {ρ : Pl} {T : Nat → Prop} {env : Env} {rows : Rows} {a : Act} {w : World}

/-- what a function leaves, as its contract says it -/
inductive Expo (rows : Rows) : D → D → Rows → Prop where
  | val (d : D) : hasRef d = false → Expo rows d d []
  | frz (d d' : D) : view rows 9 d = some d' → Expo rows d d' []
  | frzT (l l' : List D) : mapO (view rows 9) l = some l' → Expo rows (.tup l) (.tup l') []
  | own (s : Sh) (r off len : Nat) (ex ex' : Bool) (row : Row) : live rows r = some row → row.sh.pure = true → (ex' = true → ex = true) → Expo rows (.sl s r [] off len ex) (.sl s 0 [] off len ex') [some row]
  | nil0 (s : Sh) : Expo rows (.raw (.slice none 0 0)) (.sl s 0 [] 0 0 false) [some ⟨s, []⟩]
  | ownT (s : Sh) (r off len : Nat) (ex ex' : Bool) (row : Row) (l : List D) : live rows r = some row → row.sh.pure = true → hasRefL l = false → (ex' = true → ex = true) →
      Expo rows (.tup (.sl s r [] off len ex :: l)) (.tup (.sl s 0 [] off len ex' :: l)) [some row]
  | ownU (z : List D) (s : Sh) (r off len : Nat) (ex ex' : Bool) (row : Row) (l : List D) : live rows r = some row → row.sh.pure = true → hasRefL z = false → hasRefL l = false → (ex' = true → ex = true) →
      Expo rows (.tup (z ++ .sl s r [] off len ex :: l)) (.tup (z ++ .sl s 0 [] off len ex' :: l)) [some row]

def onePl (L : Option Loc) : Pl := fun r => if r = 0 then L else none

theorem Step.emp {ρ' : Pl} {T' : Nat → Prop} {w' : World} {rows' : Rows} (hst : Step ρ T [] w ρ' T' rows' w') (hdom : ∀ r, ρ r = none) : ∀ r row L, live rows' r = some row → ρ' r = some L → w.heap.size ≤ L.b := by
  intro r row L h1 h2
  rcases hst.fresh r row L h1 h2 with ⟨r0, row0, L0, h3, _⟩ | h3
  · simp [live] at h3
  · exact h3

theorem RowOK.pure {ρ' : Pl} {row : Row} {L : Loc} {T' : Nat → Prop} (h : RowOK ρ row L w T) (hp : row.sh.pure = true) : RowOK ρ' row L w T := by
  refine ⟨h.sh, h.notT, h.els, ?_⟩
  obtain ⟨cur, t, h1, h2, h3, h4⟩ := h.cells
  exact ⟨cur, t, h1, h2, h3, h4.ofRaw (pure_flatL h.els hp)⟩

theorem view_tup {k : Nat} {d : D} {z : List D} (h : view rows k d = some (.tup z)) : False := by
  cases k with
  | zero => simp [view] at h
  | succ k =>
    cases d with
    | lst s l e =>
      simp only [view] at h
      cases hp : s.pure with
      | true => simp [hp] at h
      | false =>
        simp only [hp, cond_false] at h
        split at h <;> cases h
    | agg s l =>
      simp only [view] at h
      cases hp : s.pure with
      | true => simp [hp] at h
      | false =>
        simp only [hp, cond_false] at h
        split at h <;> cases h
    | sl s r p off len e =>
      simp only [view] at h
      split at h
      · rename_i l hl
        cases hb : (l.length == len) with
        | false => simp [hb] at h
        | true =>
          simp only [hb, Bool.not_true, cond_false] at h
          cases hp : s.pure with
          | true => simp [hp] at h
          | false =>
            simp only [hp, cond_false] at h
            split at h <;> cases h
      · cases h
    | ptr s r p =>
      simp only [view] at h
      split at h
      · split at h
        · cases hp : s.pure with
          | true => simp [hp] at h
          | false =>
            simp only [hp, cond_false] at h
            split at h <;> cases h
        · cases h
      · cases h
    | _ => simp [view] at h

theorem Back.expo {K K' : D → Rows → Prop} {e : Ending} {w' : World} (hdom : ∀ r, ρ r = none) (h : Back K ρ T [] w e w') (hk : ∀ d rows, K d rows → ∃ d' rows', Expo rows d d' rows' ∧ K' d' rows') : Back K' ρ T [] w e w' := by
  obtain ⟨v, d, rows', ρ', T', he, hkd, hrows, hd, ht, hst, hv⟩ := h.ex
  obtain ⟨d', rows2, hx, hk'⟩ := hk d rows' hkd
  have hnew := hst.emp hdom
  have ev0 : ∀ (r : Nat) (row : Row), live ([] : Rows) r ≠ some row := by intro r row h; simp [live] at h
  have hT : ∀ b, T b → w'.heap[b]? = w'.heap[b]? := fun _ _ => rfl
  -- nothing left
  have val : VR noPl w' T' d' v → Back (fun d r => d = d' ∧ r = []) ρ T [] w e w' := by
    intro hv'
    exact ⟨v, d', [], noPl, T', he, ⟨rfl, rfl⟩, ⟨fun r row L h => absurd h (ev0 r row), fun r _ row _ _ _ h => absurd h (ev0 r row)⟩, fun _ _ => rfl, ht,
      ⟨fun r L hr => by rw [hdom r] at hr; (cases hr), hst.tt, hst.tnew, hst.size, hst.keep, fun r row L h => absurd h (ev0 r row), hst.os, hst.tape, hst.output, Nat.le_refl _, fun r hr => by simp at hr⟩, hv'⟩
  have frz : VR noPl w' (Blk ρ' T' rows') d' v → Back (fun d r => d = d' ∧ r = []) ρ T [] w e w' := by
    intro hv'
    refine ⟨v, d', [], noPl, Blk ρ' T' rows', he, ⟨rfl, rfl⟩, ⟨fun r row L h => absurd h (ev0 r row), fun r _ row _ _ _ h => absurd h (ev0 r row)⟩, fun _ _ => rfl, ?_,
      ⟨fun r L hr => by rw [hdom r] at hr; (cases hr), fun b hb => .inl (hst.tt b hb), ?_, hst.size, hst.keep, fun r row L h => absurd h (ev0 r row), hst.os, hst.tape, hst.output, Nat.le_refl _, fun r hr => by simp at hr⟩, hv'⟩
    · rintro b (h1 | ⟨r, row, L, h1, h2, rfl⟩)
      · exact ht b h1
      · exact (hrows.row r row L h1 h2).lt
    · rintro b (h1 | ⟨r, row, L, h1, h2, rfl⟩)
      · exact hst.tnew b h1
      · exact .inr (.inl (hnew r row L h1 h2))
  have own : ∀ (r : Nat) (row : Row), live rows' r = some row → row.sh.pure = true → VR (onePl (ρ' r)) w' T' d' v → Back (fun d r => d = d' ∧ r = [some row]) ρ T [] w e w' := by
    intro r row hl hp hv'
    have hl0 : ∀ q row', live [some row] q = some row' → q = 0 ∧ row' = row := by
      intro q row' hq
      cases q with
      | zero => simp [live] at hq; exact ⟨rfl, hq.symm⟩
      | succ q => simp [live] at hq
    refine ⟨v, d', [some row], onePl (ρ' r), T', he, ⟨rfl, rfl⟩, ⟨fun q row' L h1 h2 => ?_, fun q q' row1 row2 L L' h1 h2 _ _ hne => ?_⟩, fun q hq => ?_, ht,
      ⟨fun r L hr => by rw [hdom r] at hr; (cases hr), hst.tt, hst.tnew, hst.size, hst.keep, fun q row' L h1 h2 => ?_, hst.os, hst.tape, hst.output, by simp, fun r hr => by simp at hr⟩, hv'⟩
    · obtain ⟨rfl, rfl⟩ := hl0 q row' h1
      simp only [onePl, if_true] at h2
      exact (hrows.row r row' L hl h2).pure (T' := T') hp
    · exact absurd ((hl0 q row1 h1).1.trans (hl0 q' row2 h2).1.symm) hne
    · simp at hq
      unfold onePl
      rw [if_neg (by omega)]
    · obtain ⟨rfl, rfl⟩ := hl0 q row' h1
      simp only [onePl, if_true] at h2
      exact .inr (hnew r row' L hl h2)
  have sl1 : ∀ (s : Sh) (r off len : Nat) (ex ex' : Bool) (v : Value), (ex' = true → ex = true) → LR ρ' w' T' (.sl s r [] off len ex) v → LR (onePl (ρ' r)) w' T' (.sl s 0 [] off len ex') v := by
    intro s r off len ex ex' v hee hlr
    cases hlr with
    | sl _ _ _ _ _ _ L cap h1 h2 h3 h4 => exact .sl s 0 [] off len ex' L cap (by simp [onePl, h1]) h2 (fun h => h3 (hee h)) h4
    | slz _ _ _ _ _ a => exact .slz s 0 [] off ex' a
  have done : Back (fun d r => d = d' ∧ r = rows2) ρ T [] w e w' → Back K' ρ T [] w e w' := by
    rintro ⟨v, d2, r2, ρ2, T2, q1, ⟨rfl, rfl⟩, q3⟩
    exact ⟨v, d2, r2, ρ2, T2, q1, hk', q3⟩
  refine done ?_
  cases hx with
  | val _ h1 => exact val (hv.closed h1)
  | frz _ _ h1 => exact frz (view_VR hrows h1 hv)
  | frzT l l' h1 =>
    obtain ⟨vs, rfl, hall⟩ := hv
    refine frz ⟨vs, rfl, ?_⟩
    obtain ⟨g1, g2⟩ := mapO_get h1
    refine ⟨by rw [g1]; exact hall.len, fun i x y hx hy => ?_⟩
    have hil : i < l.length := by rw [← g1]; exact lt_of_get hx
    have hxi := List.getElem?_eq_getElem hil
    have := view_VR hrows (g2 i _ _ hxi hx) (VR.ofVR1 (hall.at_ i _ y hxi hy))
    cases x with
    | tup z =>
      exact (view_tup (g2 i _ _ hxi hx)).elim
    | _ => exact this
  | own s r off len ex ex' row h1 h2 h4 => exact own r row h1 h2 (VR.ofLeaf (sl1 s r off len ex ex' v h4 hv))
  | nil0 s =>
    have hv' := hv.ofRaw
    subst hv'
    refine ⟨_, _, [some ⟨s, []⟩], noPl, T', he, ⟨rfl, rfl⟩, ⟨fun _ _ _ _ h => (by cases h), fun _ _ _ _ _ _ _ _ h => (by cases h)⟩, fun _ _ => rfl, ht,
      ⟨fun r L hr => by rw [hdom r] at hr; (cases hr), hst.tt, hst.tnew, hst.size, hst.keep, fun _ _ _ _ h => (by cases h), hst.os, hst.tape, hst.output, by simp, fun r hr => by simp at hr⟩, VR.ofLeaf (.slz s 0 [] 0 false none)⟩
  | ownT s r off len ex ex' row l h1 h2 h3 h4 =>
    obtain ⟨vs, rfl, hall⟩ := hv
    refine own r row h1 h2 ⟨vs, rfl, ?_⟩
    cases hvs : vs.toList with
    | nil => rw [hvs] at hall; have := hall.len; simp at this
    | cons v0 vs' =>
      rw [hvs] at hall
      refine .cons (VR1.ofLeaf (sl1 s r off len ex ex' v0 h4 hall.head)) ?_
      have ht := hall.tail
      refine ⟨ht.len, fun i x y hx hy => ?_⟩
      exact ((ht.at_ i x y hx hy).closed (hasRefL_mem h3 x (mem_of_get hx))).mono (by intro r L h; cases h) (fun _ _ => rfl) (fun _ h => h)

  | ownU z s r off len ex ex' row l h1 h2 h3 h5 h4 =>
    obtain ⟨vs, rfl, hall⟩ := hv
    refine own r row h1 h2 ⟨vs, rfl, ?_⟩
    refine ⟨by rw [← hall.len]; simp, fun i x y hx hy => ?_⟩
    have same : ∀ x, (z ++ .sl s r [] off len ex :: l)[i]? = some x → hasRef x = false → VR1 (onePl (ρ' r)) w' T' x y := fun x hx hr =>
      ((hall.at_ i x y hx hy).closed hr).mono (by intro r L h; cases h) (fun _ _ => rfl) (fun _ h => h)
    by_cases c : i < z.length
    · rw [List.getElem?_append_left c] at hx
      exact same x (by rw [List.getElem?_append_left c]; exact hx) (hasRefL_mem h3 x (mem_of_get hx))
    · rw [List.getElem?_append_right (by omega)] at hx
      have hz : (z ++ .sl s r [] off len ex :: l)[i]? = (D.sl s r [] off len ex :: l)[i - z.length]? := List.getElem?_append_right (by omega)
      cases hi : i - z.length with
      | zero =>
        rw [hi] at hx hz
        simp only [List.getElem?_cons_zero, Option.some.injEq] at hx hz
        subst hx
        exact VR1.ofLeaf (sl1 s r off len ex ex' y h4 (hall.at_ i _ y hz hy))
      | succ m =>
        rw [hi] at hx hz
        simp only [List.getElem?_cons_succ] at hx hz
        exact same x (by rw [hz]; exact hx) (hasRefL_mem h5 x (mem_of_get hx))

/-- a contract by its arguments: what is handed in, what comes back -/
noncomputable def mkFn {α : Type} (pre : α → Prop) (inp : α → List D) (out : α → D × Rows) : Fn := fun ds rows =>
  open Classical in if h : ∃ x, pre x ∧ ds = inp x ∧ rows = [] then some (out h.choose) else none

theorem mkFn_eq {α : Type} {pre : α → Prop} {inp : α → List D} {out : α → D × Rows} (hinj : ∀ x y, inp x = inp y → out x = out y) (x : α) (hp : pre x) : mkFn pre inp out (inp x) [] = some (out x) := by
  have h : ∃ y, pre y ∧ inp x = inp y ∧ ([] : Rows) = [] := ⟨x, hp, rfl, rfl⟩
  unfold mkFn
  rw [dif_pos h]
  exact congrArg some (hinj _ _ h.choose_spec.2.1.symm)

theorem mkFn_meets {α : Type} {pre : α → Prop} {inp : α → List D} {out : α → D × Rows} {G : Nat → Option D} {f : FuncId} {A : AFun} (hA : Meets G P f A)
    (h : ∀ x, pre x → A (inp x) [] (fun d rows => Expo rows d (out x).1 (out x).2)) : Meets G P f (Fn.run (mkFn pre inp out)) := by
  intro ds rows K hr ρ w T args hrows hdom htlt hargs hG
  unfold Fn.run at hr
  obtain ⟨r, hr, hk⟩ := bnd_some hr
  unfold mkFn at hr
  split at hr
  · rename_i hex
    cases hr
    obtain ⟨hp, hds, hrw⟩ := hex.choose_spec
    generalize hex.choose = x at hk hp hds
    subst hds
    subst hrw
    have hdom' : ∀ r, ρ r = none := fun r => hdom r (by simp)
    exact (hA _ [] _ (h _ hp) ρ w T args hrows hdom htlt hargs hG).mono fun e w' hb => Back.expo hdom' hb fun d rows hx => ⟨_, _, hx, hk⟩
  · cases hr

/-- a table of contracts -/
def fnTab : List (Nat × Fn) → FuncId → Option Fn
  | [], _ => none
  | (k, F) :: l, f => bif k == f then some F else fnTab l f
theorem ctx_nil {G : Nat → Option D} : CtxOK ⟨G, fnTab [], fun _ => none⟩ P := ⟨(by intro f F h; cases h), (by intro f F h; cases h)⟩
theorem ctx_cons {G : Nat → Option D} {k : Nat} {F : Fn} {l : List (Nat × Fn)} {r : FuncId → Option AFun} (h : Meets G P k (Fn.run F)) (hl : CtxOK ⟨G, fnTab l, r⟩ P) : CtxOK ⟨G, fnTab ((k, F) :: l), r⟩ P := by
  refine ⟨?_, hl.2⟩
  intro f F' hf
  simp only [fnTab] at hf
  cases hb : (k == f) with
  | true =>
    rw [hb] at hf
    have : k = f := by simpa using hb
    subst this
    cases hf
    exact h
  | false =>
    rw [hb] at hf
    exact hl.1 f F' hf
/-- a table of functions that write -/
def afTab : List (Nat × AFun) → FuncId → Option AFun
  | [], _ => none
  | (k, F) :: l, f => bif k == f then some F else afTab l f
theorem ctx_nilr {G : Nat → Option D} : CtxOK ⟨G, fnTab [], afTab []⟩ P := ⟨(by intro f F h; cases h), (by intro f F h; cases h)⟩
theorem ctx_consr {G : Nat → Option D} {k : Nat} {A : AFun} {t : FuncId → Option Fn} {l : List (Nat × AFun)} (h : Meets G P k A) (hl : CtxOK ⟨G, t, afTab l⟩ P) : CtxOK ⟨G, t, afTab ((k, A) :: l)⟩ P := by
  refine ⟨hl.1, ?_⟩
  intro f F' hf
  simp only [afTab] at hf
  cases hb : (k == f) with
  | true =>
    rw [hb] at hf
    have : k = f := by simpa using hb
    subst this
    cases hf
    exact h
  | false =>
    rw [hb] at hf
    exact hl.2 f F' hf

end Go.Am
