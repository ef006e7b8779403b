import Derived.Test.YtpepmhbdblldeaaDoorPv9
namespace Go.Am
set_option linter.unusedVariables false
set_option linter.unusedSimpArgs false
variable {C : Ctx} {P : Program} {n : Nat} {ρ : Pl} {T : Nat → Prop} {env : Env} {rows : Rows} {a : Act} {w : World}
inductive Expo (rows : Rows) : D → D → Rows → Prop where
 | val (d : D) : hasRef d = false → Expo rows d d []
 | frz (d d' : D) : view rows 9 d = some d' → Expo rows d d' []
 | frzT (l l' : List D) : mapO (view rows 9) l = some l' → Expo rows (.tup l) (.tup l') []
 | own (s : Sh) (r off len : Nat) (ex ex' : Bool) (row : Row) : live rows r = some row → row.sh.pure = true → (ex' = true → ex = true) → Expo rows (.sl s r [] off len ex) (.sl s 0 [] off len ex') [some row]
 | nil0 (s : Sh) : Expo rows (.raw (.slice none 0 0)) (.sl s 0 [] 0 0 false) [some ⟨s, []⟩]
 | ownT (s : Sh) (r off len : Nat) (ex ex' : Bool) (row : Row) (l : List D) : live rows r = some row → row.sh.pure = true → hasRefL l = false → (ex' = true → ex = true) →
   Expo rows (.tup (.sl s r [] off len ex :: l)) (.tup (.sl s 0 [] off len ex' :: l)) [some row]
 | ownU (z : List D) (s : Sh) (r off len : Nat) (ex ex' : Bool) (row : Row) (l : List D) : live rows r = some row → row.sh.pure = true → hasRefL z = false → hasRefL l = false → (ex' = true → ex = true) →
   Expo rows (.tup (z ++ .sl s r [] off len ex :: l)) (.tup (z ++ .sl s 0 [] off len ex' :: l)) [some row]
 | own2 (z y l : List D) (s s2 : Sh) (r r2 off len off2 len2 : Nat) (ex ex' ex2 ex2' : Bool) (row row2 : Row) : live rows r = some row → live rows r2 = some row2 → r ≠ r2 → row.sh.pure = true → row2.sh.pure = true → hasRefL z = false → hasRefL y = false → hasRefL l = false →
   (ex' = true → ex = true) → (ex2' = true → ex2 = true) →
   Expo rows (.tup (z ++ .sl s r [] off len ex :: (y ++ .sl s2 r2 [] off2 len2 ex2 :: l))) (.tup (z ++ .sl s 0 [] off len ex' :: (y ++ .sl s2 1 [] off2 len2 ex2' :: l))) [some row, some row2]
def twoPl (L L2 : Option Loc) : Pl := fun r => if r = 0 then L else if r = 1 then L2 else none
def onePl (L : Option Loc) : Pl := fun r => if r = 0 then L else none
theorem Step.emp {ρ' : Pl} {T' : Nat → Prop} {w' : World} {rows' : Rows} (hst : Step ρ T [] w ρ' T' rows' w') (hdom : ∀ r, ρ r = none) : ∀ r row L, live rows' r = some row → ρ' r = some L → w.heap.size ≤ L.b := by
 intro r row L h1 h2
 rcases hst.fresh r row L h1 h2 with ⟨r0, row0, L0, h3, _⟩ | h3
 ·simp [live] at h3
 ·exact h3
theorem RowOK.pure {ρ' : Pl} {row : Row} {L : Loc} {T' : Nat → Prop} (h : RowOK ρ row L w T) (hp : row.sh.pure = true) : RowOK ρ' row L w T := by
 refine ⟨h.sh, h.notT, h.els, fun hm => ?_, h.mcells⟩
 obtain ⟨cur, t, h1, h2, h3, h4⟩ := h.cells hm
 exact ⟨cur, t, h1, h2, h3, h4.ofRaw (pure_flatL h.els hp)⟩
theorem view_tup {k : Nat} {d : D} {z : List D} (h : view rows k d = some (.tup z)) : False := by
 cases k with
 | zero => simp [view] at h
 | succ k =>
  cases d with
  | lst s l e =>
   simp only [view] at h
   cases hp : s.pure with
   | true => simp [hp] at h
   | false =>
    simp only [hp, cond_false] at h
    split at h <;> cases h
  | agg s l =>
   simp only [view] at h
   cases hp : s.pure with
   | true => simp [hp] at h
   | false =>
    simp only [hp, cond_false] at h
    split at h <;> cases h
  | sl s r p off len e =>
   simp only [view] at h
   split at h
   ·rename_i l hl
    cases hb : (l.length == len) with
    | false => simp [hb] at h
    | true =>
     simp only [hb, Bool.not_true, cond_false] at h
     cases hp : s.pure with
     | true => simp [hp] at h
     | false =>
      simp only [hp, cond_false] at h
      split at h <;> cases h
   ·cases h
  | mp r =>
   simp only [view] at h
   split at h <;> cases h
  | ptr s r p =>
   simp only [view] at h
   split at h
   ·split at h
    ·cases hp : s.pure with
     | true => simp [hp] at h
     | false =>
      simp only [hp, cond_false] at h
      split at h <;> cases h
    ·cases h
   ·cases h
  | cptr d =>
   simp only [view] at h
   cases hp : hasRef d with
   | true => simp [hp] at h
   | false => simp only [hp, cond_false] at h; cases h
  | _ => simp [view] at h
theorem Back.expo {K K' : D → Rows → Prop} {e : Ending} {w' : World} (hdom : ∀ r, ρ r = none) (h : Back K ρ T [] w e w') (hk : ∀ d rows, K d rows → ∃ d' rows', Expo rows d d' rows' ∧ K' d' rows') : Back K' ρ T [] w e w' := by
 obtain ⟨v, d, rows', ρ', T', he, hkd, hrows, hd, ht, hst, hv⟩ := h.ex
 obtain ⟨d', rows2, hx, hk'⟩ := hk d rows' hkd
 have hnew := hst.emp hdom
 have ev0 : ∀ (r : Nat) (row : Row), live ([] : Rows) r ≠ some row := by intro r row h; simp [live] at h
 have hT : ∀ b, T b → w'.heap[b]? = w'.heap[b]? := fun _ _ => rfl
 -- nothing left
 have val : VR noPl w' T' d' v → Back (fun d r => d = d' ∧ r = []) ρ T [] w e w' := by
  intro hv'
  exact ⟨v, d', [], noPl, T', he, ⟨rfl, rfl⟩, ⟨fun r row L h => absurd h (ev0 r row), fun r _ row _ _ _ h => absurd h (ev0 r row)⟩, fun _ _ => rfl, ht,
   ⟨fun r L hr => by rw [hdom r] at hr; (cases hr), hst.tt, hst.tnew, hst.size, hst.keep, fun r row L h => absurd h (ev0 r row), hst.os, hst.tape, hst.output, Nat.le_refl _, fun r hr => by simp at hr⟩, hv'⟩
 have frz : VR noPl w' (Blk ρ' T' rows') d' v → Back (fun d r => d = d' ∧ r = []) ρ T [] w e w' := by
  intro hv'
  refine ⟨v, d', [], noPl, Blk ρ' T' rows', he, ⟨rfl, rfl⟩, ⟨fun r row L h => absurd h (ev0 r row), fun r _ row _ _ _ h => absurd h (ev0 r row)⟩, fun _ _ => rfl, ?_,
   ⟨fun r L hr => by rw [hdom r] at hr; (cases hr), fun b hb => .inl (hst.tt b hb), ?_, hst.size, hst.keep, fun r row L h => absurd h (ev0 r row), hst.os, hst.tape, hst.output, Nat.le_refl _, fun r hr => by simp at hr⟩, hv'⟩
  ·rintro b (h1 | ⟨r, row, L, h1, h2, rfl⟩)
   ·exact ht b h1
   ·exact (hrows.row r row L h1 h2).lt
  ·rintro b (h1 | ⟨r, row, L, h1, h2, rfl⟩)
   ·exact hst.tnew b h1
   ·exact .inr (.inl (hnew r row L h1 h2))
 have own : ∀ (r : Nat) (row : Row), live rows' r = some row → row.sh.pure = true → VR (onePl (ρ' r)) w' T' d' v → Back (fun d r => d = d' ∧ r = [some row]) ρ T [] w e w' := by
  intro r row hl hp hv'
  have hl0 : ∀ q row', live [some row] q = some row' → q = 0 ∧ row' = row := by
   intro q row' hq
   cases q with
   | zero => simp [live] at hq; exact ⟨rfl, hq.symm⟩
   | succ q => simp [live] at hq
  refine ⟨v, d', [some row], onePl (ρ' r), T', he, ⟨rfl, rfl⟩, ⟨fun q row' L h1 h2 => ?_, fun q q' row1 row2 L L' h1 h2 _ _ hne => ?_⟩, fun q hq => ?_, ht,
   ⟨fun r L hr => by rw [hdom r] at hr; (cases hr), hst.tt, hst.tnew, hst.size, hst.keep, fun q row' L h1 h2 => ?_, hst.os, hst.tape, hst.output, by simp, fun r hr => by simp at hr⟩, hv'⟩
  ·obtain ⟨rfl, rfl⟩ := hl0 q row' h1
   simp only [onePl, if_true] at h2
   exact (hrows.row r row' L hl h2).pure (T' := T') hp
  ·exact absurd ((hl0 q row1 h1).1.trans (hl0 q' row2 h2).1.symm) hne
  ·simp at hq
   unfold onePl
   rw [if_neg (by omega)]
  ·obtain ⟨rfl, rfl⟩ := hl0 q row' h1
   simp only [onePl, if_true] at h2
   exact .inr (hnew r row' L hl h2)
 have sl1 : ∀ (s : Sh) (r off len : Nat) (ex ex' : Bool) (v : Value), (ex' = true → ex = true) → LR ρ' w' T' (.sl s r [] off len ex) v → LR (onePl (ρ' r)) w' T' (.sl s 0 [] off len ex') v := by
  intro s r off len ex ex' v hee hlr
  cases hlr with
  | sl _ _ _ _ _ _ L cap h1 h2 h3 h4 => exact .sl s 0 [] off len ex' L cap (by simp [onePl, h1]) h2 (fun h => h3 (hee h)) h4
  | slz _ _ _ _ _ a => exact .slz s 0 [] off ex' a
 have own2 : ∀ (r r2 : Nat) (row row2 : Row), live rows' r = some row → live rows' r2 = some row2 → r ≠ r2 → row.sh.pure = true → row2.sh.pure = true → VR (twoPl (ρ' r) (ρ' r2)) w' T' d' v → Back (fun d r => d = d' ∧ r = [some row, some row2]) ρ T [] w e w' := by
  intro r r2 row row2 hl hl2 hne2 hp hp2 hv'
  have hl0 : ∀ q row', live [some row, some row2] q = some row' → (q = 0 ∧ row' = row) ∨ (q = 1 ∧ row' = row2) := by
   intro q row' hq
   match q, hq with
   | 0, hq => simp [live] at hq; exact .inl ⟨rfl, hq.symm⟩
   | 1, hq => simp [live] at hq; exact .inr ⟨rfl, hq.symm⟩
   | q + 2, hq => simp [live] at hq
  have t0 : twoPl (ρ' r) (ρ' r2) 0 = ρ' r := by simp [twoPl]
  have t1 : twoPl (ρ' r) (ρ' r2) 1 = ρ' r2 := by simp [twoPl]
  refine ⟨v, d', [some row, some row2], twoPl (ρ' r) (ρ' r2), T', he, ⟨rfl, rfl⟩, ⟨fun q row' L h1 h2 => ?_, fun q q' row1 row3 L L' h1 h2 h3 h4 hne => ?_⟩, fun q hq => ?_, ht,
   ⟨fun r L hr => by rw [hdom r] at hr; (cases hr), hst.tt, hst.tnew, hst.size, hst.keep, fun q row' L h1 h2 => ?_, hst.os, hst.tape, hst.output, by simp, fun r hr => by simp at hr⟩, hv'⟩
  ·rcases hl0 q row' h1 with ⟨rfl, rfl⟩ | ⟨rfl, rfl⟩
   ·rw [t0] at h2
    exact (hrows.row r row' L hl h2).pure (T' := T') hp
   ·rw [t1] at h2
    exact (hrows.row r2 row' L hl2 h2).pure (T' := T') hp2
  ·rcases hl0 q row1 h1 with ⟨rfl, rfl⟩ | ⟨rfl, rfl⟩ <;> rcases hl0 q' row3 h2 with ⟨rfl, rfl⟩ | ⟨rfl, rfl⟩
   ·exact absurd rfl hne
   ·rw [t0] at h3; rw [t1] at h4
    exact hrows.dist r r2 _ _ L L' hl hl2 h3 h4 hne2
   ·rw [t1] at h3; rw [t0] at h4
    exact hrows.dist r2 r _ _ L L' hl2 hl h3 h4 (Ne.symm hne2)
   ·exact absurd rfl hne
  ·simp at hq
   unfold twoPl
   rw [if_neg (by omega), if_neg (by omega)]
  ·rcases hl0 q row' h1 with ⟨rfl, rfl⟩ | ⟨rfl, rfl⟩
   ·rw [t0] at h2
    exact .inr (hnew r row' L hl h2)
   ·rw [t1] at h2
    exact .inr (hnew r2 row' L hl2 h2)
 have sl2 : ∀ (s : Sh) (r r' q off len : Nat) (ex ex' : Bool) (v : Value) (ρ2 : Pl), ρ2 q = ρ' r → (ex' = true → ex = true) → LR ρ' w' T' (.sl s r [] off len ex) v → LR ρ2 w' T' (.sl s q [] off len ex') v := by
  intro s r r' q off len ex ex' v ρ2 hq hee hlr
  cases hlr with
  | sl _ _ _ _ _ _ L cap h1 h2 h3 h4 => exact .sl s q [] off len ex' L cap (by rw [hq]; exact h1) h2 (fun h => h3 (hee h)) h4
  | slz _ _ _ _ _ a => exact .slz s q [] off ex' a
 have done : Back (fun d r => d = d' ∧ r = rows2) ρ T [] w e w' → Back K' ρ T [] w e w' := by
  rintro ⟨v, d2, r2, ρ2, T2, q1, ⟨rfl, rfl⟩, q3⟩
  exact ⟨v, d2, r2, ρ2, T2, q1, hk', q3⟩
 refine done ?_
 cases hx with
 | val _ h1 => exact val (hv.closed h1)
 | frz _ _ h1 => exact frz (view_VR hrows h1 hv)
 | frzT l l' h1 =>
  obtain ⟨vs, rfl, hall⟩ := hv
  refine frz ⟨vs, rfl, ?_⟩
  obtain ⟨g1, g2⟩ := mapO_get h1
  refine ⟨by rw [g1]; exact hall.len, fun i x y hx hy => ?_⟩
  have hil : i < l.length := by rw [← g1]; exact lt_of_get hx
  have hxi := List.getElem?_eq_getElem hil
  have := view_VR hrows (g2 i _ _ hxi hx) (VR.ofVR1 (hall.at_ i _ y hxi hy))
  cases x with
  | tup z =>
   exact (view_tup (g2 i _ _ hxi hx)).elim
  | _ => exact this
 | own s r off len ex ex' row h1 h2 h4 => exact own r row h1 h2 (VR.ofLeaf (sl1 s r off len ex ex' v h4 hv))
 | nil0 s =>
  have hv' := hv.ofRaw
  subst hv'
  refine ⟨_, _, [some ⟨s, []⟩], noPl, T', he, ⟨rfl, rfl⟩, ⟨fun _ _ _ _ h => (by cases h), fun _ _ _ _ _ _ _ _ h => (by cases h)⟩, fun _ _ => rfl, ht,
   ⟨fun r L hr => by rw [hdom r] at hr; (cases hr), hst.tt, hst.tnew, hst.size, hst.keep, fun _ _ _ _ h => (by cases h), hst.os, hst.tape, hst.output, by simp, fun r hr => by simp at hr⟩, VR.ofLeaf (.slz s 0 [] 0 false none)⟩
 | ownT s r off len ex ex' row l h1 h2 h3 h4 =>
  obtain ⟨vs, rfl, hall⟩ := hv
  refine own r row h1 h2 ⟨vs, rfl, ?_⟩
  cases hvs : vs.toList with
  | nil => rw [hvs] at hall; have := hall.len; simp at this
  | cons v0 vs' =>
   rw [hvs] at hall
   refine .cons (VR1.ofLeaf (sl1 s r off len ex ex' v0 h4 hall.head)) ?_
   have ht := hall.tail
   refine ⟨ht.len, fun i x y hx hy => ?_⟩
   exact ((ht.at_ i x y hx hy).closed (hasRefL_mem h3 x (mem_of_get hx))).mono (by intro r L h; cases h) (fun _ _ => rfl) (fun _ h => h)

 | ownU z s r off len ex ex' row l h1 h2 h3 h5 h4 =>
  obtain ⟨vs, rfl, hall⟩ := hv
  refine own r row h1 h2 ⟨vs, rfl, ?_⟩
  refine ⟨by rw [← hall.len]; simp, fun i x y hx hy => ?_⟩
  have same : ∀ x, (z ++ .sl s r [] off len ex :: l)[i]? = some x → hasRef x = false → VR1 (onePl (ρ' r)) w' T' x y := fun x hx hr =>
   ((hall.at_ i x y hx hy).closed hr).mono (by intro r L h; cases h) (fun _ _ => rfl) (fun _ h => h)
  by_cases c : i < z.length
  ·rw [List.getElem?_append_left c] at hx
   exact same x (by rw [List.getElem?_append_left c]; exact hx) (hasRefL_mem h3 x (mem_of_get hx))
  ·rw [List.getElem?_append_right (by omega)] at hx
   have hz : (z ++ .sl s r [] off len ex :: l)[i]? = (D.sl s r [] off len ex :: l)[i - z.length]? := List.getElem?_append_right (by omega)
   cases hi : i - z.length with
   | zero =>
    rw [hi] at hx hz
    simp only [List.getElem?_cons_zero, Option.some.injEq] at hx hz
    subst hx
    exact VR1.ofLeaf (sl1 s r off len ex ex' y h4 (hall.at_ i _ y hz hy))
   | succ m =>
    rw [hi] at hx hz
    simp only [List.getElem?_cons_succ] at hx hz
    exact same x (by rw [hz]; exact hx) (hasRefL_mem h5 x (mem_of_get hx))
 | own2 z y l s s2 r r2 off len off2 len2 ex ex' ex2 ex2' row row2 h1 h2 hne p1 p2 h3 h5 h6 h4 h7 =>
  obtain ⟨vs, rfl, hall⟩ := hv
  refine own2 r r2 row row2 h1 h2 hne p1 p2 ⟨vs, rfl, ?_⟩
  have t0 : twoPl (ρ' r) (ρ' r2) 0 = ρ' r := by simp [twoPl]
  have t1 : twoPl (ρ' r) (ρ' r2) 1 = ρ' r2 := by simp [twoPl]
  refine ⟨by rw [← hall.len]; simp, fun i x x' hx hy => ?_⟩
  have same : ∀ x, (z ++ .sl s r [] off len ex :: (y ++ .sl s2 r2 [] off2 len2 ex2 :: l))[i]? = some x → hasRef x = false → VR1 (twoPl (ρ' r) (ρ' r2)) w' T' x x' := fun x hx hr =>
   ((hall.at_ i x x' hx hy).closed hr).mono (by intro r L h; cases h) (fun _ _ => rfl) (fun _ h => h)
  by_cases c : i < z.length
  ·rw [List.getElem?_append_left c] at hx
   exact same x (by rw [List.getElem?_append_left c]; exact hx) (hasRefL_mem h3 x (mem_of_get hx))
  ·rw [List.getElem?_append_right (by omega)] at hx
   have hz : (z ++ .sl s r [] off len ex :: (y ++ .sl s2 r2 [] off2 len2 ex2 :: l))[i]? = (D.sl s r [] off len ex :: (y ++ .sl s2 r2 [] off2 len2 ex2 :: l))[i - z.length]? := List.getElem?_append_right (by omega)
   cases hi : i - z.length with
   | zero =>
    rw [hi] at hx hz
    simp only [List.getElem?_cons_zero, Option.some.injEq] at hx hz
    subst hx
    exact VR1.ofLeaf (sl2 s r 0 0 off len ex ex' x' _ t0 h4 (hall.at_ i _ x' hz hy))
   | succ m =>
    rw [hi] at hx hz
    simp only [List.getElem?_cons_succ] at hx hz
    by_cases c2 : m < y.length
    ·rw [List.getElem?_append_left c2] at hx hz
     exact same x (by rw [hz]; exact hx) (hasRefL_mem h5 x (mem_of_get hx))
    ·have hz2 : (y ++ D.sl s2 r2 [] off2 len2 ex2 :: l)[m]? = (D.sl s2 r2 [] off2 len2 ex2 :: l)[m - y.length]? := List.getElem?_append_right (by omega)
     rw [List.getElem?_append_right (by omega)] at hx
     rw [hz2] at hz
     cases hm : m - y.length with
     | zero =>
      rw [hm] at hx hz
      simp only [List.getElem?_cons_zero, Option.some.injEq] at hx hz
      subst hx
      exact VR1.ofLeaf (sl2 s2 r2 0 1 off2 len2 ex2 ex2' x' _ t1 h7 (hall.at_ i _ x' hz hy))
     | succ q =>
      rw [hm] at hx hz
      simp only [List.getElem?_cons_succ] at hx hz
      exact same x (by rw [hz]; exact hx) (hasRefL_mem h6 x (mem_of_get hx))
def fnTab : List (Nat × Fn) → FuncId → Option Fn
 | [], _ => none
 | (k, F) :: l, f => bif k == f then some F else fnTab l f
theorem ctx_nil {G : Nat → Option D} : CtxOK ⟨G, fnTab [], fun _ => none, fun _ => none⟩ P := ⟨(by intro f F h; cases h), (by intro f F h; cases h), (by intro f F h; cases h)⟩
theorem ctx_cons {G : Nat → Option D} {k : Nat} {F : Fn} {l : List (Nat × Fn)} {r : FuncId → Option AFun} {q : FuncId → Option QFun} (h : Meets G P k (Fn.run F)) (hl : CtxOK ⟨G, fnTab l, r, q⟩ P) : CtxOK ⟨G, fnTab ((k, F) :: l), r, q⟩ P := by
 refine ⟨?_, hl.2⟩
 intro f F' hf
 simp only [fnTab] at hf
 cases hb : (k == f) with
 | true =>
  rw [hb] at hf
  have : k = f := by simpa using hb
  subst this
  cases hf
  exact h
 | false =>
  rw [hb] at hf
  exact hl.1 f F' hf
def afTab : List (Nat × AFun) → FuncId → Option AFun
 | [], _ => none
 | (k, F) :: l, f => bif k == f then some F else afTab l f
theorem ctx_nilr {G : Nat → Option D} : CtxOK ⟨G, fnTab [], afTab [], fun _ => none⟩ P := ⟨(by intro f F h; cases h), (by intro f F h; cases h), (by intro f F h; cases h)⟩
theorem ctx_consr {G : Nat → Option D} {k : Nat} {A : AFun} {t : FuncId → Option Fn} {l : List (Nat × AFun)} {q : FuncId → Option QFun} (h : Meets G P k A) (hl : CtxOK ⟨G, t, afTab l, q⟩ P) : CtxOK ⟨G, t, afTab ((k, A) :: l), q⟩ P := by
 refine ⟨hl.1, ?_, hl.2.2⟩
 intro f F' hf
 simp only [afTab] at hf
 cases hb : (k == f) with
 | true =>
  rw [hb] at hf
  have : k = f := by simpa using hb
  subst this
  cases hf
  exact h
 | false =>
  rw [hb] at hf
  exact hl.2.1 f F' hf
def qTab : List (Nat × QFun) → FuncId → Option QFun
 | [], _ => none
 | (k, F) :: l, f => bif k == f then some F else qTab l f
theorem ctx_consq {G : Nat → Option D} {k : Nat} {A : QFun} {t : FuncId → Option Fn} {l : List (Nat × QFun)} {r : FuncId → Option AFun} (h : MeetsQ G P k (qrun A)) (hl : CtxOK ⟨G, t, r, qTab l⟩ P) : CtxOK ⟨G, t, r, qTab ((k, A) :: l)⟩ P := by
 refine ⟨hl.1, hl.2.1, ?_⟩
 intro f F' hf
 simp only [qTab] at hf
 cases hb : (k == f) with
 | true =>
  rw [hb] at hf
  have : k = f := by simpa using hb
  subst this
  cases hf
  exact h
 | false =>
  rw [hb] at hf
  exact hl.2.2 f F' hf
end Go.Am
