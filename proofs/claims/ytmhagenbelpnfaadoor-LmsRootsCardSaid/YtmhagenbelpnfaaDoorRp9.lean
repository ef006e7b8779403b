import Derived.Test.YtmhagenbelpnfaaDoorRp8
namespace Go.Am
set_option linter.unusedVariables false
set_option linter.unusedSimpArgs false
variable {C : Ctx} {P : Program} {n : Nat} {ρ : Pl} {T : Nat → Prop} {env : Env} {rows : Rows} {a : Act} {w : World}
theorem code_sound (hC : CtxOK C P) : ∀ (c : Code) (ac : ACode), comp P n c = some ac → ∀ (Q : AExit → Env → Rows → Prop) (Q' : Exit → Act → World → Prop) (env : Env) (rows : Rows) (ρ : Pl) (T : Nat → Prop) (a : Act) (w : World),
  aw C ac Q env rows → Sim n ρ T env rows a w → GlobOK C w T → Post n ρ T rows w Q Q' → c.wp P Q' a w := by
 intro c
 induction c with
 | skip =>
  intro ac hc Q Q' env rows ρ T a w h hs hg hp
  simp [comp] at hc; subst hc
  exact wp_skip (hp .normal env rows ρ T a w h hs (Step.refl _ _ _ _))
 | region id ops draw =>
  intro ac hc Q Q' env rows ρ T a w h hs hg hp
  simp only [comp] at hc
  split at hc
  ·rename_i al h1
   cases draw with
   | false =>
    simp only [Bool.not_false, cond_true] at hc
    cases hc
    refine wp_region ?_
    have := ops_sound hC ops (Q' := Q') ops.toList 0 (by simp) al h1 env rows ρ T a w (Q .normal) h hs hg (fun env' rows' ρ' T' a' w' hk hs' hst => hp .normal env' rows' ρ' T' a' w' hk hs' hst)
    rw [List.range_eq_range']
    simpa using this
   | true =>
    simp only [Bool.not_true, cond_false] at hc
    cases hdr : (P.follows .mixedOrders && drawOK ops.toList al) with
    | false =>
     rw [hdr] at hc
     simp only [cond_false] at hc
     cases hd2 : (P.follows .mixedOrders && dOK2 ops.toList al (mQ ops.toList al)) with
     | false => rw [hd2] at hc; cases hc; exact h.elim
     | true =>
      rw [hd2] at hc
      simp only [cond_true] at hc
      cases hc
      simp only [Bool.and_eq_true] at hd2
      exact draw2_sound (C := C.quiet) (fun _ => rfl) hC.quiet hd2.1 h1 hd2.2 h hs hg hp
    | true =>
     rw [hdr] at hc
     simp only [cond_true] at hc
     cases hc
     simp only [Bool.and_eq_true] at hdr
     cases hm : leastM ops.toList al with
     | none =>
      have e : drawA ops.toList al = .region true al := by unfold drawA; rw [hm]
      rw [e] at h
      exact draw_sound (C := C.quiet) (fun _ => rfl) hC.quiet hdr.1 h1 hdr.2 h hs hg hp
     | some m =>
      cases hcl : callsA (al.drop m) with
      | false =>
       have e : drawA ops.toList al = .region true al := by unfold drawA; rw [hm]; simp only [hcl, cond_false]
       rw [e] at h
       exact draw_sound (C := C.quiet) (fun _ => rfl) hC.quiet hdr.1 h1 hdr.2 h hs hg hp
      | true =>
       have e : drawA ops.toList al = .draw1 (al.take m) (al.drop m) := by unfold drawA; rw [hm]; simp only [hcl, cond_true]
       rw [e] at h
       exact draw1_sound hC hdr.1 h1 (leastM_ok hm) h hs hg hp
  ·cases hc; exact h.elim
 | seq x y ihx ihy =>
  intro ac hc Q Q' env rows ρ T a w h hs hg hp
  obtain ⟨ax, h1, hc⟩ := o2_some hc
  obtain ⟨ay, h2, hc⟩ := o2_some hc
  cases hc
  refine wp_seq (ihx ax h1 _ _ env rows ρ T a w h hs hg ?_)
  intro e env' rows' ρ' T' a' w' hq hs' hst
  cases e with
  | normal => exact ihy ay h2 Q Q' env' rows' ρ' T' a' w' hq hs' (hg.step hs hst) (fun e2 env2 rows2 ρ2 T2 a2 w2 hq2 hs2 hst2 => hp e2 env2 rows2 ρ2 T2 a2 w2 hq2 hs2 (hst.trans hst2))
  | exit i => exact hp (.exit i) env' rows' ρ' T' a' w' hq hs' hst
  | ret => exact hp .ret env' rows' ρ' T' a' w' hq hs' hst
 | cond x p q ihp ihq =>
  intro ac hc Q Q' env rows ρ T a w h hs hg hp
  obtain ⟨x', h1, hc⟩ := o2_some hc
  obtain ⟨ap, h2, hc⟩ := o2_some hc
  obtain ⟨aq, h3, hc⟩ := o2_some hc
  cases hc
  obtain ⟨d, he, hk⟩ := bnd_some h
  split at hk
  ·rename_i t
   have hG : Glob C ρ w T := fun g d hd => (hg g d hd).mono (by intro r L h; cases h) (fun _ _ => rfl) (fun _ h => h)
   have hx := ev_raw h1 he hs hG
   refine wp_cond_split hx (fun ht => ?_) (fun ht => ?_)
   ·exact ihp ap h2 Q Q' env rows ρ T a w (hk.1 ht) hs hg hp
   ·exact ihq aq h3 Q Q' env rows ρ T a w (hk.2 ht) hs hg hp
  ·exact hk.elim
 | block id x ih =>
  intro ac hc Q Q' env rows ρ T a w h hs hg hp
  obtain ⟨ax, h1, hc⟩ := o2_some hc
  cases hc
  refine wp_block (ih ax h1 _ _ env rows ρ T a w h hs hg ?_)
  intro e env' rows' ρ' T' a' w' hq hs' hst
  cases e with
  | normal => exact hp .normal env' rows' ρ' T' a' w' hq hs' hst
  | exit i =>
   simp only [exitOf, Exit.inBlock]
   by_cases hi : i = id
   ·rw [if_pos hi]; exact hp .normal env' rows' ρ' T' a' w' (hq.1 hi) hs' hst
   ·rw [if_neg hi]; exact hp (.exit i) env' rows' ρ' T' a' w' (hq.2 hi) hs' hst
  | ret => exact hp .ret env' rows' ρ' T' a' w' hq hs' hst
 | loop x ih =>
  intro ac hc Q Q' env rows ρ T a w h hs hg hp
  obtain ⟨ax, h1, hc⟩ := o2_some hc
  cases hc
  obtain ⟨m, hm⟩ := h
  refine wp_loop_rounds m ?_
  induction m generalizing env rows ρ T a w with
  | zero => exact hm.elim
  | succ m ihm =>
   refine ih ax h1 _ _ env rows ρ T a w hm hs hg ?_
   intro e env' rows' ρ' T' a' w' hq hs' hst
   cases e with
   | normal => exact ihm env' rows' ρ' T' a' w' hs' (hg.step hs hst) (fun e2 env2 rows2 ρ2 T2 a2 w2 hq2 hs2 hst2 => hp e2 env2 rows2 ρ2 T2 a2 w2 hq2 hs2 (hst.trans hst2)) hq
   | exit i => exact hp (.exit i) env' rows' ρ' T' a' w' hq hs' hst
   | ret => exact hp .ret env' rows' ρ' T' a' w' hq hs' hst
 | exit id =>
  intro ac hc Q Q' env rows ρ T a w h hs hg hp
  simp [comp] at hc; subst hc
  exact wp_exit (hp (.exit id) env rows ρ T a w h hs (Step.refl _ _ _ _))
 | ret =>
  intro ac hc Q Q' env rows ρ T a w h hs hg hp
  simp [comp] at hc; subst hc
  exact wp_ret (hp .ret env rows ρ T a w h hs (Step.refl _ _ _ _))
 | _ => intro ac hc; cases hc; intro Q Q' env rows ρ T a w h; exact h.elim
inductive ARes where
 | tmp (t : Nat)
 | cell (t : Nat) (s : Sh)
 deriving Inhabited
def cRes (P : Program) : ResultVar → Option ARes
 | .tmp t => some (.tmp t)
 | .cell t ty => o2 (sh P ty) fun s => ifo (leafOk P ty s) (some (.cell t s))
def cRess (P : Program) : List ResultVar → Option (List ARes)
 | [] => some []
 | r :: l => o2 (cRes P r) fun a => o2 (cRess P l) fun b => some (a :: b)
def ares1 (env : Env) (rows : Rows) : ARes → Option D
 | .tmp t => match look env t with
  | some (.tup _) => none
  | d => d
 | .cell t s => match look env t with
  | some (.ptr s' r p) => bif s' == s then (match live rows r with
   | some row => rowGet row.els p
   | none => none) else none
  | _ => none
def ares (env : Env) (rows : Rows) : List ARes → Option (List D)
 | [] => some []
 | r :: l => match ares1 env rows r with
  | some d => match ares env rows l with
   | some ds => some (d :: ds)
   | none => none
  | none => none
def resOf : List D → D
 | [d] => d
 | l => .tup l
def zipEnv : Nat → List D → Env
 | _, [] => []
 | i, d :: l => (i, d) :: zipEnv (i + 1) l
theorem look_zip : ∀ (l : List D) (i t : Nat) (d : D), look (zipEnv i l) t = some d → i ≤ t ∧ l[t - i]? = some d
 | [], i, t, d, h => by simp [zipEnv, look] at h
 | x :: l, i, t, d, h => by
  simp only [zipEnv, look] at h
  cases hb : (i == t) with
  | true =>
   have : i = t := by simpa using hb
   subst this
   simp [hb] at h
   subst h
   simp
  | false =>
   simp [hb] at h
   have hne : i ≠ t := by simpa using hb
   obtain ⟨h1, h2⟩ := look_zip l (i + 1) t d h
   refine ⟨by omega, ?_⟩
   have : t - i = (t - (i + 1)) + 1 := by omega
   rw [this]
   simpa using h2
theorem res_sound (hs : Sim n ρ T env rows a w) : ∀ {l : List ResultVar} {l' : List ARes} {ds : List D}, cRess P l = some l' → ares env rows l' = some ds →
  ∃ vs : List Value, (l.mapM (fun r : ResultVar => (match r with | .tmp t => pure (a.tmps.getD t undef) | .cell x t => do loadVar t (← asAddr (a.tmps.getD x undef)) : Sem Value))).run P w = .ok vs w ∧ All2 (VR1 ρ w T) ds vs
 | [], l', ds, h1, h2 => by
  simp [cRess] at h1; subst h1
  simp [ares] at h2; subst h2
  exact ⟨[], by simp, .nil⟩
 | r :: l, l', ds, h1, h2 => by
  obtain ⟨r', g1, h1⟩ := o2_some h1
  obtain ⟨q, g2, h1⟩ := o2_some h1
  cases h1
  simp only [ares] at h2
  split at h2
  ·rename_i d hd
   split at h2
   ·rename_i ds' hds
    cases h2
    obtain ⟨vs, k1, k2⟩ := res_sound hs g2 hds
    have one : ∃ v, (match r with | .tmp t => pure (a.tmps.getD t undef) | .cell x t => do loadVar t (← asAddr (a.tmps.getD x undef)) : Sem Value).run P w = .ok v w ∧ VR1 ρ w T d v := by
     cases r with
     | tmp t =>
      simp [cRes] at g1
      subst g1
      simp only [ares1] at hd
      refine ⟨a.tmps.getD t undef, by simp, ?_⟩
      split at hd
      ·cases hd
      ·rename_i x hx
       have := hs.env t d hd
       cases d with
       | tup z => exact absurd hd (by intro h; exact hx z h)
       | _ => exact this
     | cell x t =>
      obtain ⟨s, g3, g1⟩ := o2_some g1
      obtain ⟨g4, g1⟩ := ifo_some g1
      cases g1
      simp only [ares1] at hd
      split at hd
      ·rename_i s' rr p hlk
       cases hss : (s' == s) with
       | false => rw [hss] at hd; simp at hd
       | true =>
        have hss' : s' = s := by simpa using hss
        subst hss'
        simp only [hss, cond_true] at hd
        split at hd
        ·rename_i row hl
         have hv := hs.env x _ hlk
         obtain ⟨b, o', cs, hx, m1, m2, m3⟩ := hs.rowsOK.readPtr (show LR ρ w T _ _ from hv) hl hd
         have hlen := m2.len
         rw [m1.len] at hlen
         refine ⟨ofCells s' cs, ?_, ?_⟩
         ·simp only [Sem.run_bind]
          rw [hx]
          simp [asAddr, run_loadVar_at g3 g4 m3 hlen.symm (leaf_one m1 m2)]
         ·have := VR.ofCells (ρ := ρ) (T := T) m1 m2
          unfold ofCells at this ⊢
          cases hag : s'.isAgg with
          | true => exact VR1.ofAgg m1 hag (by simpa using m2)
          | false =>
           have hlf := m1.leafOf hag
           rw [leaf_flat hlf] at m2
           have hl2 := m2.len
           match cs, hl2 with
           | [c], _ => exact VR1.ofLeaf m2.head
        ·cases hd
      ·cases hd
    obtain ⟨v, m1, m2⟩ := one
    refine ⟨v :: vs, ?_, .cons m2 k2⟩
    rw [List.mapM_cons]
    simp only [Sem.run_bind, m1, k1, Result.andThen_ok, Sem.run_pure]
   ·cases h2
  ·cases h2
def afun (C : Ctx) (np : Nat) (res : List ARes) (ac : ACode) : AFun := fun ds rows K =>
 ds.length = np ∧ aw C ac (fun e env rows' => (e = .normal ∨ e = .ret) ∧ bnd (ares env rows' res) fun l => K (resOf l) rows') (zipEnv 0 ds) rows
theorem fn_sound (hC : CtxOK C P) {f : FuncId} {fn : Func} {ac : ACode} {res : List ARes} {np : Nat} (hf : P.funcs[f]? = some fn) (hb : o2 fn.body (comp P fn.ntmps) = some ac) (hr : cRess P fn.results.toList = some res) (hnp : np ≤ fn.ntmps) :
  Meets C.glob P f (afun C np res ac) := by
 intro ds rows K ⟨hlen, h⟩ ρ w T args hrows hdom htlt hargs hG0
 obtain ⟨c, hbody, hcomp⟩ := o2_some hb
 refine calls_of_wp hf hbody ?_
 have hal : args.size = np := by rw [← hlen]; simpa using hargs.len.symm
 have hs : Sim fn.ntmps ρ T (zipEnv 0 ds) rows { tmps := args ++ Array.replicate (fn.ntmps - args.size) undef, defers := [] } w := by
  refine ⟨hrows, fun t d hd => ?_, by simp; omega, htlt, hdom, rfl⟩
  obtain ⟨_, h2⟩ := look_zip ds 0 t d hd
  rw [Nat.sub_zero] at h2
  obtain ⟨v, hv, hvr⟩ := hargs.some h2
  have hv' : args[t]? = some v := by simpa using hv
  have hlt : t < args.size := (Array.getElem?_eq_some_iff.1 hv').1
  have : (args ++ Array.replicate (fn.ntmps - args.size) undef).getD t undef = v := by
   simp only [Array.getD_eq_getD_getElem?]
   rw [Array.getElem?_append_left hlt, hv']
   rfl
  rw [this]
  exact hvr
 refine code_sound hC c ac hcomp _ _ _ rows ρ T _ w h hs hG0 ?_
 intro e env' rows' ρ' T' a' w' ⟨he, hk⟩ hs' hst
 obtain ⟨l, hl, hk⟩ := bnd_some hk
 obtain ⟨vs, h1, h2⟩ := res_sound hs' hr hl
 have hres : ∃ v, (results fn a'.tmps).run P w' = .ok v w' ∧ VR ρ' w' T' (resOf l) v := by
  have hm : (fn.results.mapM (fun r : ResultVar => (match r with | .tmp t => pure (a'.tmps.getD t undef) | .cell x t => do loadVar t (← asAddr (a'.tmps.getD x undef)) : Sem Value))).run P w' = .ok vs.toArray w' := by
   rw [Array.mapM_eq_mapM_toList]
   simp only [Sem.run_map, h1, Result.andThen_ok]
  have hlen := h2.len
  have e0 : (results fn a'.tmps).run P w' = ((fn.results.mapM (fun r : ResultVar => (match r with | .tmp t => pure (a'.tmps.getD t undef) | .cell x t => do loadVar t (← asAddr (a'.tmps.getD x undef)) : Sem Value))).run P w').andThen
    fun vs w' => (pure (if h : vs.size = 1 then vs[0] else .tuple vs) : Sem Value).run P w' := by
   unfold results
   rw [Sem.run_bind]
   rfl
  rw [e0, hm]
  simp only [Result.andThen_ok, Sem.run_pure, List.size_toArray]
  by_cases h1' : vs.length = 1
  ·have hl1 : l.length = 1 := by omega
   obtain ⟨v, rfl⟩ := List.length_eq_one_iff.1 h1'
   obtain ⟨d, rfl⟩ := List.length_eq_one_iff.1 hl1
   exact ⟨v, by simp, VR.ofVR1 h2.head⟩
  ·refine ⟨.tuple vs.toArray, by simp [h1'], ?_⟩
   have : resOf l = .tup l := by
    have hl1 : l.length ≠ 1 := by omega
    clear hlen h2 hl hk h1 hm e0
    match l, hl1 with
    | [], _ => rfl
    | [d], hq => exact absurd rfl hq
    | _ :: _ :: _, _ => rfl
   rw [this]
   exact ⟨vs.toArray, rfl, by simpa using h2⟩
 obtain ⟨v, hv1, hv2⟩ := hres
 have hback : Back K ρ T rows w (.returned v) w' := ⟨v, resOf l, rows', ρ', T', rfl, hk, hs'.rowsOK, hs'.dom, hs'.tlt, hst, hv2⟩
 rcases he with rfl | rfl
 ·exact ⟨hs'.defers, v, hv1, hback⟩
 ·exact ⟨hs'.defers, v, hv1, hback⟩
end Go.Am
namespace Go.Am
set_option linter.unusedVariables false
set_option linter.unusedSimpArgs false
variable {C : Ctx} {P : Program} {n : Nat} {ρ : Pl} {T : Nat → Prop} {env : Env} {rows : Rows} {a : Act} {w : World}
inductive Expo (rows : Rows) : D → D → Rows → Prop where
 | val (d : D) : hasRef d = false → Expo rows d d []
 | frz (d d' : D) : view rows 9 d = some d' → Expo rows d d' []
 | frzT (l l' : List D) : mapO (view rows 9) l = some l' → Expo rows (.tup l) (.tup l') []
 | own (s : Sh) (r off len : Nat) (ex ex' : Bool) (row : Row) : live rows r = some row → row.sh.pure = true → (ex' = true → ex = true) → Expo rows (.sl s r [] off len ex) (.sl s 0 [] off len ex') [some row]
 | nil0 (s : Sh) : Expo rows (.raw (.slice none 0 0)) (.sl s 0 [] 0 0 false) [some ⟨s, []⟩]
 | ownT (s : Sh) (r off len : Nat) (ex ex' : Bool) (row : Row) (l : List D) : live rows r = some row → row.sh.pure = true → hasRefL l = false → (ex' = true → ex = true) →
   Expo rows (.tup (.sl s r [] off len ex :: l)) (.tup (.sl s 0 [] off len ex' :: l)) [some row]
 | ownU (z : List D) (s : Sh) (r off len : Nat) (ex ex' : Bool) (row : Row) (l : List D) : live rows r = some row → row.sh.pure = true → hasRefL z = false → hasRefL l = false → (ex' = true → ex = true) →
   Expo rows (.tup (z ++ .sl s r [] off len ex :: l)) (.tup (z ++ .sl s 0 [] off len ex' :: l)) [some row]
 | own2 (z y l : List D) (s s2 : Sh) (r r2 off len off2 len2 : Nat) (ex ex' ex2 ex2' : Bool) (row row2 : Row) : live rows r = some row → live rows r2 = some row2 → r ≠ r2 → row.sh.pure = true → row2.sh.pure = true → hasRefL z = false → hasRefL y = false → hasRefL l = false →
   (ex' = true → ex = true) → (ex2' = true → ex2 = true) →
   Expo rows (.tup (z ++ .sl s r [] off len ex :: (y ++ .sl s2 r2 [] off2 len2 ex2 :: l))) (.tup (z ++ .sl s 0 [] off len ex' :: (y ++ .sl s2 1 [] off2 len2 ex2' :: l))) [some row, some row2]
def twoPl (L L2 : Option Loc) : Pl := fun r => if r = 0 then L else if r = 1 then L2 else none
def onePl (L : Option Loc) : Pl := fun r => if r = 0 then L else none
theorem Step.emp {ρ' : Pl} {T' : Nat → Prop} {w' : World} {rows' : Rows} (hst : Step ρ T [] w ρ' T' rows' w') (hdom : ∀ r, ρ r = none) : ∀ r row L, live rows' r = some row → ρ' r = some L → w.heap.size ≤ L.b := by
 intro r row L h1 h2
 rcases hst.fresh r row L h1 h2 with ⟨r0, row0, L0, h3, _⟩ | h3
 ·simp [live] at h3
 ·exact h3
theorem RowOK.pure {ρ' : Pl} {row : Row} {L : Loc} {T' : Nat → Prop} (h : RowOK ρ row L w T) (hp : row.sh.pure = true) : RowOK ρ' row L w T := by
 refine ⟨h.sh, h.notT, h.els, fun hm => ?_, h.mcells⟩
 obtain ⟨cur, t, h1, h2, h3, h4⟩ := h.cells hm
 exact ⟨cur, t, h1, h2, h3, h4.ofRaw (pure_flatL h.els hp)⟩
theorem view_tup {k : Nat} {d : D} {z : List D} (h : view rows k d = some (.tup z)) : False := by
 cases k with
 | zero => simp [view] at h
 | succ k =>
  cases d with
  | lst s l e =>
   simp only [view] at h
   cases hp : s.pure with
   | true => simp [hp] at h
   | false =>
    simp only [hp, cond_false] at h
    split at h <;> cases h
  | agg s l =>
   simp only [view] at h
   cases hp : s.pure with
   | true => simp [hp] at h
   | false =>
    simp only [hp, cond_false] at h
    split at h <;> cases h
  | sl s r p off len e =>
   simp only [view] at h
   split at h
   ·rename_i l hl
    cases hb : (l.length == len) with
    | false => simp [hb] at h
    | true =>
     simp only [hb, Bool.not_true, cond_false] at h
     cases hp : s.pure with
     | true => simp [hp] at h
     | false =>
      simp only [hp, cond_false] at h
      split at h <;> cases h
   ·cases h
  | mp r =>
   simp only [view] at h
   split at h <;> cases h
  | ptr s r p =>
   simp only [view] at h
   split at h
   ·split at h
    ·cases hp : s.pure with
     | true => simp [hp] at h
     | false =>
      simp only [hp, cond_false] at h
      split at h <;> cases h
    ·cases h
   ·cases h
  | _ => simp [view] at h
theorem Back.expo {K K' : D → Rows → Prop} {e : Ending} {w' : World} (hdom : ∀ r, ρ r = none) (h : Back K ρ T [] w e w') (hk : ∀ d rows, K d rows → ∃ d' rows', Expo rows d d' rows' ∧ K' d' rows') : Back K' ρ T [] w e w' := by
 obtain ⟨v, d, rows', ρ', T', he, hkd, hrows, hd, ht, hst, hv⟩ := h.ex
 obtain ⟨d', rows2, hx, hk'⟩ := hk d rows' hkd
 have hnew := hst.emp hdom
 have ev0 : ∀ (r : Nat) (row : Row), live ([] : Rows) r ≠ some row := by intro r row h; simp [live] at h
 have hT : ∀ b, T b → w'.heap[b]? = w'.heap[b]? := fun _ _ => rfl
 -- nothing left
 have val : VR noPl w' T' d' v → Back (fun d r => d = d' ∧ r = []) ρ T [] w e w' := by
  intro hv'
  exact ⟨v, d', [], noPl, T', he, ⟨rfl, rfl⟩, ⟨fun r row L h => absurd h (ev0 r row), fun r _ row _ _ _ h => absurd h (ev0 r row)⟩, fun _ _ => rfl, ht,
   ⟨fun r L hr => by rw [hdom r] at hr; (cases hr), hst.tt, hst.tnew, hst.size, hst.keep, fun r row L h => absurd h (ev0 r row), hst.os, hst.tape, hst.output, Nat.le_refl _, fun r hr => by simp at hr⟩, hv'⟩
 have frz : VR noPl w' (Blk ρ' T' rows') d' v → Back (fun d r => d = d' ∧ r = []) ρ T [] w e w' := by
  intro hv'
  refine ⟨v, d', [], noPl, Blk ρ' T' rows', he, ⟨rfl, rfl⟩, ⟨fun r row L h => absurd h (ev0 r row), fun r _ row _ _ _ h => absurd h (ev0 r row)⟩, fun _ _ => rfl, ?_,
   ⟨fun r L hr => by rw [hdom r] at hr; (cases hr), fun b hb => .inl (hst.tt b hb), ?_, hst.size, hst.keep, fun r row L h => absurd h (ev0 r row), hst.os, hst.tape, hst.output, Nat.le_refl _, fun r hr => by simp at hr⟩, hv'⟩
  ·rintro b (h1 | ⟨r, row, L, h1, h2, rfl⟩)
   ·exact ht b h1
   ·exact (hrows.row r row L h1 h2).lt
  ·rintro b (h1 | ⟨r, row, L, h1, h2, rfl⟩)
   ·exact hst.tnew b h1
   ·exact .inr (.inl (hnew r row L h1 h2))
 have own : ∀ (r : Nat) (row : Row), live rows' r = some row → row.sh.pure = true → VR (onePl (ρ' r)) w' T' d' v → Back (fun d r => d = d' ∧ r = [some row]) ρ T [] w e w' := by
  intro r row hl hp hv'
  have hl0 : ∀ q row', live [some row] q = some row' → q = 0 ∧ row' = row := by
   intro q row' hq
   cases q with
   | zero => simp [live] at hq; exact ⟨rfl, hq.symm⟩
   | succ q => simp [live] at hq
  refine ⟨v, d', [some row], onePl (ρ' r), T', he, ⟨rfl, rfl⟩, ⟨fun q row' L h1 h2 => ?_, fun q q' row1 row2 L L' h1 h2 _ _ hne => ?_⟩, fun q hq => ?_, ht,
   ⟨fun r L hr => by rw [hdom r] at hr; (cases hr), hst.tt, hst.tnew, hst.size, hst.keep, fun q row' L h1 h2 => ?_, hst.os, hst.tape, hst.output, by simp, fun r hr => by simp at hr⟩, hv'⟩
  ·obtain ⟨rfl, rfl⟩ := hl0 q row' h1
   simp only [onePl, if_true] at h2
   exact (hrows.row r row' L hl h2).pure (T' := T') hp
  ·exact absurd ((hl0 q row1 h1).1.trans (hl0 q' row2 h2).1.symm) hne
  ·simp at hq
   unfold onePl
   rw [if_neg (by omega)]
  ·obtain ⟨rfl, rfl⟩ := hl0 q row' h1
   simp only [onePl, if_true] at h2
   exact .inr (hnew r row' L hl h2)
 have sl1 : ∀ (s : Sh) (r off len : Nat) (ex ex' : Bool) (v : Value), (ex' = true → ex = true) → LR ρ' w' T' (.sl s r [] off len ex) v → LR (onePl (ρ' r)) w' T' (.sl s 0 [] off len ex') v := by
  intro s r off len ex ex' v hee hlr
  cases hlr with
  | sl _ _ _ _ _ _ L cap h1 h2 h3 h4 => exact .sl s 0 [] off len ex' L cap (by simp [onePl, h1]) h2 (fun h => h3 (hee h)) h4
  | slz _ _ _ _ _ a => exact .slz s 0 [] off ex' a
 have own2 : ∀ (r r2 : Nat) (row row2 : Row), live rows' r = some row → live rows' r2 = some row2 → r ≠ r2 → row.sh.pure = true → row2.sh.pure = true → VR (twoPl (ρ' r) (ρ' r2)) w' T' d' v → Back (fun d r => d = d' ∧ r = [some row, some row2]) ρ T [] w e w' := by
  intro r r2 row row2 hl hl2 hne2 hp hp2 hv'
  have hl0 : ∀ q row', live [some row, some row2] q = some row' → (q = 0 ∧ row' = row) ∨ (q = 1 ∧ row' = row2) := by
   intro q row' hq
   match q, hq with
   | 0, hq => simp [live] at hq; exact .inl ⟨rfl, hq.symm⟩
   | 1, hq => simp [live] at hq; exact .inr ⟨rfl, hq.symm⟩
   | q + 2, hq => simp [live] at hq
  have t0 : twoPl (ρ' r) (ρ' r2) 0 = ρ' r := by simp [twoPl]
  have t1 : twoPl (ρ' r) (ρ' r2) 1 = ρ' r2 := by simp [twoPl]
  refine ⟨v, d', [some row, some row2], twoPl (ρ' r) (ρ' r2), T', he, ⟨rfl, rfl⟩, ⟨fun q row' L h1 h2 => ?_, fun q q' row1 row3 L L' h1 h2 h3 h4 hne => ?_⟩, fun q hq => ?_, ht,
   ⟨fun r L hr => by rw [hdom r] at hr; (cases hr), hst.tt, hst.tnew, hst.size, hst.keep, fun q row' L h1 h2 => ?_, hst.os, hst.tape, hst.output, by simp, fun r hr => by simp at hr⟩, hv'⟩
  ·rcases hl0 q row' h1 with ⟨rfl, rfl⟩ | ⟨rfl, rfl⟩
   ·rw [t0] at h2
    exact (hrows.row r row' L hl h2).pure (T' := T') hp
   ·rw [t1] at h2
    exact (hrows.row r2 row' L hl2 h2).pure (T' := T') hp2
  ·rcases hl0 q row1 h1 with ⟨rfl, rfl⟩ | ⟨rfl, rfl⟩ <;> rcases hl0 q' row3 h2 with ⟨rfl, rfl⟩ | ⟨rfl, rfl⟩
   ·exact absurd rfl hne
   ·rw [t0] at h3; rw [t1] at h4
    exact hrows.dist r r2 _ _ L L' hl hl2 h3 h4 hne2
   ·rw [t1] at h3; rw [t0] at h4
    exact hrows.dist r2 r _ _ L L' hl2 hl h3 h4 (Ne.symm hne2)
   ·exact absurd rfl hne
  ·simp at hq
   unfold twoPl
   rw [if_neg (by omega), if_neg (by omega)]
  ·rcases hl0 q row' h1 with ⟨rfl, rfl⟩ | ⟨rfl, rfl⟩
   ·rw [t0] at h2
    exact .inr (hnew r row' L hl h2)
   ·rw [t1] at h2
    exact .inr (hnew r2 row' L hl2 h2)
 have sl2 : ∀ (s : Sh) (r r' q off len : Nat) (ex ex' : Bool) (v : Value) (ρ2 : Pl), ρ2 q = ρ' r → (ex' = true → ex = true) → LR ρ' w' T' (.sl s r [] off len ex) v → LR ρ2 w' T' (.sl s q [] off len ex') v := by
  intro s r r' q off len ex ex' v ρ2 hq hee hlr
  cases hlr with
  | sl _ _ _ _ _ _ L cap h1 h2 h3 h4 => exact .sl s q [] off len ex' L cap (by rw [hq]; exact h1) h2 (fun h => h3 (hee h)) h4
  | slz _ _ _ _ _ a => exact .slz s q [] off ex' a
 have done : Back (fun d r => d = d' ∧ r = rows2) ρ T [] w e w' → Back K' ρ T [] w e w' := by
  rintro ⟨v, d2, r2, ρ2, T2, q1, ⟨rfl, rfl⟩, q3⟩
  exact ⟨v, d2, r2, ρ2, T2, q1, hk', q3⟩
 refine done ?_
 cases hx with
 | val _ h1 => exact val (hv.closed h1)
 | frz _ _ h1 => exact frz (view_VR hrows h1 hv)
 | frzT l l' h1 =>
  obtain ⟨vs, rfl, hall⟩ := hv
  refine frz ⟨vs, rfl, ?_⟩
  obtain ⟨g1, g2⟩ := mapO_get h1
  refine ⟨by rw [g1]; exact hall.len, fun i x y hx hy => ?_⟩
  have hil : i < l.length := by rw [← g1]; exact lt_of_get hx
  have hxi := List.getElem?_eq_getElem hil
  have := view_VR hrows (g2 i _ _ hxi hx) (VR.ofVR1 (hall.at_ i _ y hxi hy))
  cases x with
  | tup z =>
   exact (view_tup (g2 i _ _ hxi hx)).elim
  | _ => exact this
 | own s r off len ex ex' row h1 h2 h4 => exact own r row h1 h2 (VR.ofLeaf (sl1 s r off len ex ex' v h4 hv))
 | nil0 s =>
  have hv' := hv.ofRaw
  subst hv'
  refine ⟨_, _, [some ⟨s, []⟩], noPl, T', he, ⟨rfl, rfl⟩, ⟨fun _ _ _ _ h => (by cases h), fun _ _ _ _ _ _ _ _ h => (by cases h)⟩, fun _ _ => rfl, ht,
   ⟨fun r L hr => by rw [hdom r] at hr; (cases hr), hst.tt, hst.tnew, hst.size, hst.keep, fun _ _ _ _ h => (by cases h), hst.os, hst.tape, hst.output, by simp, fun r hr => by simp at hr⟩, VR.ofLeaf (.slz s 0 [] 0 false none)⟩
 | ownT s r off len ex ex' row l h1 h2 h3 h4 =>
  obtain ⟨vs, rfl, hall⟩ := hv
  refine own r row h1 h2 ⟨vs, rfl, ?_⟩
  cases hvs : vs.toList with
  | nil => rw [hvs] at hall; have := hall.len; simp at this
  | cons v0 vs' =>
   rw [hvs] at hall
   refine .cons (VR1.ofLeaf (sl1 s r off len ex ex' v0 h4 hall.head)) ?_
   have ht := hall.tail
   refine ⟨ht.len, fun i x y hx hy => ?_⟩
   exact ((ht.at_ i x y hx hy).closed (hasRefL_mem h3 x (mem_of_get hx))).mono (by intro r L h; cases h) (fun _ _ => rfl) (fun _ h => h)

 | ownU z s r off len ex ex' row l h1 h2 h3 h5 h4 =>
  obtain ⟨vs, rfl, hall⟩ := hv
  refine own r row h1 h2 ⟨vs, rfl, ?_⟩
  refine ⟨by rw [← hall.len]; simp, fun i x y hx hy => ?_⟩
  have same : ∀ x, (z ++ .sl s r [] off len ex :: l)[i]? = some x → hasRef x = false → VR1 (onePl (ρ' r)) w' T' x y := fun x hx hr =>
   ((hall.at_ i x y hx hy).closed hr).mono (by intro r L h; cases h) (fun _ _ => rfl) (fun _ h => h)
  by_cases c : i < z.length
  ·rw [List.getElem?_append_left c] at hx
   exact same x (by rw [List.getElem?_append_left c]; exact hx) (hasRefL_mem h3 x (mem_of_get hx))
  ·rw [List.getElem?_append_right (by omega)] at hx
   have hz : (z ++ .sl s r [] off len ex :: l)[i]? = (D.sl s r [] off len ex :: l)[i - z.length]? := List.getElem?_append_right (by omega)
   cases hi : i - z.length with
   | zero =>
    rw [hi] at hx hz
    simp only [List.getElem?_cons_zero, Option.some.injEq] at hx hz
    subst hx
    exact VR1.ofLeaf (sl1 s r off len ex ex' y h4 (hall.at_ i _ y hz hy))
   | succ m =>
    rw [hi] at hx hz
    simp only [List.getElem?_cons_succ] at hx hz
    exact same x (by rw [hz]; exact hx) (hasRefL_mem h5 x (mem_of_get hx))
 | own2 z y l s s2 r r2 off len off2 len2 ex ex' ex2 ex2' row row2 h1 h2 hne p1 p2 h3 h5 h6 h4 h7 =>
  obtain ⟨vs, rfl, hall⟩ := hv
  refine own2 r r2 row row2 h1 h2 hne p1 p2 ⟨vs, rfl, ?_⟩
  have t0 : twoPl (ρ' r) (ρ' r2) 0 = ρ' r := by simp [twoPl]
  have t1 : twoPl (ρ' r) (ρ' r2) 1 = ρ' r2 := by simp [twoPl]
  refine ⟨by rw [← hall.len]; simp, fun i x x' hx hy => ?_⟩
  have same : ∀ x, (z ++ .sl s r [] off len ex :: (y ++ .sl s2 r2 [] off2 len2 ex2 :: l))[i]? = some x → hasRef x = false → VR1 (twoPl (ρ' r) (ρ' r2)) w' T' x x' := fun x hx hr =>
   ((hall.at_ i x x' hx hy).closed hr).mono (by intro r L h; cases h) (fun _ _ => rfl) (fun _ h => h)
  by_cases c : i < z.length
  ·rw [List.getElem?_append_left c] at hx
   exact same x (by rw [List.getElem?_append_left c]; exact hx) (hasRefL_mem h3 x (mem_of_get hx))
  ·rw [List.getElem?_append_right (by omega)] at hx
   have hz : (z ++ .sl s r [] off len ex :: (y ++ .sl s2 r2 [] off2 len2 ex2 :: l))[i]? = (D.sl s r [] off len ex :: (y ++ .sl s2 r2 [] off2 len2 ex2 :: l))[i - z.length]? := List.getElem?_append_right (by omega)
   cases hi : i - z.length with
   | zero =>
    rw [hi] at hx hz
    simp only [List.getElem?_cons_zero, Option.some.injEq] at hx hz
    subst hx
    exact VR1.ofLeaf (sl2 s r 0 0 off len ex ex' x' _ t0 h4 (hall.at_ i _ x' hz hy))
   | succ m =>
    rw [hi] at hx hz
    simp only [List.getElem?_cons_succ] at hx hz
    by_cases c2 : m < y.length
    ·rw [List.getElem?_append_left c2] at hx hz
     exact same x (by rw [hz]; exact hx) (hasRefL_mem h5 x (mem_of_get hx))
    ·have hz2 : (y ++ D.sl s2 r2 [] off2 len2 ex2 :: l)[m]? = (D.sl s2 r2 [] off2 len2 ex2 :: l)[m - y.length]? := List.getElem?_append_right (by omega)
     rw [List.getElem?_append_right (by omega)] at hx
     rw [hz2] at hz
     cases hm : m - y.length with
     | zero =>
      rw [hm] at hx hz
      simp only [List.getElem?_cons_zero, Option.some.injEq] at hx hz
      subst hx
      exact VR1.ofLeaf (sl2 s2 r2 0 1 off2 len2 ex2 ex2' x' _ t1 h7 (hall.at_ i _ x' hz hy))
     | succ q =>
      rw [hm] at hx hz
      simp only [List.getElem?_cons_succ] at hx hz
      exact same x (by rw [hz]; exact hx) (hasRefL_mem h6 x (mem_of_get hx))
def fnTab : List (Nat × Fn) → FuncId → Option Fn
 | [], _ => none
 | (k, F) :: l, f => bif k == f then some F else fnTab l f
theorem ctx_nil {G : Nat → Option D} : CtxOK ⟨G, fnTab [], fun _ => none⟩ P := ⟨(by intro f F h; cases h), (by intro f F h; cases h)⟩
theorem ctx_cons {G : Nat → Option D} {k : Nat} {F : Fn} {l : List (Nat × Fn)} {r : FuncId → Option AFun} (h : Meets G P k (Fn.run F)) (hl : CtxOK ⟨G, fnTab l, r⟩ P) : CtxOK ⟨G, fnTab ((k, F) :: l), r⟩ P := by
 refine ⟨?_, hl.2⟩
 intro f F' hf
 simp only [fnTab] at hf
 cases hb : (k == f) with
 | true =>
  rw [hb] at hf
  have : k = f := by simpa using hb
  subst this
  cases hf
  exact h
 | false =>
  rw [hb] at hf
  exact hl.1 f F' hf
def afTab : List (Nat × AFun) → FuncId → Option AFun
 | [], _ => none
 | (k, F) :: l, f => bif k == f then some F else afTab l f
theorem ctx_nilr {G : Nat → Option D} : CtxOK ⟨G, fnTab [], afTab []⟩ P := ⟨(by intro f F h; cases h), (by intro f F h; cases h)⟩
theorem ctx_consr {G : Nat → Option D} {k : Nat} {A : AFun} {t : FuncId → Option Fn} {l : List (Nat × AFun)} (h : Meets G P k A) (hl : CtxOK ⟨G, t, afTab l⟩ P) : CtxOK ⟨G, t, afTab ((k, A) :: l)⟩ P := by
 refine ⟨hl.1, ?_⟩
 intro f F' hf
 simp only [afTab] at hf
 cases hb : (k == f) with
 | true =>
  rw [hb] at hf
  have : k = f := by simpa using hb
  subst this
  cases hf
  exact h
 | false =>
  rw [hb] at hf
  exact hl.2 f F' hf
end Go.Am
