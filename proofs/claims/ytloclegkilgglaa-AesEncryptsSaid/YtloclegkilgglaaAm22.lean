/- Code, functions. -/
import Derived.Test.YtloclegkilgglaaAm32
namespace Go.Am
set_option linter.unusedVariables false
set_option linter.unusedSimpArgs false

variable {C : Ctx} {P : Program} {n : Nat} {ρ : Pl} {T : Nat → Prop} {env : Env} {rows : Rows} {a : Act} {w : World}

theorem code_sound (hC : CtxOK C P) : ∀ (c : Code) (ac : ACode), comp P n c = some ac → ∀ (Q : AExit → Env → Rows → Prop) (Q' : Exit → Act → World → Prop) (env : Env) (rows : Rows) (ρ : Pl) (T : Nat → Prop) (a : Act) (w : World),
    aw C ac Q env rows → Sim n ρ T env rows a w → GlobOK C w T → Post n ρ T rows w Q Q' → c.wp P Q' a w := by
  intro c
  induction c with
  | skip =>
    intro ac hc Q Q' env rows ρ T a w h hs hg hp
    simp [comp] at hc; subst hc
    exact wp_skip (hp .normal env rows ρ T a w h hs (Step.refl _ _ _ _))
  | region id ops draw =>
    intro ac hc Q Q' env rows ρ T a w h hs hg hp
    simp only [comp] at hc
    split at hc
    · rename_i al h1
      cases draw with
      | false =>
        simp only [Bool.not_false, cond_true] at hc
        cases hc
        refine wp_region ?_
        have := ops_sound hC ops (Q' := Q') ops.toList 0 (by simp) al h1 env rows ρ T a w (Q .normal) h hs hg (fun env' rows' ρ' T' a' w' hk hs' hst => hp .normal env' rows' ρ' T' a' w' hk hs' hst)
        rw [List.range_eq_range']
        simpa using this
      | true =>
        simp only [Bool.not_true, cond_false] at hc
        cases hdr : (P.follows .mixedOrders && drawOK ops.toList al) with
        | false =>
          rw [hdr] at hc
          simp only [cond_false] at hc
          cases hd2 : (P.follows .mixedOrders && dOK2 ops.toList al (mQ ops.toList al)) with
          | false => rw [hd2] at hc; cases hc; exact h.elim
          | true =>
            rw [hd2] at hc
            simp only [cond_true] at hc
            cases hc
            simp only [Bool.and_eq_true] at hd2
            exact draw2_sound (C := C.quiet) (fun _ => rfl) hC.quiet hd2.1 h1 hd2.2 h hs hg hp
        | true =>
          rw [hdr] at hc
          simp only [cond_true] at hc
          cases hc
          simp only [Bool.and_eq_true] at hdr
          cases hm : leastM ops.toList al with
          | none =>
            have e : drawA ops.toList al = .region true al := by unfold drawA; rw [hm]
            rw [e] at h
            exact draw_sound (C := C.quiet) (fun _ => rfl) hC.quiet hdr.1 h1 hdr.2 h hs hg hp
          | some m =>
            cases hcl : callsA (al.drop m) with
            | false =>
              have e : drawA ops.toList al = .region true al := by unfold drawA; rw [hm]; simp only [hcl, cond_false]
              rw [e] at h
              exact draw_sound (C := C.quiet) (fun _ => rfl) hC.quiet hdr.1 h1 hdr.2 h hs hg hp
            | true =>
              have e : drawA ops.toList al = .draw1 (al.take m) (al.drop m) := by unfold drawA; rw [hm]; simp only [hcl, cond_true]
              rw [e] at h
              exact draw1_sound hC hdr.1 h1 (leastM_ok hm) h hs hg hp
    · cases hc; exact h.elim
  | seq x y ihx ihy =>
    intro ac hc Q Q' env rows ρ T a w h hs hg hp
    obtain ⟨ax, h1, hc⟩ := o2_some hc
    obtain ⟨ay, h2, hc⟩ := o2_some hc
    cases hc
    refine wp_seq (ihx ax h1 _ _ env rows ρ T a w h hs hg ?_)
    intro e env' rows' ρ' T' a' w' hq hs' hst
    cases e with
    | normal => exact ihy ay h2 Q Q' env' rows' ρ' T' a' w' hq hs' (hg.step hs hst) (fun e2 env2 rows2 ρ2 T2 a2 w2 hq2 hs2 hst2 => hp e2 env2 rows2 ρ2 T2 a2 w2 hq2 hs2 (hst.trans hst2))
    | exit i => exact hp (.exit i) env' rows' ρ' T' a' w' hq hs' hst
    | ret => exact hp .ret env' rows' ρ' T' a' w' hq hs' hst
  | cond x p q ihp ihq =>
    intro ac hc Q Q' env rows ρ T a w h hs hg hp
    obtain ⟨x', h1, hc⟩ := o2_some hc
    obtain ⟨ap, h2, hc⟩ := o2_some hc
    obtain ⟨aq, h3, hc⟩ := o2_some hc
    cases hc
    obtain ⟨d, he, hk⟩ := bnd_some h
    split at hk
    · rename_i t
      have hG : Glob C ρ w T := fun g d hd => (hg g d hd).mono (by intro r L h; cases h) (fun _ _ => rfl) (fun _ h => h)
      have hx := ev_raw h1 he hs hG
      refine wp_cond_split hx (fun ht => ?_) (fun ht => ?_)
      · exact ihp ap h2 Q Q' env rows ρ T a w (hk.1 ht) hs hg hp
      · exact ihq aq h3 Q Q' env rows ρ T a w (hk.2 ht) hs hg hp
    · exact hk.elim
  | block id x ih =>
    intro ac hc Q Q' env rows ρ T a w h hs hg hp
    obtain ⟨ax, h1, hc⟩ := o2_some hc
    cases hc
    refine wp_block (ih ax h1 _ _ env rows ρ T a w h hs hg ?_)
    intro e env' rows' ρ' T' a' w' hq hs' hst
    cases e with
    | normal => exact hp .normal env' rows' ρ' T' a' w' hq hs' hst
    | exit i =>
      simp only [exitOf, Exit.inBlock]
      by_cases hi : i = id
      · rw [if_pos hi]; exact hp .normal env' rows' ρ' T' a' w' (hq.1 hi) hs' hst
      · rw [if_neg hi]; exact hp (.exit i) env' rows' ρ' T' a' w' (hq.2 hi) hs' hst
    | ret => exact hp .ret env' rows' ρ' T' a' w' hq hs' hst
  | loop x ih =>
    intro ac hc Q Q' env rows ρ T a w h hs hg hp
    obtain ⟨ax, h1, hc⟩ := o2_some hc
    cases hc
    obtain ⟨m, hm⟩ := h
    refine wp_loop_rounds m ?_
    induction m generalizing env rows ρ T a w with
    | zero => exact hm.elim
    | succ m ihm =>
      refine ih ax h1 _ _ env rows ρ T a w hm hs hg ?_
      intro e env' rows' ρ' T' a' w' hq hs' hst
      cases e with
      | normal => exact ihm env' rows' ρ' T' a' w' hs' (hg.step hs hst) (fun e2 env2 rows2 ρ2 T2 a2 w2 hq2 hs2 hst2 => hp e2 env2 rows2 ρ2 T2 a2 w2 hq2 hs2 (hst.trans hst2)) hq
      | exit i => exact hp (.exit i) env' rows' ρ' T' a' w' hq hs' hst
      | ret => exact hp .ret env' rows' ρ' T' a' w' hq hs' hst
  | exit id =>
    intro ac hc Q Q' env rows ρ T a w h hs hg hp
    simp [comp] at hc; subst hc
    exact wp_exit (hp (.exit id) env rows ρ T a w h hs (Step.refl _ _ _ _))
  | ret =>
    intro ac hc Q Q' env rows ρ T a w h hs hg hp
    simp [comp] at hc; subst hc
    exact wp_ret (hp .ret env rows ρ T a w h hs (Step.refl _ _ _ _))
  | _ => intro ac hc; cases hc; intro Q Q' env rows ρ T a w h; exact h.elim

/-- where a function's results lie -/
inductive ARes where
  | tmp (t : Nat)
  | cell (t : Nat) (s : Sh)
  deriving Inhabited
def cRes (P : Program) : ResultVar → Option ARes
  | .tmp t => some (.tmp t)
  | .cell t ty => o2 (sh P ty) fun s => ifo (leafOk P ty s) (some (.cell t s))
def cRess (P : Program) : List ResultVar → Option (List ARes)
  | [] => some []
  | r :: l => o2 (cRes P r) fun a => o2 (cRess P l) fun b => some (a :: b)
def ares1 (env : Env) (rows : Rows) : ARes → Option D
  | .tmp t => match look env t with
    | some (.tup _) => none
    | d => d
  | .cell t s => match look env t with
    | some (.ptr s' r p) => bif s' == s then (match live rows r with
      | some row => rowGet row.els p
      | none => none) else none
    | _ => none
def ares (env : Env) (rows : Rows) : List ARes → Option (List D)
  | [] => some []
  | r :: l => match ares1 env rows r with
    | some d => match ares env rows l with
      | some ds => some (d :: ds)
      | none => none
    | none => none
def resOf : List D → D
  | [d] => d
  | l => .tup l

def zipEnv : Nat → List D → Env
  | _, [] => []
  | i, d :: l => (i, d) :: zipEnv (i + 1) l

theorem look_zip : ∀ (l : List D) (i t : Nat) (d : D), look (zipEnv i l) t = some d → i ≤ t ∧ l[t - i]? = some d
  | [], i, t, d, h => by simp [zipEnv, look] at h
  | x :: l, i, t, d, h => by
    simp only [zipEnv, look] at h
    cases hb : (i == t) with
    | true =>
      have : i = t := by simpa using hb
      subst this
      simp [hb] at h
      subst h
      simp
    | false =>
      simp [hb] at h
      have hne : i ≠ t := by simpa using hb
      obtain ⟨h1, h2⟩ := look_zip l (i + 1) t d h
      refine ⟨by omega, ?_⟩
      have : t - i = (t - (i + 1)) + 1 := by omega
      rw [this]
      simpa using h2

theorem res_sound (hs : Sim n ρ T env rows a w) : ∀ {l : List ResultVar} {l' : List ARes} {ds : List D}, cRess P l = some l' → ares env rows l' = some ds →
    ∃ vs : List Value, (l.mapM (fun r : ResultVar => (match r with | .tmp t => pure (a.tmps.getD t undef) | .cell x t => do loadVar t (← asAddr (a.tmps.getD x undef)) : Sem Value))).run P w = .ok vs w ∧ All2 (VR1 ρ w T) ds vs
  | [], l', ds, h1, h2 => by
    simp [cRess] at h1; subst h1
    simp [ares] at h2; subst h2
    exact ⟨[], by simp, .nil⟩
  | r :: l, l', ds, h1, h2 => by
    obtain ⟨r', g1, h1⟩ := o2_some h1
    obtain ⟨q, g2, h1⟩ := o2_some h1
    cases h1
    simp only [ares] at h2
    split at h2
    · rename_i d hd
      split at h2
      · rename_i ds' hds
        cases h2
        obtain ⟨vs, k1, k2⟩ := res_sound hs g2 hds
        have one : ∃ v, (match r with | .tmp t => pure (a.tmps.getD t undef) | .cell x t => do loadVar t (← asAddr (a.tmps.getD x undef)) : Sem Value).run P w = .ok v w ∧ VR1 ρ w T d v := by
          cases r with
          | tmp t =>
            simp [cRes] at g1
            subst g1
            simp only [ares1] at hd
            refine ⟨a.tmps.getD t undef, by simp, ?_⟩
            split at hd
            · cases hd
            · rename_i x hx
              have := hs.env t d hd
              cases d with
              | tup z => exact absurd hd (by intro h; exact hx z h)
              | _ => exact this
          | cell x t =>
            obtain ⟨s, g3, g1⟩ := o2_some g1
            obtain ⟨g4, g1⟩ := ifo_some g1
            cases g1
            simp only [ares1] at hd
            split at hd
            · rename_i s' rr p hlk
              cases hss : (s' == s) with
              | false => rw [hss] at hd; simp at hd
              | true =>
                have hss' : s' = s := by simpa using hss
                subst hss'
                simp only [hss, cond_true] at hd
                split at hd
                · rename_i row hl
                  have hv := hs.env x _ hlk
                  obtain ⟨b, o', cs, hx, m1, m2, m3⟩ := hs.rowsOK.readPtr (show LR ρ w T _ _ from hv) hl hd
                  have hlen := m2.len
                  rw [m1.len] at hlen
                  refine ⟨ofCells s' cs, ?_, ?_⟩
                  · simp only [Sem.run_bind]
                    rw [hx]
                    simp [asAddr, run_loadVar_at g3 g4 m3 hlen.symm (leaf_one m1 m2)]
                  · have := VR.ofCells (ρ := ρ) (T := T) m1 m2
                    unfold ofCells at this ⊢
                    cases hag : s'.isAgg with
                    | true => exact VR1.ofAgg m1 hag (by simpa using m2)
                    | false =>
                      have hlf := m1.leafOf hag
                      rw [leaf_flat hlf] at m2
                      have hl2 := m2.len
                      match cs, hl2 with
                      | [c], _ => exact VR1.ofLeaf m2.head
                · cases hd
            · cases hd
        obtain ⟨v, m1, m2⟩ := one
        refine ⟨v :: vs, ?_, .cons m2 k2⟩
        rw [List.mapM_cons]
        simp only [Sem.run_bind, m1, k1, Result.andThen_ok, Sem.run_pure]
      · cases h2
    · cases h2

/-- a function, as its code has it -/
def afun (C : Ctx) (np : Nat) (res : List ARes) (ac : ACode) : AFun := fun ds rows K =>
  ds.length = np ∧ aw C ac (fun e env rows' => (e = .normal ∨ e = .ret) ∧ bnd (ares env rows' res) fun l => K (resOf l) rows') (zipEnv 0 ds) rows

theorem fn_sound (hC : CtxOK C P) {f : FuncId} {fn : Func} {ac : ACode} {res : List ARes} {np : Nat} (hf : P.funcs[f]? = some fn) (hb : o2 fn.body (comp P fn.ntmps) = some ac) (hr : cRess P fn.results.toList = some res) (hnp : np ≤ fn.ntmps) :
    Meets C.glob P f (afun C np res ac) := by
  intro ds rows K ⟨hlen, h⟩ ρ w T args hrows hdom htlt hargs hG0
  obtain ⟨c, hbody, hcomp⟩ := o2_some hb
  refine calls_of_wp hf hbody ?_
  have hal : args.size = np := by rw [← hlen]; simpa using hargs.len.symm
  have hs : Sim fn.ntmps ρ T (zipEnv 0 ds) rows { tmps := args ++ Array.replicate (fn.ntmps - args.size) undef, defers := [] } w := by
    refine ⟨hrows, fun t d hd => ?_, by simp; omega, htlt, hdom, rfl⟩
    obtain ⟨_, h2⟩ := look_zip ds 0 t d hd
    rw [Nat.sub_zero] at h2
    obtain ⟨v, hv, hvr⟩ := hargs.some h2
    have hv' : args[t]? = some v := by simpa using hv
    have hlt : t < args.size := (Array.getElem?_eq_some_iff.1 hv').1
    have : (args ++ Array.replicate (fn.ntmps - args.size) undef).getD t undef = v := by
      simp only [Array.getD_eq_getD_getElem?]
      rw [Array.getElem?_append_left hlt, hv']
      rfl
    rw [this]
    exact hvr
  refine code_sound hC c ac hcomp _ _ _ rows ρ T _ w h hs hG0 ?_
  intro e env' rows' ρ' T' a' w' ⟨he, hk⟩ hs' hst
  obtain ⟨l, hl, hk⟩ := bnd_some hk
  obtain ⟨vs, h1, h2⟩ := res_sound hs' hr hl
  have hres : ∃ v, (results fn a'.tmps).run P w' = .ok v w' ∧ VR ρ' w' T' (resOf l) v := by
    have hm : (fn.results.mapM (fun r : ResultVar => (match r with | .tmp t => pure (a'.tmps.getD t undef) | .cell x t => do loadVar t (← asAddr (a'.tmps.getD x undef)) : Sem Value))).run P w' = .ok vs.toArray w' := by
      rw [Array.mapM_eq_mapM_toList]
      simp only [Sem.run_map, h1, Result.andThen_ok]
    have hlen := h2.len
    have e0 : (results fn a'.tmps).run P w' = ((fn.results.mapM (fun r : ResultVar => (match r with | .tmp t => pure (a'.tmps.getD t undef) | .cell x t => do loadVar t (← asAddr (a'.tmps.getD x undef)) : Sem Value))).run P w').andThen
        fun vs w' => (pure (if h : vs.size = 1 then vs[0] else .tuple vs) : Sem Value).run P w' := by
      unfold results
      rw [Sem.run_bind]
      rfl
    rw [e0, hm]
    simp only [Result.andThen_ok, Sem.run_pure, List.size_toArray]
    by_cases h1' : vs.length = 1
    · have hl1 : l.length = 1 := by omega
      obtain ⟨v, rfl⟩ := List.length_eq_one_iff.1 h1'
      obtain ⟨d, rfl⟩ := List.length_eq_one_iff.1 hl1
      exact ⟨v, by simp, VR.ofVR1 h2.head⟩
    · refine ⟨.tuple vs.toArray, by simp [h1'], ?_⟩
      have : resOf l = .tup l := by
        have hl1 : l.length ≠ 1 := by omega
        clear hlen h2 hl hk h1 hm e0
        match l, hl1 with
        | [], _ => rfl
        | [d], hq => exact absurd rfl hq
        | _ :: _ :: _, _ => rfl
      rw [this]
      exact ⟨vs.toArray, rfl, by simpa using h2⟩
  obtain ⟨v, hv1, hv2⟩ := hres
  have hback : Back K ρ T rows w (.returned v) w' := ⟨v, resOf l, rows', ρ', T', rfl, hk, hs'.rowsOK, hs'.dom, hs'.tlt, hst, hv2⟩
  rcases he with rfl | rfl
  · exact ⟨hs'.defers, v, hv1, hback⟩
  · exact ⟨hs'.defers, v, hv1, hback⟩

end Go.Am
