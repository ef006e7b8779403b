/- Calls evaluated; arguments made alike; loops that count. -/
import Derived.Test.YtloclegkilgglaaAm25
namespace Go.Am
set_option linter.unusedVariables false
set_option linter.unusedSimpArgs false

theorem fn1_ev {α : Type} (rd : D → Option α) (pre : α → Bool) (out : α → D × Rows) (d : D) : fn1 rd pre out [d] [] = (rd d).bind fun x => bif pre x then some (out x) else none := by
  simp only [fn1]; cases rd d <;> rfl
theorem fn2_ev {α β : Type} (rd : D → Option α) (rd' : D → Option β) (pre : α → β → Bool) (out : α → β → D × Rows) (d e : D) :
    fn2 rd rd' pre out [d, e] [] = (rd d).bind fun x => (rd' e).bind fun y => bif pre x y then some (out x y) else none := by
  simp only [fn2]; cases rd d <;> cases rd' e <;> rfl
theorem ble_most (n : Nat) : Nat.ble n most = decide (n ≤ 1099511627776) := by
  unfold most
  cases h : Nat.ble n 1099511627776 with
  | true => rw [Nat.ble_eq] at h; simp [h]
  | false =>
    have : ¬ n ≤ 1099511627776 := fun h' => by rw [Nat.ble_eq_true_of_le h'] at h; cases h
    simp [this]
theorem ble_lit (n : Nat) : Nat.ble n 1099511627776 = decide (n ≤ 1099511627776) := ble_most n
def fn3 {α β γ : Type} (rd : D → Option α) (rd' : D → Option β) (rd2 : D → Option γ) (pre : α → β → γ → Bool) (out : α → β → γ → D × Rows) : Fn
  | [d, e, f], [] => match rd d, rd' e, rd2 f with
    | some x, some y, some z => bif pre x y z then some (out x y z) else none
    | _, _, _ => none
  | _, _ => none
theorem fn3_some {α β γ : Type} {rd : D → Option α} {rd' : D → Option β} {rd2 : D → Option γ} {pre : α → β → γ → Bool} {out : α → β → γ → D × Rows} {ds : List D} {rows : Rows} {r : D × Rows} (h : fn3 rd rd' rd2 pre out ds rows = some r) :
    ∃ d e f x y z, ds = [d, e, f] ∧ rows = [] ∧ rd d = some x ∧ rd' e = some y ∧ rd2 f = some z ∧ pre x y z = true ∧ r = out x y z := by
  unfold fn3 at h
  split at h
  · rename_i d e f
    split at h
    · rename_i x y z hx hy hz
      cases hp : pre x y z with
      | false => rw [hp] at h; cases h
      | true => rw [hp] at h; cases h; exact ⟨d, e, f, x, y, z, rfl, rfl, hx, hy, hz, hp, rfl⟩
    · cases h
  · cases h
theorem fn3_ev {α β γ : Type} (rd : D → Option α) (rd' : D → Option β) (rd2 : D → Option γ) (pre : α → β → γ → Bool) (out : α → β → γ → D × Rows) (d e f : D) :
    fn3 rd rd' rd2 pre out [d, e, f] [] = (rd d).bind fun x => (rd' e).bind fun y => (rd2 f).bind fun z => bif pre x y z then some (out x y z) else none := by
  simp only [fn3]; cases rd d <;> cases rd' e <;> cases rd2 f <;> rfl

theorem fn_meetsN {P : Program} {G : Nat → Option D} {f : FuncId} {A : AFun} {F : Fn} (hA : Meets G P f A)
    (h : ∀ ds rows r, F ds rows = some r → rows = [] ∧ ∃ ds', All2 Nrm ds ds' ∧ A ds' [] (fun d rows => Expo rows d r.1 r.2)) : Meets G P f (Fn.run F) := by
  intro ds rows K hr ρ w T args hrows hdom htlt hargs hG
  unfold Fn.run at hr
  obtain ⟨r, hr, hk⟩ := bnd_some hr
  obtain ⟨rfl, ds', h1, h2⟩ := h ds rows r hr
  have hdom' : ∀ r, ρ r = none := fun r => hdom r (by simp)
  have hargs' : All2 (VR ρ w T) ds' args.toList := by
    refine ⟨by rw [← h1.len]; exact hargs.len, fun i x y hx hy => ?_⟩
    have hi : i < ds.length := by rw [h1.len]; exact lt_of_get hx
    have hd := List.getElem?_eq_getElem hi
    exact (h1.at_ i _ x hd hx).vr (hargs.at_ i _ y hd hy)
  exact (hA ds' [] _ h2 ρ w T args hrows hdom htlt hargs' hG).mono fun e w' hb => Back.expo hdom' hb fun d rows hx => ⟨_, _, hx, hk⟩
theorem IsBs.nrm {d : D} {l : List (BitVec 8)} (h : IsBs d l) : ∃ e, Nrm d (.lst L8 (bs l) e) := by
  rcases h with ⟨rfl, rfl⟩ | ⟨e, rfl⟩
  · exact ⟨true, .nil _ _⟩
  · exact ⟨e, .refl _⟩
theorem rdBs_nrm {d : D} {l : List (BitVec 8)} (h : rdBs d = some l) : ∃ e, Nrm d (.lst L8 (bs l) e) := (rdBs_some h).nrm

/-- lists of data of one form -/
noncomputable def rdLst {α : Type} (s : Sh) (mk : α → D) : D → Option (List α)
  | .raw (.slice none 0 0) => some []
  | .lst t l _ => bif t == s then mapO (rdOf mk) l else none
  | _ => none
theorem rdLst_nrm {α : Type} {s : Sh} {mk : α → D} {d : D} {l : List α} (h : rdLst s mk d = some l) : ∃ e, Nrm d (.lst s (l.map mk) e) := by
  unfold rdLst at h
  split at h
  · cases h; exact ⟨true, .nil _ _⟩
  · rename_i t l0 e
    cases hb : (t == s) with
    | false => rw [hb] at h; cases h
    | true =>
      rw [hb] at h
      have : t = s := by simpa using hb
      subst this
      obtain ⟨g1, g2⟩ := mapO_get h
      have : l0 = l.map mk := by
        apply List.ext_getElem
        · simp [g1]
        · intro i h1 h2
          have h3 : i < l.length := by omega
          have := rdOf_some (g2 i _ _ (List.getElem?_eq_getElem h1) (List.getElem?_eq_getElem h3))
          simpa using this
      rw [this]
      exact ⟨e, .refl _⟩
  · cases h
theorem rdLst_eq {α : Type} {s : Sh} {mk : α → D} (hinj : ∀ x y, mk x = mk y → x = y) (l : List α) (e : Bool) : rdLst s mk (.lst s (l.map mk) e) = some l := by
  simp only [rdLst]
  rw [show (s == s) = true by simp, cond_true]
  induction l with
  | nil => rfl
  | cons x l ih => simp only [List.map_cons, mapO, rdOf_eq hinj, ih]
theorem bs_set (l : List (BitVec 8)) (i : Nat) (x : BitVec 8) : (bs l).set i (.raw (u8 x)) = bs (l.set i x) := by simp [bs, List.map_set]
theorem bs_take_len (l : List (BitVec 8)) : (bs l).take l.length = bs l := by rw [← bs_len l, List.take_length]
theorem idx_bs (l : List (BitVec 8)) (e : Bool) (i : Nat) (h : i < l.length) (rows : Rows) (k : D → Rows → Prop) : kIdx L8 (i : Int) rows k (.lst L8 (bs l) e) = k (.cptr (.raw (u8 (l.getD i 0#8)))) rows := by
  have := kIdx_bs (k := k) (rows := rows) (n := (i : Int)) (.inr ⟨e, rfl⟩ : IsBs (.lst L8 (bs l) e) l) (by omega)
  simpa using this

/-- a loop that counts: what the slots hold, what the rows are -/
theorem kLoop_for {C : Ctx} {a : ACode} {Q : AExit → Env → Rows → Prop} (N : Nat) (st : Nat → Env) (I : Nat → Rows → Prop)
    (hstep : ∀ i, i < N → ∀ env rows, has env (st i) → I i rows → ∀ R : Env → Rows → Prop, (∀ env' rows', has env' (st (i + 1)) → I (i + 1) rows' → R env' rows') → aw C a (kRnd R Q) env rows)
    (hend : ∀ env rows, has env (st N) → I N rows → ∀ R : Env → Rows → Prop, aw C a (kRnd R Q) env rows) {env : Env} {rows : Rows} (h0 : has env (st 0)) (hr : I 0 rows) : kLoop C a Q env rows := by
  refine kLoop_inv (fun k env rows => ∃ i, k = N - i ∧ i ≤ N ∧ has env (st i) ∧ I i rows) ?_ N ⟨0, by simp, by omega, h0, hr⟩
  rintro k env rows ⟨i, rfl, hi, hh, hr⟩ R hR
  rcases Nat.lt_or_ge i N with h | h
  · exact hstep i h env rows hh hr R (fun env' rows' h1 h2 => hR (N - (i + 1)) env' rows' (by omega) ⟨i + 1, rfl, by omega, h1, h2⟩)
  · have : i = N := by omega
    subst this
    exact hend env rows hh hr R
theorem kLoop_up {C : Ctx} {a : ACode} {Q : AExit → Env → Rows → Prop} (N : Nat) (I : Nat → Env → Rows → Prop)
    (hstep : ∀ i, i < N → ∀ env rows, I i env rows → ∀ R : Env → Rows → Prop, (∀ env' rows', I (i + 1) env' rows' → R env' rows') → aw C a (kRnd R Q) env rows)
    (hend : ∀ env rows, I N env rows → ∀ R : Env → Rows → Prop, aw C a (kRnd R Q) env rows) {env : Env} {rows : Rows} (h0 : I 0 env rows) : kLoop C a Q env rows := by
  refine kLoop_inv (fun k env rows => ∃ i, k = N - i ∧ i ≤ N ∧ I i env rows) ?_ N ⟨0, by simp, by omega, h0⟩
  rintro k env rows ⟨i, rfl, hi, hh⟩ R hR
  rcases Nat.lt_or_ge i N with h | h
  · exact hstep i h env rows hh R (fun env' rows' h1 => hR (N - (i + 1)) env' rows' (by omega) ⟨i + 1, rfl, by omega, h1⟩)
  · have : i = N := by omega
    subst this
    exact hend env rows hh R
/-- rows that lie behind others -/
theorem lv_app0 (R l : Rows) : live (R ++ l) R.length = live l 0 := by
  simp only [live]
  rw [List.getElem?_append_right (Nat.le_refl _), Nat.sub_self]
theorem lv_appk (R l : Rows) (k : Nat) : live (R ++ l) (R.length + k) = live l k := by
  simp only [live]
  rw [List.getElem?_append_right (by omega)]
  simp
theorem set_app0 (R l : Rows) (x : Option Row) : (R ++ l).set R.length x = R ++ l.set 0 x := by rw [List.set_append_right _ _ (Nat.le_refl _)]; simp
theorem set_appk (R l : Rows) (k : Nat) (x : Option Row) : (R ++ l).set (R.length + k) x = R ++ l.set k x := by rw [List.set_append_right _ _ (by omega)]; simp
theorem set_app (R l : Rows) (r : Nat) (x : Option Row) {y : Row} (h : live R r = some y) : (R ++ l).set r x = R.set r x ++ l := List.set_append_left _ _ (live_lt h)
theorem live_app {R : Rows} {r : Nat} {y : Row} (h : live R r = some y) (l : Rows) : live (R ++ l) r = some y := live_push h
theorem wz_succ (i : Nat) (h : i < 9223372036854775807) : wz ((i : Int) + 1) = ((i + 1 : Nat) : Int) := by rw [wz_id (by omega)]; omega
theorem lt_cast (i n : Nat) : ((i : Int) < (n : Int)) = (i < n) := by simp
end Go.Am
