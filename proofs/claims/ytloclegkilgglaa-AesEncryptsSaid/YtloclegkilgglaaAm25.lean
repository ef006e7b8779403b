/- Loops by an invariant; slices of our own; reading arguments. -/
import Derived.Test.YtloclegkilgglaaAm24
namespace Go.Am
set_option linter.unusedVariables false
set_option linter.unusedSimpArgs false

/-- a loop's round -/
def kRnd (R : Env → Rows → Prop) (Q : AExit → Env → Rows → Prop) : AExit → Env → Rows → Prop := fun e env rows => match e with
  | .normal => R env rows
  | e => Q e env rows
theorem q_rn (R Q env rows) : kRnd R Q .normal env rows = R env rows := Eq.trans rfl rfl
theorem q_rr (R Q env rows) : kRnd R Q .ret env rows = Q .ret env rows := Eq.trans rfl rfl
theorem q_re (R Q i env rows) : kRnd R Q (.exit i) env rows = Q (.exit i) env rows := Eq.trans rfl rfl

theorem kLoop_inv {C : Ctx} {a : ACode} {Q : AExit → Env → Rows → Prop} (I : Nat → Env → Rows → Prop)
    (h : ∀ k env rows, I k env rows → ∀ R : Env → Rows → Prop, (∀ k' env' rows', k' < k → I k' env' rows' → R env' rows') → aw C a (kRnd R Q) env rows) (k : Nat) {env : Env} {rows : Rows} (h0 : I k env rows) : kLoop C a Q env rows := by
  have key : ∀ n k env rows, k < n → I k env rows → loopN (aw C a) Q n env rows := by
    intro n
    induction n with
    | zero => intro k env rows hk; omega
    | succ n ih =>
      intro k env rows hk hi
      exact h k env rows hi (loopN (aw C a) Q n) (fun k' env' rows' hk' hi' => ih k' env' rows' (by omega) hi')
  exact ⟨k + 1, key (k + 1) k env rows (by omega) h0⟩

/-- what an environment bears -/
def has (env : Env) : Env → Prop
  | [] => True
  | (t, d) :: l => look env t = some d ∧ has env l

/-- a slice that is ours: nil, or the beginning of a row -/
def Own (s : Sh) (d : D) (rows : Rows) (els : List D) : Prop :=
  (els = [] ∧ d = .raw (.slice none 0 0)) ∨ ∃ r ex, d = .sl s r [] 0 els.length ex ∧ live rows r = some ⟨s, els⟩

theorem Own.nil {s : Sh} {rows : Rows} : Own s (.raw (.slice none 0 0)) rows [] := .inl ⟨rfl, rfl⟩
theorem Own.elems {s : Sh} {d : D} {rows : Rows} {els : List D} (h : Own s d rows els) : elems rows d = some els := by
  rcases h with ⟨rfl, rfl⟩ | ⟨r, ex, rfl, hl⟩
  · rfl
  · simp only [Am.elems, hl]; simp
theorem Own.slen {s : Sh} {d : D} {rows : Rows} {els : List D} (h : Own s d rows els) : slen d = some els.length := by
  rcases h with ⟨rfl, rfl⟩ | ⟨r, ex, rfl, hl⟩
  · rfl
  · rfl
theorem Own.sshape {s : Sh} {d : D} {rows : Rows} {els : List D} (h : Own s d rows els) : sshape s d = true := by
  rcases h with ⟨rfl, rfl⟩ | ⟨r, ex, rfl, hl⟩
  · rfl
  · simp [Am.sshape]

theorem live_len {rows : Rows} {x : Row} : live (rows ++ [some x]) rows.length = some x := by simp [live]
theorem live_push {rows more : Rows} {r : Nat} {x : Row} (h : live rows r = some x) : live (rows ++ more) r = some x := by
  have := live_lt h
  unfold live at h ⊢
  rw [List.getElem?_append_left this]; exact h

theorem app_own {s : Sh} {d : D} {rows : Rows} {els news : List D} {bytes : Nat} {k : D → Rows → Prop} (h : Own s d rows els) (hb : (els.length + news.length) * bytes ≤ most) (hb2 : els.length + news.length ≤ most)
    (hk : ∀ d' rows', Own s d' rows' (els ++ news) → (∀ r x, live rows r = some x → (∀ ex, d ≠ .sl s r [] 0 els.length ex) → live rows' r = some x) → rows'.length = rows.length + 1 → (∃ r ex, d' = .sl s r [] 0 (els ++ news).length ex) → k d' rows') : aApp rows s bytes d news k := by
  unfold aApp
  rw [h.elems, h.slen]
  refine ⟨h.sshape, rfl, hb, hb2, ?_⟩
  have e : els.length + news.length = (els ++ news).length := by simp
  rcases h with ⟨rfl, rfl⟩ | ⟨r, ex, rfl, hl⟩
  · simp only [isNil, Bool.true_or, cond_true, kill, e]
    refine hk _ _ (.inr ⟨rows.length, false, rfl, live_len⟩) (fun r x hx _ => live_push hx) (by simp) ⟨_, _, rfl⟩
  · simp only [isNil, owned, Bool.false_or, cond_true, kill, e]
    have h1 : (rows.set r none).length = rows.length := by simp
    refine hk _ _ (.inr ⟨rows.length, false, rfl, by rw [← h1]; exact live_len⟩) (fun r' x hx hne => ?_) (by simp) ⟨_, _, rfl⟩
    have hr : r ≠ r' := fun e => hne ex (by rw [e])
    refine live_push ?_
    unfold live at hx ⊢
    rw [List.getElem?_set_ne hr]; exact hx

/-- appending to a slice without room, that isn't ours: a new row -/
theorem app_ex {s : Sh} {d : D} {rows : Rows} {els news : List D} {bytes : Nat} {k : D → Rows → Prop} (h : elems rows d = some els) (hn : slen d = some els.length) (hs : sshape s d = true) (hx : exact d = true) (ho : (isNil d || owned d) = false)
    (hb : (els.length + news.length) * bytes ≤ most) (hb2 : els.length + news.length ≤ most) (h0 : news = [] → k d rows) (hk : news ≠ [] → k (.sl s rows.length [] 0 (els ++ news).length false) (rows ++ [some ⟨s, els ++ news⟩])) : aApp rows s bytes d news k := by
  unfold aApp
  rw [h, hn]
  refine ⟨hs, rfl, hb, hb2, ?_⟩
  rw [ho]
  refine ⟨hx, fun h1 => h0 (List.eq_nil_of_length_eq_zero h1), fun h1 => ?_⟩
  have := hk (fun e => h1 (by simp [e]))
  simpa using this

/-- reading -/
def bs (l : List (BitVec 8)) : List D := l.map fun b => .raw (u8 b)
def rd8 : D → Option (BitVec 8)
  | .raw (.int .u8 n) => bif decide (0 ≤ n) && decide (n < 256) then some (BitVec.ofInt 8 n) else none
  | _ => none
def rd32 : D → Option (BitVec 32)
  | .raw (.int .u32 n) => bif decide (0 ≤ n) && decide (n < 4294967296) then some (BitVec.ofInt 32 n) else none
  | _ => none
def rd64 : D → Option (BitVec 64)
  | .raw (.int .u64 n) => bif decide (0 ≤ n) && decide (n < 18446744073709551616) then some (BitVec.ofInt 64 n) else none
  | _ => none
def rdI : D → Option Int
  | .raw (.int .i64 n) => some n
  | _ => none
theorem rd8_eq (x : BitVec 8) : rd8 (.raw (u8 x)) = some x := by
  have := lt8 x
  simp only [rd8, u8]
  rw [show (decide (0 ≤ (x.toNat : Int)) && decide ((x.toNat : Int) < 256)) = true by simp; omega]
  simp
theorem rd32_eq (x : BitVec 32) : rd32 (.raw (u32 x)) = some x := by
  have := lt32 x
  simp only [rd32, u32]
  rw [show (decide (0 ≤ (x.toNat : Int)) && decide ((x.toNat : Int) < 4294967296)) = true by simp; omega]
  simp
theorem rd64_eq (x : BitVec 64) : rd64 (.raw (u64 x)) = some x := by
  have := lt64 x
  simp only [rd64, u64]
  rw [show (decide (0 ≤ (x.toNat : Int)) && decide ((x.toNat : Int) < 18446744073709551616)) = true by simp; omega]
  simp
theorem rdI_eq (n : Int) : rdI (.raw (it n)) = some n := rfl
theorem rd8_some {d : D} {x : BitVec 8} (h : rd8 d = some x) : d = .raw (u8 x) := by
  unfold rd8 at h
  split at h
  · rename_i n
    cases hb : (decide (0 ≤ n) && decide (n < 256)) with
    | false => rw [hb] at h; cases h
    | true =>
      rw [hb] at h
      simp only [cond_true, Option.some.injEq] at h
      simp only [Bool.and_eq_true, decide_eq_true_eq] at hb
      subst h
      unfold u8
      rw [BitVec.toNat_ofInt]
      congr 2
      simp; omega
  · cases h
theorem rd32_some {d : D} {x : BitVec 32} (h : rd32 d = some x) : d = .raw (u32 x) := by
  unfold rd32 at h
  split at h
  · rename_i n
    cases hb : (decide (0 ≤ n) && decide (n < 4294967296)) with
    | false => rw [hb] at h; cases h
    | true =>
      rw [hb] at h
      simp only [cond_true, Option.some.injEq] at h
      simp only [Bool.and_eq_true, decide_eq_true_eq] at hb
      subst h
      unfold u32
      rw [BitVec.toNat_ofInt]
      congr 2
      simp; omega
  · cases h
theorem rd64_some {d : D} {x : BitVec 64} (h : rd64 d = some x) : d = .raw (u64 x) := by
  unfold rd64 at h
  split at h
  · rename_i n
    cases hb : (decide (0 ≤ n) && decide (n < 18446744073709551616)) with
    | false => rw [hb] at h; cases h
    | true =>
      rw [hb] at h
      simp only [cond_true, Option.some.injEq] at h
      simp only [Bool.and_eq_true, decide_eq_true_eq] at hb
      subst h
      unfold u64
      rw [BitVec.toNat_ofInt]
      congr 2
      simp; omega
  · cases h
theorem rdI_some {d : D} {x : Int} (h : rdI d = some x) : d = .raw (it x) := by
  unfold rdI at h
  split at h
  · cases h; rfl
  · cases h
/-- a byte slice that is handed in -/
def rdBs : D → Option (List (BitVec 8))
  | .raw (.slice none 0 0) => some []
  | .lst s l _ => bif s == .leaf u8s then mapO rd8 l else none
  | _ => none
theorem mapO_bs (l : List (BitVec 8)) : mapO rd8 (bs l) = some l := by
  induction l with
  | nil => rfl
  | cons x l ih =>
    simp only [bs, List.map_cons, mapO, rd8_eq]
    have : mapO rd8 (List.map (fun b => D.raw (u8 b)) l) = some l := ih
    rw [this]
theorem mapO_bs' : ∀ {l : List D} {l' : List (BitVec 8)}, mapO rd8 l = some l' → l = bs l'
  | [], l', h => by simp [mapO] at h; subst h; rfl
  | x :: l, l', h => by
    simp only [mapO] at h
    split at h
    · rename_i y hy
      split at h
      · rename_i ys hys
        cases h
        rw [rd8_some hy, mapO_bs' hys]
        rfl
      · cases h
    · cases h
theorem rdBs_lst (l : List (BitVec 8)) (e : Bool) : rdBs (.lst (.leaf u8s) (bs l) e) = some l := by
  simp only [rdBs]
  rw [show ((Sh.leaf u8s) == .leaf u8s) = true by simp, cond_true, mapO_bs]
theorem rdBs_nil : rdBs (.raw (.slice none 0 0)) = some [] := rfl
/-- a byte slice's D -/
def IsBs (d : D) (l : List (BitVec 8)) : Prop := (d = .raw (.slice none 0 0) ∧ l = []) ∨ ∃ e, d = .lst (.leaf u8s) (bs l) e
theorem rdBs_some {d : D} {l : List (BitVec 8)} (h : rdBs d = some l) : IsBs d l := by
  unfold rdBs at h
  split at h
  · cases h; exact .inl ⟨rfl, rfl⟩
  · rename_i s l0 e
    cases hb : (s == .leaf u8s) with
    | false => rw [hb] at h; cases h
    | true =>
      rw [hb] at h
      have : s = .leaf u8s := by simpa using hb
      subst this
      exact .inr ⟨e, by rw [mapO_bs' h]⟩
  · cases h
theorem IsBs.elems {d : D} {l : List (BitVec 8)} {rows : Rows} (h : IsBs d l) : elems rows d = some (bs l) := by
  rcases h with ⟨rfl, rfl⟩ | ⟨e, rfl⟩ <;> rfl
theorem IsBs.slen {d : D} {l : List (BitVec 8)} (h : IsBs d l) : slen d = some l.length := by
  rcases h with ⟨rfl, rfl⟩ | ⟨e, rfl⟩
  · rfl
  · simp [Am.slen, bs]
theorem IsBs.sshape {d : D} {l : List (BitVec 8)} (h : IsBs d l) : sshape (.leaf u8s) d = true := by
  rcases h with ⟨rfl, rfl⟩ | ⟨e, rfl⟩
  · rfl
  · simp [Am.sshape]
theorem IsBs.rd {d : D} {l : List (BitVec 8)} (h : IsBs d l) : rdBs d = some l := by
  rcases h with ⟨rfl, rfl⟩ | ⟨e, rfl⟩
  · rfl
  · exact rdBs_lst l e
theorem kIdx_bs {d : D} {l : List (BitVec 8)} {n : Int} {rows : Rows} {k : D → Rows → Prop} (h : IsBs d l) (hn : 0 ≤ n ∧ n < l.length) : kIdx (.leaf (.int .u8)) n rows k d = k (.cptr (.raw (u8 (l.getD n.toNat 0#8)))) rows := by
  rcases h with ⟨rfl, rfl⟩ | ⟨e, rfl⟩
  · simp at hn; omega
  · have h1 : n.toNat < l.length := by omega
    have h2 : (bs l)[n.toNat]? = some (.raw (u8 (l.getD n.toNat 0#8))) := by simp [bs, h1]
    simp only [kIdx, h2, bnd]
    simp [bs, hn]
theorem kSlice_bs {d : D} {l : List (BitVec 8)} {lo hi : Option Int} {rows : Rows} {k : D → Rows → Prop} (h : IsBs d l) (h1 : 0 ≤ lo.getD 0) (h2 : lo.getD 0 ≤ hi.getD l.length) (h3 : hi.getD l.length ≤ l.length)
    (hk : ∀ d', IsBs d' ((l.drop (lo.getD 0).toNat).take ((hi.getD l.length).toNat - (lo.getD 0).toNat)) → k d' rows) : kSlice (.leaf (.int .u8)) lo hi none rows k d := by
  unfold kSlice
  rw [h.slen]
  refine ⟨h1, by simpa using h2, by simp, by simpa using h3, ?_⟩
  rcases h with ⟨rfl, rfl⟩ | ⟨e, rfl⟩
  · refine hk _ (.inl ⟨rfl, by simp⟩)
  · have := hk (.lst (.leaf u8s) (((bs l).drop (lo.getD 0).toNat).take ((hi.getD l.length).toNat - (lo.getD 0).toNat)) (exOf none (hi.getD l.length).toNat (hi.getD l.length).toNat (bs l).length e)) (.inr ⟨exOf none (hi.getD l.length).toNat (hi.getD l.length).toNat (bs l).length e, by simp only [bs, List.map_take, List.map_drop]⟩)
    exact ⟨rfl, this⟩
theorem bs_len (l : List (BitVec 8)) : (bs l).length = l.length := by simp [bs]
theorem bs_app (a b : List (BitVec 8)) : bs a ++ bs b = bs (a ++ b) := by simp [bs]
theorem bs_get {l : List (BitVec 8)} {i : Nat} (h : i < l.length) : (bs l)[i]? = some (.raw (u8 (l.getD i 0#8))) := by
  simp [bs, h]
theorem bs_snoc (l : List (BitVec 8)) (x : BitVec 8) : bs (l ++ [x]) = bs l ++ [.raw (u8 x)] := by simp [bs]
theorem take_succ_getD {α : Type} {a : List α} {i : Nat} {z : α} (h : i < a.length) : a.take (i + 1) = a.take i ++ [a.getD i z] := by
  rw [List.take_succ_eq_append_getElem h]; simp [h]
theorem bs_drop (l : List (BitVec 8)) (n : Nat) : (bs l).drop n = bs (l.drop n) := by simp [bs]
theorem bs_take (l : List (BitVec 8)) (n : Nat) : (bs l).take n = bs (l.take n) := by simp [bs]

/-- a slice of ours, as a callee sees it -/
theorem Own.view {d : D} {rows : Rows} {l : List (BitVec 8)} (h : Own (.leaf u8s) d rows (bs l)) : ∃ d', view rows 9 d = some d' ∧ IsBs d' l := by
  rcases h with ⟨h1, rfl⟩ | ⟨r, ex, rfl, hl⟩
  · have : l = [] := by cases l <;> simp_all [bs]
    subst this
    exact ⟨_, rfl, .inl ⟨rfl, rfl⟩⟩
  · refine ⟨.lst (.leaf u8s) (bs l) ex, ?_, .inr ⟨ex, rfl⟩⟩
    simp only [Am.view]
    have : Am.elems rows (.sl (.leaf u8s) r [] 0 (bs l).length ex) = some (bs l) := by simp only [Am.elems, hl]; simp
    rw [this]
    simp [Sh.pure]

theorem fn_meets {P : Program} {G : Nat → Option D} {f : FuncId} {A : AFun} {F : Fn} (hA : Meets G P f A)
    (h : ∀ ds rows r, F ds rows = some r → rows = [] ∧ A ds [] (fun d rows => Expo rows d r.1 r.2)) : Meets G P f (Fn.run F) := by
  intro ds rows K hr ρ w T args hrows hdom htlt hargs hG
  unfold Fn.run at hr
  obtain ⟨r, hr, hk⟩ := bnd_some hr
  obtain ⟨rfl, h2⟩ := h ds rows r hr
  have hdom' : ∀ r, ρ r = none := fun r => hdom r (by simp)
  exact (hA _ [] _ h2 ρ w T args hrows hdom htlt hargs hG).mono fun e w' hb => Back.expo hdom' hb fun d rows hx => ⟨_, _, hx, hk⟩

/-- a contract by what its arguments say -/
def fn1 {α : Type} (rd : D → Option α) (pre : α → Bool) (out : α → D × Rows) : Fn
  | [d], [] => match rd d with
    | some x => bif pre x then some (out x) else none
    | none => none
  | _, _ => none
def fn2 {α β : Type} (rd : D → Option α) (rd' : D → Option β) (pre : α → β → Bool) (out : α → β → D × Rows) : Fn
  | [d, e], [] => match rd d, rd' e with
    | some x, some y => bif pre x y then some (out x y) else none
    | _, _ => none
  | _, _ => none
theorem fn1_some {α : Type} {rd : D → Option α} {pre : α → Bool} {out : α → D × Rows} {ds : List D} {rows : Rows} {r : D × Rows} (h : fn1 rd pre out ds rows = some r) :
    ∃ d x, ds = [d] ∧ rows = [] ∧ rd d = some x ∧ pre x = true ∧ r = out x := by
  unfold fn1 at h
  split at h
  · rename_i d
    split at h
    · rename_i x hx
      cases hp : pre x with
      | false => rw [hp] at h; cases h
      | true => rw [hp] at h; cases h; exact ⟨d, x, rfl, rfl, hx, hp, rfl⟩
    · cases h
  · cases h
theorem fn2_some {α β : Type} {rd : D → Option α} {rd' : D → Option β} {pre : α → β → Bool} {out : α → β → D × Rows} {ds : List D} {rows : Rows} {r : D × Rows} (h : fn2 rd rd' pre out ds rows = some r) :
    ∃ d e x y, ds = [d, e] ∧ rows = [] ∧ rd d = some x ∧ rd' e = some y ∧ pre x y = true ∧ r = out x y := by
  unfold fn2 at h
  split at h
  · rename_i d e
    split at h
    · rename_i x y hx hy
      cases hp : pre x y with
      | false => rw [hp] at h; cases h
      | true => rw [hp] at h; cases h; exact ⟨d, e, x, y, rfl, rfl, hx, hy, hp, rfl⟩
    · cases h
  · cases h
theorem fn1_eq {α : Type} {rd : D → Option α} {pre : α → Bool} {out : α → D × Rows} {d : D} {x : α} (h : rd d = some x) (hp : pre x = true) : fn1 rd pre out [d] [] = some (out x) := by
  simp [fn1, h, hp]
theorem fn2_eq {α β : Type} {rd : D → Option α} {rd' : D → Option β} {pre : α → β → Bool} {out : α → β → D × Rows} {d e : D} {x : α} {y : β} (h : rd d = some x) (h' : rd' e = some y) (hp : pre x y = true) :
    fn2 rd rd' pre out [d, e] [] = some (out x y) := by
  simp [fn2, h, h', hp]

/-- what a function gives back: a slice of its own -/
def outBs (l : List (BitVec 8)) (ex : Bool) : D × Rows := (.sl (.leaf u8s) 0 [] 0 l.length ex, [some ⟨.leaf u8s, bs l⟩])

/-- a byte slice, as a callee may see it -/
def BsIn (rows : Rows) (d : D) (l : List (BitVec 8)) : Prop := (∃ d', view rows 9 d = some d' ∧ IsBs d' l) ∧ (hasRef d = false → IsBs d l)
theorem IsBs.to {rows : Rows} {d : D} {l : List (BitVec 8)} (h : IsBs d l) : BsIn rows d l := by
  refine ⟨?_, fun _ => h⟩
  rcases h with ⟨rfl, rfl⟩ | ⟨e, rfl⟩
  · exact ⟨_, rfl, .inl ⟨rfl, rfl⟩⟩
  · exact ⟨.lst (.leaf u8s) (bs l) e, rfl, .inr ⟨e, rfl⟩⟩
theorem Own.to {rows : Rows} {d : D} {l : List (BitVec 8)} (h : Own (.leaf u8s) d rows (bs l)) : BsIn rows d l := by
  refine ⟨h.view, fun hr => ?_⟩
  rcases h with ⟨h1, rfl⟩ | ⟨r, ex, rfl, hl⟩
  · have : l = [] := by cases l <;> simp_all [bs]
    exact .inl ⟨rfl, this⟩
  · simp [hasRef] at hr

/-- data by their form -/
noncomputable def rdOf {α : Type} (mk : α → D) (d : D) : Option α := open Classical in if h : ∃ x, d = mk x then some h.choose else none
theorem rdOf_some {α : Type} {mk : α → D} {d : D} {x : α} (h : rdOf mk d = some x) : d = mk x := by
  unfold rdOf at h
  split at h
  · rename_i hh
    cases h
    exact hh.choose_spec
  · cases h
theorem rdOf_eq {α : Type} {mk : α → D} (hinj : ∀ x y, mk x = mk y → x = y) (x : α) : rdOf mk (mk x) = some x := by
  have h : ∃ y, mk x = mk y := ⟨x, rfl⟩
  unfold rdOf
  rw [dif_pos h]
  exact congrArg some (hinj _ _ h.choose_spec.symm)
theorem u8_inj {x y : BitVec 8} : u8 x = u8 y ↔ x = y := ⟨fun h => by unfold u8 at h; injection h with _ h; exact BitVec.eq_of_toNat_eq (by omega), fun h => by rw [h]⟩
theorem u16_inj {x y : BitVec 16} : u16 x = u16 y ↔ x = y := ⟨fun h => by unfold u16 at h; injection h with _ h; exact BitVec.eq_of_toNat_eq (by omega), fun h => by rw [h]⟩
theorem u32_inj {x y : BitVec 32} : u32 x = u32 y ↔ x = y := ⟨fun h => by unfold u32 at h; injection h with _ h; exact BitVec.eq_of_toNat_eq (by omega), fun h => by rw [h]⟩
theorem u64_inj {x y : BitVec 64} : u64 x = u64 y ↔ x = y := ⟨fun h => by unfold u64 at h; injection h with _ h; exact BitVec.eq_of_toNat_eq (by omega), fun h => by rw [h]⟩
theorem it_inj {x y : Int} : it x = it y ↔ x = y := ⟨fun h => by unfold it at h; injection h, fun h => by rw [h]⟩

/-- calls -/
theorem kCall_val {A : Fn} {rows : Rows} {k : D → Rows → Prop} {ds : List D} {r : D × Rows} (h : hasRefL ds = false) (hA : A ds [] = some r) : kCall A rows k ds = k (shift rows.length r.1) (rows ++ shiftRows rows.length r.2) := by
  unfold kCall
  rw [h, hA]
  simp [bnd]
theorem view_nonref1 {A : Fn} {rows : Rows} {k : D → Rows → Prop} {d : D} {r : D × Rows} (hv : ∀ d', view rows 9 d = some d' → A [d'] [] = some r) (hs : ∃ d', view rows 9 d = some d') (hn : hasRef d = false → A [d] [] = some r)
    (hr : (noLst r.1 && noLstRows r.2) = true) : kCall A rows k [d] = k (shift rows.length r.1) (rows ++ shiftRows rows.length r.2) := by
  obtain ⟨d', hd'⟩ := hs
  unfold kCall
  have h1 : hasRefL [d] = hasRef d := by simp [hasRefL]
  rw [h1]
  cases hh : hasRef d with
  | true =>
    simp only [forall_const, mapO, hd', bnd, hv d' hd', hr, true_and]
    simp
  | false =>
    simp only [forall_const, bnd, hn hh]
    simp
theorem kCall_bs1 {pre : List (BitVec 8) → Bool} {out : List (BitVec 8) → D × Rows} {rows : Rows} {k : D → Rows → Prop} {d : D} {a : List (BitVec 8)} (h : BsIn rows d a) (hp : pre a = true)
    (hr : (noLst (out a).1 && noLstRows (out a).2) = true) : kCall (fn1 rdBs pre out) rows k [d] = k (shift rows.length (out a).1) (rows ++ shiftRows rows.length (out a).2) := by
  obtain ⟨⟨d', hd', hb⟩, hn⟩ := h
  refine view_nonref1 (fun d2 hd2 => ?_) ⟨d', hd'⟩ (fun hh => fn1_eq (hn hh).rd hp) hr
  rw [hd'] at hd2
  cases hd2
  exact fn1_eq hb.rd hp
theorem kCall_bs2 {pre : List (BitVec 8) → List (BitVec 8) → Bool} {out : List (BitVec 8) → List (BitVec 8) → D × Rows} {rows : Rows} {k : D → Rows → Prop} {d e : D} {a b : List (BitVec 8)} (h : BsIn rows d a) (h' : BsIn rows e b) (hp : pre a b = true)
    (hr : (noLst (out a b).1 && noLstRows (out a b).2) = true) : kCall (fn2 rdBs rdBs pre out) rows k [d, e] = k (shift rows.length (out a b).1) (rows ++ shiftRows rows.length (out a b).2) := by
  obtain ⟨⟨d', hd', hb⟩, hn⟩ := h
  obtain ⟨⟨e', he', hb'⟩, hn'⟩ := h'
  unfold kCall
  simp only [mapO, hd', he', bnd, fn2_eq hb.rd hb'.rd hp, hr, true_and]
  cases hh : hasRefL [d, e] with
  | true => simp
  | false =>
    simp [hasRefL] at hh
    simp only [fn2_eq (hn hh.1).rd (hn' hh.2).rd hp]
    simp
theorem Own.push {s : Sh} {d : D} {rows more : Rows} {els : List D} (h : Own s d rows els) : Own s d (rows ++ more) els := by
  rcases h with ⟨h1, rfl⟩ | ⟨r, ex, rfl, hl⟩
  · exact .inl ⟨h1, rfl⟩
  · exact .inr ⟨r, ex, rfl, live_push hl⟩
theorem Own.nTup {s : Sh} {d : D} {rows : Rows} {els : List D} (h : Own s d rows els) : nTup d = some d := by
  rcases h with ⟨h1, rfl⟩ | ⟨r, ex, rfl, hl⟩ <;> rfl
theorem IsBs.nTup {d : D} {l : List (BitVec 8)} (h : IsBs d l) : nTup d = some d := by
  rcases h with ⟨rfl, h1⟩ | ⟨ex, rfl⟩ <;> rfl
theorem Own.expo {d : D} {rows : Rows} {l : List (BitVec 8)} (h : Own (.leaf u8s) d rows (bs l)) : Expo rows d (outBs l false).1 (outBs l false).2 := by
  rcases h with ⟨h1, rfl⟩ | ⟨r, ex, rfl, hl⟩
  · have : l = [] := by cases l <;> simp_all [bs]
    subst this
    exact .nil0 _
  · have : (bs l).length = l.length := by simp [bs]
    rw [this]
    exact .own _ r 0 _ ex false _ hl rfl (fun h => by cases h)
/-- a nil slice is an empty list -/
inductive Nrm : D → D → Prop where
  | refl (d : D) : Nrm d d
  | nil (s : Sh) (e : Bool) : Nrm (.raw (.slice none 0 0)) (.lst s [] e)
theorem Nrm.vr {ρ : Pl} {w : World} {T : Nat → Prop} {d d' : D} {v : Value} (h : Nrm d d') (hv : VR ρ w T d v) : VR ρ w T d' v := by
  cases h with
  | refl => exact hv
  | nil s e =>
    have := hv.ofRaw
    subst this
    exact VR.ofLeaf (.lst0 s e none 0 (fun _ => rfl) (fun _ => rfl))
end Go.Am
