import Derived.Test.YtpepmhbdblldeaaDoorPa11
import Derived.Test.YtpepmhbdblldeaaDoorRows
import Derived.OpenShut
import Derived.WalkKit
import Derived.ProofKit
import Derived.JoinedCond
import Derived.Carry
import Derived.Lib.LaidTab
namespace Go.Am
set_option linter.unusedVariables false
set_option linter.unusedSimpArgs false
def kRnd (R : Env → Rows → Prop) (Q : AExit → Env → Rows → Prop) : AExit → Env → Rows → Prop := fun e env rows => match e with
 | .normal => R env rows
 | e => Q e env rows
theorem q_rn (R Q env rows) : kRnd R Q .normal env rows = R env rows := Eq.trans rfl rfl
theorem q_rr (R Q env rows) : kRnd R Q .ret env rows = Q .ret env rows := Eq.trans rfl rfl
theorem q_re (R Q i env rows) : kRnd R Q (.exit i) env rows = Q (.exit i) env rows := Eq.trans rfl rfl
theorem kLoop_inv {C : Ctx} {a : ACode} {Q : AExit → Env → Rows → Prop} (I : Nat → Env → Rows → Prop)
  (h : ∀ k env rows, I k env rows → ∀ R : Env → Rows → Prop, (∀ k' env' rows', k' < k → I k' env' rows' → R env' rows') → aw C a (kRnd R Q) env rows) (k : Nat) {env : Env} {rows : Rows} (h0 : I k env rows) : kLoop C a Q env rows := by
 have key : ∀ n k env rows, k < n → I k env rows → loopN (aw C a) Q n env rows := by
  intro n
  induction n with
  | zero => intro k env rows hk; omega
  | succ n ih =>
   intro k env rows hk hi
   exact h k env rows hi (loopN (aw C a) Q n) (fun k' env' rows' hk' hi' => ih k' env' rows' (by omega) hi')
 exact ⟨k + 1, key (k + 1) k env rows (by omega) h0⟩
def has (env : Env) : Env → Prop
 | [] => True
 | (t, d) :: l => look env t = some d ∧ has env l
def Own (s : Sh) (d : D) (rows : Rows) (els : List D) : Prop :=
 (els = [] ∧ d = .raw (.slice none 0 0)) ∨ ∃ r ex, d = .sl s r [] 0 els.length ex ∧ live rows r = some ⟨s, els⟩
theorem Own.nil {s : Sh} {rows : Rows} : Own s (.raw (.slice none 0 0)) rows [] := .inl ⟨rfl, rfl⟩
theorem Own.elems {s : Sh} {d : D} {rows : Rows} {els : List D} (h : Own s d rows els) : elems rows d = some els := by
 rcases h with ⟨rfl, rfl⟩ | ⟨r, ex, rfl, hl⟩
 ·rfl
 ·simp only [Am.elems, hl]; simp
theorem Own.slen {s : Sh} {d : D} {rows : Rows} {els : List D} (h : Own s d rows els) : slen d = some els.length := by
 rcases h with ⟨rfl, rfl⟩ | ⟨r, ex, rfl, hl⟩
 ·rfl
 ·rfl
theorem Own.sshape {s : Sh} {d : D} {rows : Rows} {els : List D} (h : Own s d rows els) : sshape s d = true := by
 rcases h with ⟨rfl, rfl⟩ | ⟨r, ex, rfl, hl⟩
 ·rfl
 ·simp [Am.sshape]
theorem live_len {rows : Rows} {x : Row} : live (rows ++ [some x]) rows.length = some x := by simp [live]
theorem live_push {rows more : Rows} {r : Nat} {x : Row} (h : live rows r = some x) : live (rows ++ more) r = some x := by
 have := live_lt h
 unfold live at h ⊢
 rw [List.getElem?_append_left this]; exact h
theorem app_own {s : Sh} {d : D} {rows : Rows} {els news : List D} {bytes : Nat} {k : D → Rows → Prop} (h : Own s d rows els) (hb : (els.length + news.length) * bytes ≤ most) (hb2 : els.length + news.length ≤ most)
  (hk : ∀ d' rows', Own s d' rows' (els ++ news) → (∀ r x, live rows r = some x → (∀ ex, d ≠ .sl s r [] 0 els.length ex) → live rows' r = some x) → rows'.length = rows.length + 1 → (∃ r ex, d' = .sl s r [] 0 (els ++ news).length ex) → k d' rows') : aApp rows s bytes d news k := by
 unfold aApp
 rw [h.elems, h.slen]
 refine ⟨h.sshape, rfl, hb, hb2, ?_⟩
 have e : els.length + news.length = (els ++ news).length := by simp
 rcases h with ⟨rfl, rfl⟩ | ⟨r, ex, rfl, hl⟩
 ·simp only [isNil, Bool.true_or, cond_true, kill, e]
  refine hk _ _ (.inr ⟨rows.length, false, rfl, live_len⟩) (fun r x hx _ => live_push hx) (by simp) ⟨_, _, rfl⟩
 ·simp only [isNil, owned, Bool.false_or, cond_true, kill, e]
  have h1 : (rows.set r none).length = rows.length := by simp
  refine hk _ _ (.inr ⟨rows.length, false, rfl, by rw [← h1]; exact live_len⟩) (fun r' x hx hne => ?_) (by simp) ⟨_, _, rfl⟩
  have hr : r ≠ r' := fun e => hne ex (by rw [e])
  refine live_push ?_
  unfold live at hx ⊢
  rw [List.getElem?_set_ne hr]; exact hx
def bs (l : List (BitVec 8)) : List D := l.map fun b => .raw (u8 b)
def rd8 : D → Option (BitVec 8)
 | .raw (.int .u8 n) => bif decide (0 ≤ n) && decide (n < 256) then some (BitVec.ofInt 8 n) else none
 | _ => none
def rd32 : D → Option (BitVec 32)
 | .raw (.int .u32 n) => bif decide (0 ≤ n) && decide (n < 4294967296) then some (BitVec.ofInt 32 n) else none
 | _ => none
def rd64 : D → Option (BitVec 64)
 | .raw (.int .u64 n) => bif decide (0 ≤ n) && decide (n < 18446744073709551616) then some (BitVec.ofInt 64 n) else none
 | _ => none
def rdI : D → Option Int
 | .raw (.int .i64 n) => some n
 | _ => none
theorem rd8_eq (x : BitVec 8) : rd8 (.raw (u8 x)) = some x := by
 have := lt8 x
 simp only [rd8, u8]
 rw [show (decide (0 ≤ (x.toNat : Int)) && decide ((x.toNat : Int) < 256)) = true by simp; omega]
 simp
theorem rd32_eq (x : BitVec 32) : rd32 (.raw (u32 x)) = some x := by
 have := lt32 x
 simp only [rd32, u32]
 rw [show (decide (0 ≤ (x.toNat : Int)) && decide ((x.toNat : Int) < 4294967296)) = true by simp; omega]
 simp
theorem rd64_eq (x : BitVec 64) : rd64 (.raw (u64 x)) = some x := by
 have := lt64 x
 simp only [rd64, u64]
 rw [show (decide (0 ≤ (x.toNat : Int)) && decide ((x.toNat : Int) < 18446744073709551616)) = true by simp; omega]
 simp
theorem rdI_eq (n : Int) : rdI (.raw (it n)) = some n := rfl
theorem rd8_some {d : D} {x : BitVec 8} (h : rd8 d = some x) : d = .raw (u8 x) := by
 unfold rd8 at h
 split at h
 ·rename_i n
  cases hb : (decide (0 ≤ n) && decide (n < 256)) with
  | false => rw [hb] at h; cases h
  | true =>
   rw [hb] at h
   simp only [cond_true, Option.some.injEq] at h
   simp only [Bool.and_eq_true, decide_eq_true_eq] at hb
   subst h
   unfold u8
   rw [BitVec.toNat_ofInt]
   congr 2
   simp; omega
 ·cases h
theorem rd32_some {d : D} {x : BitVec 32} (h : rd32 d = some x) : d = .raw (u32 x) := by
 unfold rd32 at h
 split at h
 ·rename_i n
  cases hb : (decide (0 ≤ n) && decide (n < 4294967296)) with
  | false => rw [hb] at h; cases h
  | true =>
   rw [hb] at h
   simp only [cond_true, Option.some.injEq] at h
   simp only [Bool.and_eq_true, decide_eq_true_eq] at hb
   subst h
   unfold u32
   rw [BitVec.toNat_ofInt]
   congr 2
   simp; omega
 ·cases h
theorem rd64_some {d : D} {x : BitVec 64} (h : rd64 d = some x) : d = .raw (u64 x) := by
 unfold rd64 at h
 split at h
 ·rename_i n
  cases hb : (decide (0 ≤ n) && decide (n < 18446744073709551616)) with
  | false => rw [hb] at h; cases h
  | true =>
   rw [hb] at h
   simp only [cond_true, Option.some.injEq] at h
   simp only [Bool.and_eq_true, decide_eq_true_eq] at hb
   subst h
   unfold u64
   rw [BitVec.toNat_ofInt]
   congr 2
   simp; omega
 ·cases h
theorem rdI_some {d : D} {x : Int} (h : rdI d = some x) : d = .raw (it x) := by
 unfold rdI at h
 split at h
 ·cases h; rfl
 ·cases h
def rdBs : D → Option (List (BitVec 8))
 | .raw (.slice none 0 0) => some []
 | .lst s l _ => bif s == .leaf u8s then mapO rd8 l else none
 | _ => none
theorem mapO_bs (l : List (BitVec 8)) : mapO rd8 (bs l) = some l := by
 induction l with
 | nil => rfl
 | cons x l ih =>
  simp only [bs, List.map_cons, mapO, rd8_eq]
  have : mapO rd8 (List.map (fun b => D.raw (u8 b)) l) = some l := ih
  rw [this]
theorem mapO_bs' : ∀ {l : List D} {l' : List (BitVec 8)}, mapO rd8 l = some l' → l = bs l'
 | [], l', h => by simp [mapO] at h; subst h; rfl
 | x :: l, l', h => by
  simp only [mapO] at h
  split at h
  ·rename_i y hy
   split at h
   ·rename_i ys hys
    cases h
    rw [rd8_some hy, mapO_bs' hys]
    rfl
   ·cases h
  ·cases h
theorem rdBs_lst (l : List (BitVec 8)) (e : Bool) : rdBs (.lst (.leaf u8s) (bs l) e) = some l := by
 simp only [rdBs]
 rw [show ((Sh.leaf u8s) == .leaf u8s) = true by simp, cond_true, mapO_bs]
theorem rdBs_nil : rdBs (.raw (.slice none 0 0)) = some [] := rfl
def IsBs (d : D) (l : List (BitVec 8)) : Prop := (d = .raw (.slice none 0 0) ∧ l = []) ∨ ∃ e, d = .lst (.leaf u8s) (bs l) e
theorem rdBs_some {d : D} {l : List (BitVec 8)} (h : rdBs d = some l) : IsBs d l := by
 unfold rdBs at h
 split at h
 ·cases h; exact .inl ⟨rfl, rfl⟩
 ·rename_i s l0 e
  cases hb : (s == .leaf u8s) with
  | false => rw [hb] at h; cases h
  | true =>
   rw [hb] at h
   have : s = .leaf u8s := by simpa using hb
   subst this
   exact .inr ⟨e, by rw [mapO_bs' h]⟩
 ·cases h
theorem IsBs.elems {d : D} {l : List (BitVec 8)} {rows : Rows} (h : IsBs d l) : elems rows d = some (bs l) := by
 rcases h with ⟨rfl, rfl⟩ | ⟨e, rfl⟩ <;> rfl
theorem IsBs.slen {d : D} {l : List (BitVec 8)} (h : IsBs d l) : slen d = some l.length := by
 rcases h with ⟨rfl, rfl⟩ | ⟨e, rfl⟩
 ·rfl
 ·simp [Am.slen, bs]
theorem IsBs.sshape {d : D} {l : List (BitVec 8)} (h : IsBs d l) : sshape (.leaf u8s) d = true := by
 rcases h with ⟨rfl, rfl⟩ | ⟨e, rfl⟩
 ·rfl
 ·simp [Am.sshape]
theorem IsBs.rd {d : D} {l : List (BitVec 8)} (h : IsBs d l) : rdBs d = some l := by
 rcases h with ⟨rfl, rfl⟩ | ⟨e, rfl⟩
 ·rfl
 ·exact rdBs_lst l e
theorem kIdx_bs {d : D} {l : List (BitVec 8)} {n : Int} {rows : Rows} {k : D → Rows → Prop} (h : IsBs d l) (hn : 0 ≤ n ∧ n < l.length) : kIdx (.leaf (.int .u8)) n rows k d = k (.cptr (.raw (u8 (l.getD n.toNat 0#8)))) rows := by
 rcases h with ⟨rfl, rfl⟩ | ⟨e, rfl⟩
 ·simp at hn; omega
 ·have h1 : n.toNat < l.length := by omega
  have h2 : (bs l)[n.toNat]? = some (.raw (u8 (l.getD n.toNat 0#8))) := by simp [bs, h1]
  simp only [kIdx, h2, bnd]
  simp [bs, hn]
theorem bs_len (l : List (BitVec 8)) : (bs l).length = l.length := by simp [bs]
theorem bs_app (a b : List (BitVec 8)) : bs a ++ bs b = bs (a ++ b) := by simp [bs]
theorem bs_get {l : List (BitVec 8)} {i : Nat} (h : i < l.length) : (bs l)[i]? = some (.raw (u8 (l.getD i 0#8))) := by
 simp [bs, h]
theorem bs_snoc (l : List (BitVec 8)) (x : BitVec 8) : bs (l ++ [x]) = bs l ++ [.raw (u8 x)] := by simp [bs]
theorem take_succ_getD {α : Type} {a : List α} {i : Nat} {z : α} (h : i < a.length) : a.take (i + 1) = a.take i ++ [a.getD i z] := by
 rw [List.take_succ_eq_append_getElem h]; simp [h]
theorem bs_drop (l : List (BitVec 8)) (n : Nat) : (bs l).drop n = bs (l.drop n) := by simp [bs]
theorem bs_take (l : List (BitVec 8)) (n : Nat) : (bs l).take n = bs (l.take n) := by simp [bs]
theorem Own.view {d : D} {rows : Rows} {l : List (BitVec 8)} (h : Own (.leaf u8s) d rows (bs l)) : ∃ d', view rows 9 d = some d' ∧ IsBs d' l := by
 rcases h with ⟨h1, rfl⟩ | ⟨r, ex, rfl, hl⟩
 ·have : l = [] := by cases l <;> simp_all [bs]
  subst this
  exact ⟨_, rfl, .inl ⟨rfl, rfl⟩⟩
 ·refine ⟨.lst (.leaf u8s) (bs l) ex, ?_, .inr ⟨ex, rfl⟩⟩
  simp only [Am.view]
  have : Am.elems rows (.sl (.leaf u8s) r [] 0 (bs l).length ex) = some (bs l) := by simp only [Am.elems, hl]; simp
  rw [this]
  simp [Sh.pure]
theorem fn_meets {P : Program} {G : Nat → Option D} {f : FuncId} {A : AFun} {F : Fn} (hA : Meets G P f A)
  (h : ∀ ds rows r, F ds rows = some r → rows = [] ∧ A ds [] (fun d rows => Expo rows d r.1 r.2)) : Meets G P f (Fn.run F) := by
 intro ds rows K hr ρ w T args hrows hdom htlt hargs hG
 unfold Fn.run at hr
 obtain ⟨r, hr, hk⟩ := bnd_some hr
 obtain ⟨rfl, h2⟩ := h ds rows r hr
 have hdom' : ∀ r, ρ r = none := fun r => hdom r (by simp)
 exact (hA _ [] _ h2 ρ w T args hrows hdom htlt hargs hG).mono fun e w' hb => Back.expo hdom' hb fun d rows hx => ⟨_, _, hx, hk⟩
def fn1 {α : Type} (rd : D → Option α) (pre : α → Bool) (out : α → D × Rows) : Fn
 | [d], [] => match rd d with
  | some x => bif pre x then some (out x) else none
  | none => none
 | _, _ => none
def fn2 {α β : Type} (rd : D → Option α) (rd' : D → Option β) (pre : α → β → Bool) (out : α → β → D × Rows) : Fn
 | [d, e], [] => match rd d, rd' e with
  | some x, some y => bif pre x y then some (out x y) else none
  | _, _ => none
 | _, _ => none
theorem fn1_some {α : Type} {rd : D → Option α} {pre : α → Bool} {out : α → D × Rows} {ds : List D} {rows : Rows} {r : D × Rows} (h : fn1 rd pre out ds rows = some r) :
  ∃ d x, ds = [d] ∧ rows = [] ∧ rd d = some x ∧ pre x = true ∧ r = out x := by
 unfold fn1 at h
 split at h
 ·rename_i d
  split at h
  ·rename_i x hx
   cases hp : pre x with
   | false => rw [hp] at h; cases h
   | true => rw [hp] at h; cases h; exact ⟨d, x, rfl, rfl, hx, hp, rfl⟩
  ·cases h
 ·cases h
theorem fn2_some {α β : Type} {rd : D → Option α} {rd' : D → Option β} {pre : α → β → Bool} {out : α → β → D × Rows} {ds : List D} {rows : Rows} {r : D × Rows} (h : fn2 rd rd' pre out ds rows = some r) :
  ∃ d e x y, ds = [d, e] ∧ rows = [] ∧ rd d = some x ∧ rd' e = some y ∧ pre x y = true ∧ r = out x y := by
 unfold fn2 at h
 split at h
 ·rename_i d e
  split at h
  ·rename_i x y hx hy
   cases hp : pre x y with
   | false => rw [hp] at h; cases h
   | true => rw [hp] at h; cases h; exact ⟨d, e, x, y, rfl, rfl, hx, hy, hp, rfl⟩
  ·cases h
 ·cases h
theorem fn1_eq {α : Type} {rd : D → Option α} {pre : α → Bool} {out : α → D × Rows} {d : D} {x : α} (h : rd d = some x) (hp : pre x = true) : fn1 rd pre out [d] [] = some (out x) := by
 simp [fn1, h, hp]
theorem fn2_eq {α β : Type} {rd : D → Option α} {rd' : D → Option β} {pre : α → β → Bool} {out : α → β → D × Rows} {d e : D} {x : α} {y : β} (h : rd d = some x) (h' : rd' e = some y) (hp : pre x y = true) :
  fn2 rd rd' pre out [d, e] [] = some (out x y) := by
 simp [fn2, h, h', hp]
def outBs (l : List (BitVec 8)) (ex : Bool) : D × Rows := (.sl (.leaf u8s) 0 [] 0 l.length ex, [some ⟨.leaf u8s, bs l⟩])
def BsIn (rows : Rows) (d : D) (l : List (BitVec 8)) : Prop := (∃ d', view rows 9 d = some d' ∧ IsBs d' l) ∧ (hasRef d = false → IsBs d l)
theorem IsBs.to {rows : Rows} {d : D} {l : List (BitVec 8)} (h : IsBs d l) : BsIn rows d l := by
 refine ⟨?_, fun _ => h⟩
 rcases h with ⟨rfl, rfl⟩ | ⟨e, rfl⟩
 ·exact ⟨_, rfl, .inl ⟨rfl, rfl⟩⟩
 ·exact ⟨.lst (.leaf u8s) (bs l) e, rfl, .inr ⟨e, rfl⟩⟩
theorem Own.to {rows : Rows} {d : D} {l : List (BitVec 8)} (h : Own (.leaf u8s) d rows (bs l)) : BsIn rows d l := by
 refine ⟨h.view, fun hr => ?_⟩
 rcases h with ⟨h1, rfl⟩ | ⟨r, ex, rfl, hl⟩
 ·have : l = [] := by cases l <;> simp_all [bs]
  exact .inl ⟨rfl, this⟩
 ·simp [hasRef] at hr
noncomputable def rdOf {α : Type} (mk : α → D) (d : D) : Option α := open Classical in if h : ∃ x, d = mk x then some h.choose else none
theorem rdOf_some {α : Type} {mk : α → D} {d : D} {x : α} (h : rdOf mk d = some x) : d = mk x := by
 unfold rdOf at h
 split at h
 ·rename_i hh
  cases h
  exact hh.choose_spec
 ·cases h
theorem rdOf_eq {α : Type} {mk : α → D} (hinj : ∀ x y, mk x = mk y → x = y) (x : α) : rdOf mk (mk x) = some x := by
 have h : ∃ y, mk x = mk y := ⟨x, rfl⟩
 unfold rdOf
 rw [dif_pos h]
 exact congrArg some (hinj _ _ h.choose_spec.symm)
theorem u8_inj {x y : BitVec 8} : u8 x = u8 y ↔ x = y := ⟨fun h => by unfold u8 at h; injection h with _ h; exact BitVec.eq_of_toNat_eq (by omega), fun h => by rw [h]⟩
theorem u32_inj {x y : BitVec 32} : u32 x = u32 y ↔ x = y := ⟨fun h => by unfold u32 at h; injection h with _ h; exact BitVec.eq_of_toNat_eq (by omega), fun h => by rw [h]⟩
theorem u64_inj {x y : BitVec 64} : u64 x = u64 y ↔ x = y := ⟨fun h => by unfold u64 at h; injection h with _ h; exact BitVec.eq_of_toNat_eq (by omega), fun h => by rw [h]⟩
theorem kCall_val {A : Fn} {rows : Rows} {k : D → Rows → Prop} {ds : List D} {r : D × Rows} (h : hasRefL ds = false) (hA : A ds [] = some r) : kCall A rows k ds = k (shift rows.length r.1) (rows ++ shiftRows rows.length r.2) := by
 unfold kCall
 rw [h, hA]
 simp [bnd]
theorem view_nonref1 {A : Fn} {rows : Rows} {k : D → Rows → Prop} {d : D} {r : D × Rows} (hv : ∀ d', view rows 9 d = some d' → A [d'] [] = some r) (hs : ∃ d', view rows 9 d = some d') (hn : hasRef d = false → A [d] [] = some r)
  (hr : (noLst r.1 && noLstRows r.2) = true) : kCall A rows k [d] = k (shift rows.length r.1) (rows ++ shiftRows rows.length r.2) := by
 obtain ⟨d', hd'⟩ := hs
 unfold kCall
 have h1 : hasRefL [d] = hasRef d := by simp [hasRefL]
 rw [h1]
 cases hh : hasRef d with
 | true =>
  simp only [forall_const, mapO, hd', bnd, hv d' hd', hr, true_and]
  simp
 | false =>
  simp only [forall_const, bnd, hn hh]
  simp
theorem kCall_bs1 {pre : List (BitVec 8) → Bool} {out : List (BitVec 8) → D × Rows} {rows : Rows} {k : D → Rows → Prop} {d : D} {a : List (BitVec 8)} (h : BsIn rows d a) (hp : pre a = true)
  (hr : (noLst (out a).1 && noLstRows (out a).2) = true) : kCall (fn1 rdBs pre out) rows k [d] = k (shift rows.length (out a).1) (rows ++ shiftRows rows.length (out a).2) := by
 obtain ⟨⟨d', hd', hb⟩, hn⟩ := h
 refine view_nonref1 (fun d2 hd2 => ?_) ⟨d', hd'⟩ (fun hh => fn1_eq (hn hh).rd hp) hr
 rw [hd'] at hd2
 cases hd2
 exact fn1_eq hb.rd hp
theorem kCall_bs2 {pre : List (BitVec 8) → List (BitVec 8) → Bool} {out : List (BitVec 8) → List (BitVec 8) → D × Rows} {rows : Rows} {k : D → Rows → Prop} {d e : D} {a b : List (BitVec 8)} (h : BsIn rows d a) (h' : BsIn rows e b) (hp : pre a b = true)
  (hr : (noLst (out a b).1 && noLstRows (out a b).2) = true) : kCall (fn2 rdBs rdBs pre out) rows k [d, e] = k (shift rows.length (out a b).1) (rows ++ shiftRows rows.length (out a b).2) := by
 obtain ⟨⟨d', hd', hb⟩, hn⟩ := h
 obtain ⟨⟨e', he', hb'⟩, hn'⟩ := h'
 unfold kCall
 simp only [mapO, hd', he', bnd, fn2_eq hb.rd hb'.rd hp, hr, true_and]
 cases hh : hasRefL [d, e] with
 | true => simp
 | false =>
  simp [hasRefL] at hh
  simp only [fn2_eq (hn hh.1).rd (hn' hh.2).rd hp]
  simp
theorem Own.push {s : Sh} {d : D} {rows more : Rows} {els : List D} (h : Own s d rows els) : Own s d (rows ++ more) els := by
 rcases h with ⟨h1, rfl⟩ | ⟨r, ex, rfl, hl⟩
 ·exact .inl ⟨h1, rfl⟩
 ·exact .inr ⟨r, ex, rfl, live_push hl⟩
theorem Own.nTup {s : Sh} {d : D} {rows : Rows} {els : List D} (h : Own s d rows els) : nTup d = some d := by
 rcases h with ⟨h1, rfl⟩ | ⟨r, ex, rfl, hl⟩ <;> rfl
theorem IsBs.nTup {d : D} {l : List (BitVec 8)} (h : IsBs d l) : nTup d = some d := by
 rcases h with ⟨rfl, h1⟩ | ⟨ex, rfl⟩ <;> rfl
theorem Own.expo {d : D} {rows : Rows} {l : List (BitVec 8)} (h : Own (.leaf u8s) d rows (bs l)) : Expo rows d (outBs l false).1 (outBs l false).2 := by
 rcases h with ⟨h1, rfl⟩ | ⟨r, ex, rfl, hl⟩
 ·have : l = [] := by cases l <;> simp_all [bs]
  subst this
  exact .nil0 _
 ·have : (bs l).length = l.length := by simp [bs]
  rw [this]
  exact .own _ r 0 _ ex false _ hl rfl (fun h => by cases h)
inductive Nrm : D → D → Prop where
 | refl (d : D) : Nrm d d
 | nil (s : Sh) (e : Bool) : Nrm (.raw (.slice none 0 0)) (.lst s [] e)
theorem Nrm.vr {ρ : Pl} {w : World} {T : Nat → Prop} {d d' : D} {v : Value} (h : Nrm d d') (hv : VR ρ w T d v) : VR ρ w T d' v := by
 cases h with
 | refl => exact hv
 | nil s e =>
  have := hv.ofRaw
  subst this
  exact VR.ofLeaf (.lst0 s e none 0 (fun _ => rfl) (fun _ => rfl))
end Go.Am
namespace Go.Am
open Go.Proofs.YtpepmhbdblldeaaDoor.Rows (uptoBulk uptoBulkAll)
set_option linter.unusedVariables false
set_option linter.unusedSimpArgs false
def flX (P : Program) (f : TypeId → Option Sh) : Nat → List Field → Option Sh
 | _, [] => some .nil
 | off, x :: l => match f x.type with
  | some a => bif x.offset == off && P.cellsOf x.type == a.size then (match flX P f (off + a.size) l with
   | some b => some (.cons a b)
   | none => none) else none
  | none => none
def tyX (P : Program) : Nat → TypeId → Option Sh
 | 0, _ => none
 | n + 1, t => match P.underlying t with
  | some .bool => some (.leaf .bool)
  | some (.int k) => some (.leaf (.int k))
  | some .string => some (.leaf .str)
  | some (.struct fs) => match flX P (tyX P n) 0 fs.toList with
   | some s => bif P.cellsOf t == s.size then some s else none
   | none => none
  | some (.array m e) => match tyX P n e with
   | some a => bif P.cellsOf e == a.size && P.cellsOf t == m * a.size then some (.ar m a) else none
   | none => none
  | some (.slice e) => match tyX P n e with
   | some a => bif P.cellsOf e == a.size && Nat.blt 0 a.size then some .ref else none
   | none => none
  | _ => none
def DOf (P : Program) : Nat → TypeId → D → Prop
 | 0, _, _ => False
 | n + 1, t, d => match P.underlying t with
  | some .bool => ∃ b, d = .raw (.bool b)
  | some (.int k) => ∃ m, d = .raw (.int k m) ∧ (Lit.int k m).wf = true
  | some .string => ∃ b, d = .raw (.string b) ∧ b.size ≤ maxLen
  | some (.struct fs) => ∃ s l, flX P (tyX P n) 0 fs.toList = some s ∧ d = .agg s l ∧ All2 (fun (f : Field) x => DOf P n f.type x) fs.toList l
  | some (.array m e) => ∃ s l, tyX P n e = some s ∧ d = .agg (.ar m s) l ∧ l.length = m ∧ ∀ x ∈ l, DOf P n e x
  | some (.slice e) => d = .raw (.slice none 0 0) ∨ ∃ s l, tyX P n e = some s ∧ d = .lst s l false ∧ l.length ≤ maxLen ∧ ∀ x ∈ l, DOf P n e x
  | _ => False
mutual
/-- how many values and letters -/
def dbulk : D → Nat
 | .raw (.string b) => b.size + 1
 | .raw _ => 1
 | .lst _ l _ => dbulkL l + 1
 | .agg _ l => dbulkL l + 1
 | _ => 0
def dbulkL : List D → Nat
 | [] => 0
 | d :: l => dbulk d + dbulkL l
end
theorem dbulkL_app (a b : List D) : dbulkL (a ++ b) = dbulkL a + dbulkL b := by
 induction a with
 | nil => simp [dbulkL]
 | cons x a ih => simp [dbulkL, ih]; omega
theorem uall_app {H : Type} (a b : List (DataW H)) : uptoBulkAll (a ++ b) = uptoBulkAll a + uptoBulkAll b := by
 induction a with
 | nil => simp [uptoBulkAll]
 | cons x a ih => simp [uptoBulkAll, ih]; omega
def old (w : World) : Nat → Prop := fun b => b < w.heap.size
section
variable {P : Program} {H : Type} {enc : TypeId × Value → H} {w : World} {base : Nat} {spare : Nat → Bool} {held : Bool}
theorem ubulk_pos (x : DataW H) : 1 ≤ uptoBulk x := by
 cases x with
 | lit l => cases l <;> simp [uptoBulk]
 | _ => simp [uptoBulk]
theorem fields_D {m n : Nat} {cs : List Value} (ih : ∀ (t : TypeId) (cs : List Value) (x : DataW H × List MemPlace) (s : Sh), DataW.trod enc P w base spare held m t cs = some x → tyX P n t = some s → ∃ d, DOf P n t d ∧ HasSh s d ∧ All2 (LR noPl w (old w)) d.flat cs ∧ dbulk d ≤ uptoBulk x.1) :
  ∀ (fs : List Field) (xs : List (DataW H × List MemPlace)) (off : Nat) (s : Sh), flX P (tyX P n) off fs = some s → xs.length = fs.length → (∀ (i : Nat) (f : Field), fs[i]? = some f → DataW.trod enc P w base spare held m f.type ((cs.drop f.offset).take (P.cellsOf f.type)) = xs[i]?) →
  ∃ l, All2 (fun (f : Field) x => DOf P n f.type x) fs l ∧ s.isAgg = true ∧ l.length = s.count ∧ (∀ i e d, s.sub i = some e → l[i]? = some d → HasSh e d) ∧ All2 (LR noPl w (old w)) (flatL l) ((cs.drop off).take s.size) ∧ dbulkL l ≤ uptoBulkAll (xs.map (·.1))
 | [], xs, off, s, h, _, _ => by
  simp [flX] at h; subst h
  exact ⟨[], .nil, rfl, rfl, by simp [Sh.sub], by simp [flatL, Sh.size]; exact .nil, by simp [dbulkL]⟩
 | f :: fs, [], off, s, h, hxl, hx => by simp at hxl
 | f :: fs, x0 :: xs, off, s, h, hxl, hx => by
  simp only [flX] at h
  split at h
  ·rename_i a ha
   cases hb : (f.offset == off && P.cellsOf f.type == a.size) with
   | false => rw [hb] at h; cases h
   | true =>
    rw [hb] at h
    simp only [cond_true] at h
    split at h
    ·rename_i b hbq
     cases h
     simp only [Bool.and_eq_true, beq_iff_eq] at hb
     have hx1 := hx 0 f rfl
     obtain ⟨d, hd1, hd2, hd3, hd4⟩ := ih _ _ _ _ hx1 ha
     obtain ⟨l, g1, g2, g3, g4, g5, g6⟩ := fields_D ih fs xs (off + a.size) b hbq (by simpa using hxl) (fun i f' hf' => by simpa using hx (i + 1) f' (by simpa using hf'))
     refine ⟨d :: l, .cons hd1 g1, g2, by simp [Sh.count, g3], fun i e d' hi hd' => ?_, ?_, by simp only [dbulkL, List.map_cons, uptoBulkAll]; omega⟩
     ·cases i with
      | zero => simp [Sh.sub] at hi hd'; subst hi; subst hd'; exact hd2
      | succ i => exact g4 i e d' (by simpa [Sh.sub] using hi) (by simpa using hd')
     ·simp only [flatL, Sh.size]
      rw [hb.1, hb.2] at hd3
      have : (cs.drop off).take (a.size + b.size) = (cs.drop off).take a.size ++ ((cs.drop (off + a.size)).take b.size) := by
       rw [List.take_add, List.drop_drop]
      rw [this]
      exact hd3.append g5
    ·cases h
  ·cases h
theorem elems_D {m n : Nat} {e : TypeId} {a : Sh} (ih : ∀ (t : TypeId) (cs : List Value) (x : DataW H × List MemPlace) (s : Sh), DataW.trod enc P w base spare held m t cs = some x → tyX P n t = some s → ∃ d, DOf P n t d ∧ HasSh s d ∧ All2 (LR noPl w (old w)) d.flat cs ∧ dbulk d ≤ uptoBulk x.1)
  (ha : tyX P n e = some a) : ∀ (k : Nat) (f : Nat → List Value) (g : Nat → DataW H × List MemPlace), (∀ i, i < k → DataW.trod enc P w base spare held m e (f i) = some (g i)) →
  ∃ l, l.length = k ∧ (∀ x ∈ l, DOf P n e x) ∧ (∀ x ∈ l, HasSh a x) ∧ All2 (LR noPl w (old w)) (flatL l) ((List.range k).flatMap f) ∧ dbulkL l ≤ uptoBulkAll (((List.range k).map g).map (·.1))
 | 0, f, _, _ => ⟨[], rfl, by simp, by simp, by simp [flatL]; exact .nil, by simp [dbulkL]⟩
 | k + 1, f, g, h => by
  obtain ⟨l, g1, g2, g3, g4, g5⟩ := elems_D ih ha k f g (fun i hi => h i (by omega))
  have hx := h k (by omega)
  obtain ⟨d, h1, h2, h3, h4⟩ := ih _ _ _ _ hx ha
  refine ⟨l ++ [d], by simp [g1], ?_, ?_, ?_, by rw [dbulkL_app, List.range_succ, List.map_append, List.map_append, uall_app]; simp only [dbulkL, List.map_cons, List.map_nil, uptoBulkAll]; omega⟩
  ·intro y hy
   rcases List.mem_append.1 hy with hy | hy
   ·exact g2 y hy
   ·simp at hy; subst hy; exact h1
  ·intro y hy
   rcases List.mem_append.1 hy with hy | hy
   ·exact g3 y hy
   ·simp at hy; subst hy; exact h2
  ·have e1 : flatL (l ++ [d]) = flatL l ++ d.flat := by
    have : ∀ l : List D, flatL (l ++ [d]) = flatL l ++ d.flat := by
     intro l
     induction l with
     | nil => simp [flatL]
     | cons q l ih => simp [flatL, ih]
    exact this l
   rw [e1, List.range_succ, List.flatMap_append]
   exact g4.append (by simpa using h3)
theorem flatMap_get {α : Type} {f : Nat → List α} {c : Nat} : ∀ (k : Nat), (∀ i, i < k → (f i).length = c) → ((List.range k).flatMap f).length = k * c ∧ ∀ i j, i < k → j < c → ((List.range k).flatMap f)[i * c + j]? = (f i)[j]?
 | 0, _ => ⟨by simp, fun i j hi => by omega⟩
 | k + 1, h => by
  obtain ⟨h1, h2⟩ := flatMap_get (f := f) (c := c) k (fun i hi => h i (by omega))
  have hk := h k (by omega)
  rw [List.range_succ, List.flatMap_append]
  have e : List.flatMap f [k] = f k := by simp
  rw [e]
  refine ⟨by rw [List.length_append, h1, hk, Nat.succ_mul], fun i j hi hj => ?_⟩
  rcases Nat.lt_or_ge i k with h3 | h3
  ·have : i * c + j < k * c := by
    have : (i + 1) * c ≤ k * c := Nat.mul_le_mul_right c h3
    rw [Nat.succ_mul] at this
    omega
   rw [List.getElem?_append_left (by omega)]
   exact h2 i j h3 hj
  ·have : i = k := by omega
   subst this
   rw [List.getElem?_append_right (by omega), h1]
   congr 1
   omega
theorem cells_get {a : Addr} {c : Nat} {l : List Value} (h : w.cells? base a c = some l) : l.length = c ∧ ∀ j, j < c → w.cell? (a.add j) = l[j]? := by
 unfold World.cells? at h
 split at h
 ·refine ⟨by simpa using mapM_some_length h, fun j hj => ?_⟩
  exact mapM_some_get h j j (by simp [hj])
 ·cases h
theorem add_add {a : Addr} (h : a.spot = none) (i j : Nat) : (a.add i).add j = ⟨a.block, a.off + (i + j), none⟩ := by
 obtain ⟨b, o, sp⟩ := a
 simp only at h
 subst h
 unfold Addr.add
 by_cases hi : i = 0 <;> by_cases hj : j = 0 <;> simp [hi, hj] <;> omega
theorem slice_D {m n : Nat} {t e : TypeId} {cs : List Value} {x : DataW H × List MemPlace} {a : Sh} (ih : ∀ (t : TypeId) (cs : List Value) (x : DataW H × List MemPlace) (s : Sh), DataW.trod enc P w base spare held m t cs = some x → tyX P n t = some s → ∃ d, DOf P n t d ∧ HasSh s d ∧ All2 (LR noPl w (old w)) d.flat cs ∧ dbulk d ≤ uptoBulk x.1)
  (ht : P.underlying t = some (.slice e)) (h : DataW.trod enc P w base spare held (m + 1) t cs = some x) (ha : tyX P n e = some a) (hc : P.cellsOf e = a.size) (h0 : 0 < a.size) :
  ∃ d v, cs = [v] ∧ (d = .raw (.slice none 0 0) ∨ ∃ s l, tyX P n e = some s ∧ d = .lst s l false ∧ l.length ≤ maxLen ∧ ∀ x ∈ l, DOf P n e x) ∧ d.isLeaf = true ∧ LR noPl w (old w) d v ∧ dbulk d ≤ uptoBulk x.1 := by
 rcases DataW.trod_slice ht h with ⟨rfl, rfl⟩ | ⟨ad, len, cap, elems, rest, m', hm, rfl, rfl, _, hlc, hcm, hel, hget, _⟩
 ·exact ⟨_, _, rfl, .inl rfl, rfl, .raw _ rfl, by simp [dbulk, uptoBulk]⟩
 ·have : m = m' := by omega
  subst this
  rw [hc] at hget
  let f : Nat → List Value := fun i => (w.cells? base (ad.add (i * a.size)) a.size).getD []
  have hf : ∀ i, i < len → w.cells? base (ad.add (i * a.size)) a.size = some (f i) ∧ DataW.trod enc P w base spare held m e (f i) = some (elems.getD i (.nil, [])) := by
   intro i hi
   have h1 := hget i hi
   rw [List.getElem?_eq_getElem (by omega)] at h1
   cases hcl : w.cells? base (ad.add (i * a.size)) a.size with
   | none => rw [hcl] at h1; cases h1
   | some l =>
    rw [hcl] at h1
    have : f i = l := by simp [f, hcl]
    rw [this]
    refine ⟨rfl, ?_⟩
    simp only [Option.bind_some] at h1
    rw [h1]
    simp [List.getD_eq_getElem?_getD, show i < elems.length by omega]
  obtain ⟨l, g1, g2, g3, g4, g5⟩ := elems_D ih ha len f _ (fun i hi => (hf i hi).2)
  have hmap : (List.range len).map (fun i => elems.getD i (.nil, [])) = elems := by
   apply List.ext_getElem
   ·simp [hel]
   ·intro i h1 h2
    simp [List.getD_eq_getElem?_getD, h2]
  rw [hmap] at g5
  refine ⟨.lst a l false, _, rfl, .inr ⟨a, l, ha, rfl, by omega, g2⟩, rfl, ?_, by simp only [dbulk, uptoBulk]; omega⟩
  have hlens : ∀ i, i < len → (f i).length = a.size := fun i hi => (cells_get (hf i hi).1).1
  obtain ⟨e1, e2⟩ := flatMap_get (f := f) len hlens
  cases len with
  | zero =>
   have : l = [] := List.eq_nil_of_length_eq_zero g1
   subst this
   exact .lst0 a false (some ad) cap (by simp) (by simp)
  | succ len =>
   have c0 := (cells_get (hf 0 (by omega)).1).2 0 h0
   have hlen0 := hlens 0 (by omega)
   rw [List.getElem?_eq_getElem (by omega)] at c0
   simp only [Nat.zero_mul] at c0
   have e0 : ((ad.add 0).add 0) = ad := by simp [Addr.add]
   rw [e0] at c0
   have hsp : ad.spot = none := by
    unfold World.cell? at c0
    split at c0
    ·split at c0
     ·cases c0
     ·rename_i hs; simpa using hs
    ·cases c0
   have hold : old w ad.block := by
    unfold World.cell? at c0
    split at c0
    ·rename_i hh; exact (Array.getElem?_eq_some_iff.1 hh).1
    ·cases c0
   have had : ad = ⟨ad.block, ad.off, none⟩ := by
    obtain ⟨b, o, sp⟩ := ad
    simp only at hsp
    subst hsp; rfl
   have key : LR noPl w (old w) (.lst a l false) (.slice (some ⟨ad.block, ad.off, none⟩) l.length cap) := by
    refine .lst a l false ad.block ad.off cap (fun i => ((List.range (len + 1)).flatMap f).getD i undef) g3 hold (fun i d hd => ?_) (fun i d hd => ?_) (by omega) (by simp)
    ·have hi : i < (flatL l).length := lt_of_get hd
     rw [g4.len, e1] at hi
     have hq : i / a.size < len + 1 := (Nat.div_lt_iff_lt_mul h0).2 hi
     have hr : i % a.size < a.size := Nat.mod_lt _ h0
     have hi2 : i / a.size * a.size + i % a.size = i := by rw [Nat.mul_comm]; exact Nat.div_add_mod i a.size
     have c1 := (cells_get (hf _ hq).1).2 _ hr
     rw [add_add hsp, hi2, ← e2 _ _ hq hr, hi2] at c1
     rw [c1, List.getD_eq_getElem?_getD, List.getElem?_eq_getElem (by omega)]
     rfl
    ·have hi : i < (flatL l).length := lt_of_get hd
     rw [g4.len] at hi
     refine g4.at_ i d _ hd ?_
     rw [List.getD_eq_getElem?_getD, List.getElem?_eq_getElem hi]
     rfl
   rw [← had, g1] at key
   exact key
theorem trod_D : ∀ (n fuel : Nat) (t : TypeId) (cs : List Value) (x : DataW H × List MemPlace) (s : Sh), DataW.trod enc P w base spare held fuel t cs = some x → tyX P n t = some s → ∃ d, DOf P n t d ∧ HasSh s d ∧ All2 (LR noPl w (old w)) d.flat cs ∧ dbulk d ≤ uptoBulk x.1
 | 0, _, _, _, _, _, _, h => by simp [tyX] at h
 | _ + 1, 0, _, _, _, _, h, _ => by simp [DataW.trod] at h
 | n + 1, m + 1, t, cs, x, s, h, hs => by
  have ih := trod_D n m
  have h' := h
  simp only [tyX] at hs
  simp only [DOf]
  unfold DataW.trod at h
  cases hu : P.underlying t with
  | none => simp [hu] at hs
  | some u =>
   rw [hu] at h
   simp only [hu] at hs
   cases u with
   | bool =>
    cases hs
    have : ∃ b, cs = [.bool b] := by split at h <;> simp_all
    obtain ⟨b, rfl⟩ := this
    exact ⟨.raw (.bool b), ⟨b, rfl⟩, .leaf _ _ rfl, All2.single (.raw _ rfl), by simp only [dbulk]; exact ubulk_pos _⟩
   | int k =>
    cases hs
    have : ∃ q, cs = [.int k q] ∧ (Lit.int k q).wf = true := by split at h <;> simp_all
    obtain ⟨q, rfl, hw⟩ := this
    exact ⟨.raw (.int k q), ⟨q, rfl, hw⟩, .leaf _ _ (by simp [isSc]), All2.single (.raw _ rfl), by simp only [dbulk]; exact ubulk_pos _⟩
   | string =>
    cases hs
    obtain ⟨b, rfl, rfl, hw⟩ := DataW.trod_string hu h'
    exact ⟨.raw (.string b), ⟨b, rfl, hw⟩, .leaf _ _ rfl, All2.single (.raw _ rfl), by simp [dbulk, uptoBulk]⟩
   | struct fs =>
    clear h
    simp only at hs
    split at hs
    ·rename_i s' hfl
     cases hb : (P.cellsOf t == s'.size) with
     | false => rw [hb] at hs; cases hs
     | true =>
      rw [hb] at hs
      cases hs
      obtain ⟨xs, m', hm, rfl, hlen, hxl, hget⟩ := DataW.trod_struct hu h'
      have : m = m' := by omega
      subst this
      obtain ⟨l, g1, g2, g3, g4, g5, g6⟩ := fields_D (cs := cs) ih fs.toList xs 0 s hfl (by simpa using hxl) (fun i f hf => hget i f (by simpa using hf))
      refine ⟨.agg s l, ⟨s, l, hfl, rfl, g1⟩, .agg s l g2 g3 g4, ?_, by simp only [dbulk, uptoBulk]; omega⟩
      have hb' : P.cellsOf t = s.size := by simpa using hb
      simp only [List.drop_zero] at g5
      rw [List.take_of_length_le (by omega)] at g5
      simpa [D.flat] using g5
    ·cases hs
   | array k e =>
    clear h
    simp only at hs
    split at hs
    ·rename_i a ha
     cases hb : (P.cellsOf e == a.size && P.cellsOf t == k * a.size) with
     | false => rw [hb] at hs; cases hs
     | true =>
      rw [hb] at hs
      cases hs
      simp only [Bool.and_eq_true, beq_iff_eq] at hb
      obtain ⟨xs, m', hm, rfl, hlen, hxl, hget⟩ := DataW.trod_array hu h'
      have : m = m' := by omega
      subst this
      rw [hb.1] at hget
      obtain ⟨l, g1, g2, g3, g4, g5⟩ := elems_D ih ha k (fun i => (cs.drop (i * a.size)).take a.size) (fun i => xs.getD i (.nil, [])) (fun i hi => by
       have := hget i hi
       rw [this]
       simp [List.getD_eq_getElem?_getD, show i < xs.length by omega])
      have hmap : (List.range k).map (fun i => xs.getD i (.nil, [])) = xs := by
       apply List.ext_getElem
       ·simp [hxl]
       ·intro i h1 h2
        simp [List.getD_eq_getElem?_getD, h2]
      rw [hmap] at g5
      refine ⟨.agg (.ar k a) l, ⟨a, l, ha, rfl, g1, g2⟩, .agg _ l rfl (by simp [Sh.count, g1]) (fun i e' d' hi hd' => ?_), ?_, by simp only [dbulk, uptoBulk]; omega⟩
      ·simp only [Sh.sub] at hi
       split at hi
       ·cases hi; exact g3 d' (mem_of_get hd')
       ·cases hi
      ·have e1 : (List.range k).flatMap (fun i => (cs.drop (i * a.size)).take a.size) = cs.take (k * a.size) := by
        clear g4 g5 hmap g1 hget hxl hlen hb hu h'
        induction k with
        | zero => simp
        | succ k ihk =>
         rw [List.range_succ, List.flatMap_append, ihk, Nat.succ_mul, List.take_add]
         simp
       rw [e1, List.take_of_length_le (by omega)] at g4
       simpa [D.flat] using g4
    ·cases hs
   | slice e =>
    clear h
    simp only at hs
    split at hs
    ·rename_i a ha
     cases hb : (P.cellsOf e == a.size && Nat.blt 0 a.size) with
     | false => rw [hb] at hs; cases hs
     | true =>
      rw [hb] at hs
      cases hs
      simp only [Bool.and_eq_true, beq_iff_eq] at hb
      obtain ⟨d, v, rfl, h1, h2, h3, h4⟩ := slice_D ih hu h' ha hb.1 (Nat.blt_eq.mp hb.2)
      exact ⟨d, h1, .ref d h2, by rw [leaf_flat h2]; exact All2.single h3, h4⟩
    ·cases hs
   | _ => cases hs
end
end Go.Am
namespace Go.Am
set_option linter.unusedVariables false
set_option linter.unusedSimpArgs false
variable {P : Program} {H : Type} {enc : TypeId × Value → H} {w : World} {base : Nat} {spare : Nat → Bool} {held : Bool}
theorem hasSh_agg {s t : Sh} {l : List D} (h : HasSh s (.agg t l)) : s.isAgg = true := by
 cases h with
 | ref _ h => simp [D.isLeaf] at h
 | agg s l h1 _ _ => exact h1
theorem arg_D {r : Reach} {b0 n fuel : Nat} {t : TypeId} {v : Value} {x : DataW H × List MemPlace} {s : Sh} (hw : Value.okWide P w r b0 t v) (h : DataW.trod enc P w base spare held fuel t v.cells.toList = some x) (hs : tyX P n t = some s) :
  ∃ d, DOf P n t d ∧ VR noPl w (old w) d v ∧ dbulk d ≤ Go.Proofs.YtpepmhbdblldeaaDoor.Rows.uptoBulk x.1 := by
 obtain ⟨d, h1, h2, h3, h4⟩ := trod_D n fuel t _ x s h hs
 refine ⟨d, h1, ?_, h4⟩
 cases n with
 | zero => exact h1.elim
 | succ n =>
  simp only [DOf] at h1
  unfold Value.okWide at hw
  have one : d.isLeaf = true → v.oneCell' = true → VR noPl w (old w) d v := by
   intro hl hv
   rw [leaf_flat hl, cells_one hv] at h3
   exact VR.ofLeaf h3.head
  have agg : (∃ cs, v = .agg cs ∧ cs.size = P.cellsOf t ∧ Row.okWide P w r b0 t cs) → (∃ s l, d = .agg s l) → VR noPl w (old w) d v := by
   rintro ⟨cs, rfl, -⟩ ⟨s', l, rfl⟩
   exact VR.ofVR1 (VR1.ofAgg h2 (hasSh_agg h2) (by simpa [Value.cells] using h3))
  cases hu : P.underlying t with
  | none => simp [hu] at h1
  | some u =>
   simp only [hu] at h1 hw
   cases u with
   | struct fs =>
    obtain ⟨s', l, _, hd, _⟩ := h1
    exact agg hw ⟨s', l, hd⟩
   | array k e =>
    obtain ⟨s', l, _, hd, _⟩ := h1
    exact agg hw ⟨_, l, hd⟩
   | bool =>
    obtain ⟨b, rfl⟩ := h1
    refine one rfl ?_
    simp only [Cell.okWide, Cell.ok, hu] at hw
    cases v <;> simp_all [Value.oneCell']
   | int k =>
    obtain ⟨b, rfl, _⟩ := h1
    refine one rfl ?_
    simp only [Cell.okWide, Cell.ok, hu] at hw
    cases v <;> simp_all [Value.oneCell']
   | string =>
    obtain ⟨b, rfl, _⟩ := h1
    refine one rfl ?_
    simp only [Cell.okWide, Cell.ok, hu] at hw
    cases v <;> simp_all [Value.oneCell']
   | slice e =>
    refine one (by rcases h1 with rfl | ⟨_, _, _, rfl, _⟩ <;> rfl) ?_
    simp only [Cell.okWide, Cell.ok, hu] at hw
    cases v <;> simp_all [Value.oneCell']
   | _ => exact h1.elim
end Go.Am
namespace Go.Am
open Go.ChangeShapes Go.WideShapes Go.ChangeAt Go.RowKit
set_option linter.unusedVariables false
set_option linter.unusedSimpArgs false
theorem Step.below {ρ ρ' : Pl} {T T' : Nat → Prop} {rows' : Rows} {w w' : World} (h : Step ρ T [] w ρ' T' rows' w') : Below w.heap.size w w' :=
 ⟨h.os, h.tape, h.output, h.size, fun k hk => h.keep k hk (by intro r row L h1; simp [live] at h1)⟩
section
variable {H : Type} {enc : TypeId × Value → H} {P : Program}
theorem post_below {f : Func} {s : ChangeSpec} {apart fresh handsOn again : Bool} {W W' : World} {args : Array Value} {v : Value} {ds gs : List (DataW H)} {before pa pv : List MemPlace}
  (hW : DataW.Whole enc P f.params.toList s.vars apart W args.toList ds gs before)
  (hres : ∀ (b : Nat) (sp : Nat → Bool) (hd : Bool), DataW.TrodAll enc P W' b sp hd f.resultTypes.toList (v.resultList f.resultTypes.size) (s.fn H (ds ++ gs)).results [])
  (hargs : ∀ sp : Nat → Bool, (∀ p ∈ before, sp p.block = true) → DataW.TrodAll enc P W' 0 sp true f.params.toList args.toList (s.fn H (ds ++ gs)).args pa)
  (hvars : ∀ sp : Nat → Bool, (∀ p ∈ before, sp p.block = true) → DataW.TrodVars enc P W' sp s.vars (s.fn H (ds ++ gs)).vars pv)
  (hps : before = pa ++ pv) (hb : Below W.heap.size W W')
  (hok : ∀ (j : Nat) (t : TypeId) (r : Value), f.resultTypes[j]? = some t → (v.resultList f.resultTypes.size)[j]? = some r → Value.okWide P W' .any 0 t r) :
  s.post enc P f apart fresh handsOn again W args v W' := by
 have hlt : ∀ p ∈ before, p.block < W.heap.size := fun p hp => hW.lt p hp
 have hold : ∀ p ∈ before, (fun b => decide (b < W.heap.size)) p.block = true := fun p hp => by simpa using hlt p hp
 refine ⟨ds, gs, before, [], pa, pv, hW, hres _ _ _, hargs _ hold, hvars _ hold, World.keptBut_mono (fun p hp => ⟨hp, ?_⟩) (hb.frame (· ∈ before)), fun _ => ?_⟩
 ·rw [hps, List.mem_append] at hp
  exact Or.inr hp
 ·obtain ⟨_, _, _, _, _, hz, hn⟩ := hW
  refine ⟨hok, _, _, ([] ++ pa) ++ pv, ⟨[] ++ pa, pv, trodAll_append (hargs _ (fun _ _ => rfl)) (hres _ _ _), hvars _ (fun _ _ => rfl), rfl, ?_, ?_⟩, ?_⟩
  ·intro b off hp
   have hin : MemPlace.cell b off ∈ before := by rw [hps]; simpa using hp
   rw [hb.frozen (hlt _ hin)]
   exact hz b off hin
  ·intro ha
   have := hn ha
   rw [hps] at this
   simpa using this
  ·intro p hp _
   rw [hps]
   simpa using hp
theorem args_D {n : Nat} {base : Nat} {W : World} : ∀ {ts : List TypeId} {vs : List Value} {ds : List (DataW H)} {p : List MemPlace}, DataW.TrodAll enc P W 0 (fun _ => true) true ts vs ds p →
  (∀ (j : Nat) t v, ts[j]? = some t → vs[j]? = some v → Value.okWide P W .any base t v) → (∀ t ∈ ts, (tyX P n t).isSome = true) →
  ∃ dd, All2 (fun t d => DOf P n t d) ts dd ∧ All2 (VR noPl W (old W)) dd vs ∧ dbulkL dd ≤ Go.Proofs.YtpepmhbdblldeaaDoor.Rows.uptoBulkAll ds
 | [], vs, ds, p, h, _, _ => by
  obtain ⟨rfl, rfl, rfl⟩ := trodAll_nil h
  exact ⟨[], .nil, .nil, by simp [dbulkL]⟩
 | t :: ts, vs, ds, p, h, hv, ht => by
  obtain ⟨v, vs1, d, ds1, a, b, rfl, rfl, rfl, h1, h2⟩ := trodAll_cons h
  obtain ⟨fuel, hf⟩ := h1
  obtain ⟨s, hs⟩ := Option.isSome_iff_exists.1 (ht t (by simp))
  obtain ⟨d', g1, g2, g3⟩ := arg_D (hv 0 t v rfl rfl) hf hs
  obtain ⟨dd, q1, q2, q3⟩ := args_D h2 (fun j t' v' h3 h4 => hv (j + 1) t' v' (by simpa using h3) (by simpa using h4)) (fun t' h3 => ht t' (by simp [h3]))
  exact ⟨d' :: dd, .cons g1 q1, .cons g2 q2, by simp only [dbulkL, Go.Proofs.YtpepmhbdblldeaaDoor.Rows.uptoBulkAll] at *; omega⟩
theorem args_back {W W' : World} (hl : laidOutB P = true) (hb : Below W.heap.size W W') {sp : Nat → Bool} : ∀ {ts : List TypeId} {vs : List Value} {ds : List (DataW H)} {p : List MemPlace}, DataW.TrodAll enc P W 0 (fun _ => true) true ts vs ds p →
  (∀ t ∈ ts, P.readableRec t = true ∧ t < P.types.size) → (∀ x ∈ p, x.block < W.heap.size) → (∀ x ∈ p, sp x.block = true) → DataW.TrodAll enc P W' 0 sp true ts vs ds p
 | [], vs, ds, p, h, _, _, _ => by
  obtain ⟨rfl, rfl, rfl⟩ := trodAll_nil h
  exact rfl
 | t :: ts, vs, ds, p, h, ht, hlt, hs => by
  obtain ⟨v, vs1, d, ds1, a, b, rfl, rfl, rfl, h1, h2⟩ := trodAll_cons h
  obtain ⟨r1, r2⟩ := ht t (by simp)
  exact ⟨a, b, WideElems.Trod_stays hl r1 r2 h1 (fun x hx => hb.same (hlt x (by simp [hx]))) (fun x hx => hs x (by simp [hx])), args_back hl hb h2 (fun t' h3 => ht t' (by simp [h3])) (fun x hx => hlt x (by simp [hx])) (fun x hx => hs x (by simp [hx])), rfl⟩
theorem row_contract {f : FuncId} {fn : Func} {spec : ChangeSpec} {A : AFun} {n : Nat} {tb : TypeId} {G : Nat → Option D} (hA : Meets G P f A) (hl : laidOutB P = true)
  (hty : (fn.params.toList.all fun t => (tyX P n t).isSome && P.readableRec t && decide (t < P.types.size)) = true)
  (hvars : spec.vars = []) (hres : fn.resultTypes = #[tb]) (htb : P.underlying tb = some .bool)
  (hspec : ∀ ds : List (DataW H), ds.length = fn.params.toList.length → spec.fn H ds = { results := [.lit (.bool true)], args := ds })
  {W : World} {base : Nat} {args : Array Value} {ds gs : List (DataW H)} {before : List MemPlace}
  (hlaw : ∀ dd, All2 (fun t d => DOf P n t d) fn.params.toList dd → dbulkL dd ≤ Go.Proofs.YtpepmhbdblldeaaDoor.Rows.uptoBulkAll (ds ++ gs) → ∃ dd', All2 Nrm dd dd' ∧ A dd' [] (fun d _ => d = .raw (.bool true)))
  (hval : ∀ (j : Nat) t v, fn.params[j]? = some t → args[j]? = some v → Value.okWide P W .any base t v)
  (hW : DataW.Whole enc P fn.params.toList spec.vars false W args.toList ds gs before) (hG : ∀ g d, G g = some d → LR noPl W (old W) (.cptr d) (.pointer (some ⟨g, 0, none⟩))) :
  Calls P f args W fun e W' => ∃ v, e = .returned v ∧ spec.post enc P fn false true false false W args v W' := by
 have hW' := hW
 obtain ⟨p, q, hA0, hV, rfl, hfz, hnd⟩ := hW
 rw [hvars] at hV
 obtain ⟨rfl, rfl⟩ := trodVars_none hV
 have hty' : ∀ t ∈ fn.params.toList, (tyX P n t).isSome = true ∧ P.readableRec t = true ∧ t < P.types.size := by
  intro t ht
  have := List.all_eq_true.1 hty t ht
  simp only [Bool.and_eq_true, decide_eq_true_eq] at this
  exact ⟨this.1.1, this.1.2, this.2⟩
 obtain ⟨dd, g1, g2, g3⟩ := args_D (n := n) (base := base) hA0 (fun j t v h1 h2 => hval j t v (by simpa using h1) (by simpa using h2)) (fun t ht => (hty' t ht).1)
 rw [List.append_nil] at hlaw
 have hlt : ∀ x ∈ p, x.block < W.heap.size := fun x hx => hW'.lt x (by simp [hx])
 have hlen : ds.length = fn.params.toList.length := by
  clear hlaw g1 g2 g3 dd hW' hfz hnd hlt hV hty hty' hval hspec
  generalize fn.params.toList = ts at hA0 ⊢
  generalize args.toList = vs at hA0
  induction ts generalizing vs ds p with
  | nil => obtain ⟨rfl, rfl, rfl⟩ := trodAll_nil hA0; rfl
  | cons t ts ih =>
   obtain ⟨v, vs1, d, ds1, a, b, rfl, rfl, rfl, h1, h2⟩ := trodAll_cons hA0
   simp [ih _ _ h2]
 obtain ⟨dd', n1, n2⟩ := hlaw dd g1 g3
 have g2' : All2 (VR noPl W (old W)) dd' args.toList := by
  refine ⟨by rw [← n1.len]; exact g2.len, fun i x y hx hy => ?_⟩
  have hi : i < dd.length := by rw [n1.len]; exact lt_of_get hx
  have hd := List.getElem?_eq_getElem hi
  exact (n1.at_ i _ x hd hx).vr (g2.at_ i _ y hd hy)
 refine (hA dd' [] _ n2 noPl W (old W) args ⟨fun r row L h => by simp [live] at h, fun r _ row _ _ _ h => by simp [live] at h⟩ (fun _ _ => rfl) (fun b h => h) g2' hG).mono fun e W' hb => ?_
 obtain ⟨v, d, rows', ρ', T', rfl, rfl, -, -, -, hst, hv⟩ := hb.ex
 have hv' := hv.ofRaw
 subst hv'
 have hbl := hst.below
 simp only [List.append_nil] at hW' 
 refine ⟨_, rfl, post_below (pa := p) (pv := []) hW' (fun _ _ _ => ?_) (fun sp hsp => ?_) (fun sp _ => ?_) (by simp) hbl (ok_one hres rfl (okWide_bool_mk htb _))⟩
 ·rw [List.append_nil, hspec ds hlen, hres]
  exact trodAll_cons_mk (shut_bool htb _) trodAll_mk0
 ·rw [List.append_nil, hspec ds hlen]
  exact args_back hl hbl hA0 (fun t ht => (hty' t ht).2) hlt hsp
 ·rw [List.append_nil, hspec ds hlen, hvars]
  exact rfl
end
end Go.Am
namespace Go.Am
open Go.ChangeShapes Go.WideShapes Go.ChangeAt Go.RowKit
set_option linter.unusedVariables false
set_option linter.unusedSimpArgs false
mutual
/-- a type whose values are data -/
inductive TK where
 | bool
 | int (k : IntKind)
 | str
 | struct (l : TKs)
 | arr (n : Nat) (t : TK)
 | slice (t : TK)
inductive TKs where
 | nil
 | cons (a : TK) (l : TKs)
end
mutual
def TK.sh : TK → Sh
 | .bool => .leaf .bool
 | .int k => .leaf (.int k)
 | .str => .leaf .str
 | .struct l => l.sh
 | .arr n t => .ar n t.sh
 | .slice _ => .ref
def TKs.sh : TKs → Sh
 | .nil => .nil
 | .cons a l => .cons a.sh l.sh
end
def flK (f : TypeId → Option TK) : List TypeId → Option TKs
 | [] => some .nil
 | x :: l => match f x with
  | some a => match flK f l with
   | some b => some (.cons a b)
   | none => none
  | none => none
def tyK (P : Program) : Nat → TypeId → Option TK
 | 0, _ => none
 | n + 1, t => match P.underlying t with
  | some .bool => some .bool
  | some (.int k) => some (.int k)
  | some .string => some .str
  | some (.struct fs) => match flK (tyK P n) (fs.toList.map (·.type)) with
   | some l => some (.struct l)
   | none => none
  | some (.array m e) => match tyK P n e with
   | some a => some (.arr m a)
   | none => none
  | some (.slice e) => match tyK P n e with
   | some a => some (.slice a)
   | none => none
  | _ => none
mutual
/-- data of a type -/
def DK : TK → D → Prop
 | .bool, d => ∃ b, d = .raw (.bool b)
 | .int .u8, d => ∃ x : BitVec 8, d = .raw (u8 x)
 | .int .u16, d => ∃ x : BitVec 16, d = .raw (u16 x)
 | .int .u32, d => ∃ x : BitVec 32, d = .raw (u32 x)
 | .int .u64, d => ∃ x : BitVec 64, d = .raw (u64 x)
 | .int .i64, d => ∃ n : Int, (-9223372036854775808 ≤ n ∧ n < 9223372036854775808) ∧ d = .raw (it n)
 | .int k, d => ∃ n : Int, d = .raw (.int k n) ∧ (Lit.int k n).wf = true
 | .str, d => ∃ b, d = .raw (.string b) ∧ b.size ≤ maxLen
 | .struct l, d => ∃ ds, d = .agg l.sh ds ∧ DKs l ds
 | .arr n t, d => ∃ l, d = .agg (.ar n t.sh) l ∧ l.length = n ∧ ∀ x ∈ l, DK t x
 | .slice t, d => d = .raw (.slice none 0 0) ∨ ∃ l, d = .lst t.sh l false ∧ l.length ≤ maxLen ∧ ∀ x ∈ l, DK t x
def DKs : TKs → List D → Prop
 | .nil, [] => True
 | .cons a l, d :: ds => DK a d ∧ DKs l ds
 | _, _ => False
end
variable {P : Program}
theorem fl_sh {n : Nat} (ih : ∀ (t : TypeId) (k : TK) (s : Sh), tyK P n t = some k → tyX P n t = some s → s = k.sh) : ∀ (fs : List Field) (off : Nat) (l : TKs) (s : Sh),
  flK (tyK P n) (fs.map (·.type)) = some l → flX P (tyX P n) off fs = some s → s = l.sh
 | [], off, l, s, h1, h2 => by
  simp [flK] at h1; simp [flX] at h2
  subst h1; subst h2; rfl
 | f :: fs, off, l, s, h1, h2 => by
  simp only [List.map_cons, flK] at h1
  simp only [flX] at h2
  split at h1
  ·rename_i a ha
   split at h1
   ·rename_i b hb
    cases h1
    split at h2
    ·rename_i s1 hs1
     cases hq : (f.offset == off && P.cellsOf f.type == s1.size) with
     | false => rw [hq] at h2; cases h2
     | true =>
      rw [hq] at h2
      simp only [cond_true] at h2
      split at h2
      ·rename_i s2 hs2
       cases h2
       rw [ih _ _ _ ha hs1, fl_sh ih fs _ _ _ hb hs2]
       rfl
      ·cases h2
    ·cases h2
   ·cases h1
  ·cases h1
theorem ty_sh : ∀ (n : Nat) (t : TypeId) (k : TK) (s : Sh), tyK P n t = some k → tyX P n t = some s → s = k.sh
 | 0, t, k, s, h1, h2 => by simp [tyK] at h1
 | n + 1, t, k, s, h1, h2 => by
  have ih := ty_sh n
  simp only [tyK] at h1
  simp only [tyX] at h2
  cases hu : P.underlying t with
  | none => simp [hu] at h1
  | some u =>
   simp only [hu] at h1 h2
   cases u with
   | bool => cases h1; cases h2; rfl
   | int => cases h1; cases h2; rfl
   | string => cases h1; cases h2; rfl
   | struct fs =>
    simp only at h1 h2
    split at h1
    ·rename_i l hl
     cases h1
     split at h2
     ·rename_i s' hs'
      cases hq : (P.cellsOf t == s'.size) with
      | false => rw [hq] at h2; cases h2
      | true =>
       rw [hq] at h2
       cases h2
       exact fl_sh ih _ _ _ _ hl hs'
     ·cases h2
    ·cases h1
   | array m e =>
    simp only at h1 h2
    split at h1
    ·rename_i a ha
     cases h1
     split at h2
     ·rename_i s' hs'
      cases hq : (P.cellsOf e == s'.size && P.cellsOf t == m * s'.size) with
      | false => rw [hq] at h2; cases h2
      | true =>
       rw [hq] at h2
       cases h2
       rw [ih _ _ _ ha hs']
       rfl
     ·cases h2
    ·cases h1
   | slice e =>
    simp only at h1 h2
    split at h1
    ·rename_i a ha
     cases h1
     split at h2
     ·rename_i s' hs'
      cases hq : (P.cellsOf e == s'.size && Nat.blt 0 s'.size) with
      | false => rw [hq] at h2; cases h2
      | true => rw [hq] at h2; cases h2; rfl
     ·cases h2
    ·cases h1
   | _ => cases h1
theorem wf_bv {w : Nat} {m : Int} (h : 0 ≤ m ∧ m < 2 ^ w) : m = ((BitVec.ofInt w m).toNat : Int) := by
 rw [BitVec.toNat_ofInt]
 rw [Int.emod_eq_of_lt h.1 (by simpa using h.2)]
 omega
theorem dof_int {k : IntKind} {m : Int} (h : (Lit.int k m).wf = true) : DK (.int k) (.raw (.int k m)) := by
 have hw := h
 cases k <;> simp only [Lit.wf, Bool.and_eq_true, decide_eq_true_eq, IntKind.min, IntKind.max, IntKind.signed, IntKind.bits, DK] at h ⊢
 ·exact ⟨m, rfl, h⟩
 ·exact ⟨m, rfl, h⟩
 ·exact ⟨m, rfl, h⟩
 ·exact ⟨m, by simp at h; omega, rfl⟩
 ·exact ⟨BitVec.ofInt 8 m, by unfold u8; rw [← wf_bv]; simp at h; omega⟩
 ·exact ⟨BitVec.ofInt 16 m, by unfold u16; rw [← wf_bv]; simp at h; omega⟩
 ·exact ⟨BitVec.ofInt 32 m, by unfold u32; rw [← wf_bv]; simp at h; omega⟩
 ·exact ⟨BitVec.ofInt 64 m, by unfold u64; rw [← wf_bv]; simp at h; omega⟩
theorem fl_dk {n : Nat} (ih : ∀ (t : TypeId) (k : TK) (d : D), tyK P n t = some k → DOf P n t d → DK k d) : ∀ (fs : List Field) (l : TKs) (ds : List D),
  flK (tyK P n) (fs.map (·.type)) = some l → All2 (fun (f : Field) x => DOf P n f.type x) fs ds → DKs l ds
 | [], l, ds, h1, h2 => by
  simp [flK] at h1
  have : ds = [] := List.eq_nil_of_length_eq_zero (by simpa using h2.len.symm)
  subst h1; subst this; trivial
 | f :: fs, l, ds, h1, h2 => by
  simp only [List.map_cons, flK] at h1
  split at h1
  ·rename_i a ha
   split at h1
   ·rename_i b hb
    cases h1
    match ds, h2.len with
    | d :: ds, _ => exact ⟨ih _ _ _ ha h2.head, fl_dk ih fs _ _ hb h2.tail⟩
   ·cases h1
  ·cases h1
theorem dof_dk : ∀ (n : Nat) (t : TypeId) (k : TK) (d : D), tyK P n t = some k → DOf P n t d → DK k d
 | 0, t, k, d, h1, h2 => by simp [tyK] at h1
 | n + 1, t, k, d, h1, h2 => by
  have ih := dof_dk n
  simp only [tyK] at h1
  simp only [DOf] at h2
  cases hu : P.underlying t with
  | none => simp [hu] at h1
  | some u =>
   simp only [hu] at h1 h2
   cases u with
   | bool => cases h1; exact h2
   | int k => cases h1; obtain ⟨m, rfl, hw⟩ := h2; exact dof_int hw
   | string => cases h1; exact h2
   | struct fs =>
    simp only at h1 h2
    split at h1
    ·rename_i l hl
     cases h1
     obtain ⟨s, ds, g1, rfl, g2⟩ := h2
     have := fl_sh (ty_sh n) _ _ _ _ hl g1
     subst this
     exact ⟨ds, rfl, fl_dk ih _ _ _ hl g2⟩
    ·cases h1
   | array m e =>
    simp only at h1 h2
    split at h1
    ·rename_i a ha
     cases h1
     obtain ⟨s, l, g1, rfl, g2, g3⟩ := h2
     have := ty_sh n _ _ _ ha g1
     subst this
     exact ⟨l, rfl, g2, fun x hx => ih _ _ _ ha (g3 x hx)⟩
    ·cases h1
   | slice e =>
    simp only at h1 h2
    split at h1
    ·rename_i a ha
     cases h1
     rcases h2 with rfl | ⟨s, l, g1, rfl, g2, g3⟩
     ·exact .inl rfl
     ·have := ty_sh n _ _ _ ha g1
      subst this
      exact .inr ⟨l, rfl, g2, fun x hx => ih _ _ _ ha (g3 x hx)⟩
    ·cases h1
   | _ => cases h1
theorem dofs_dks {n : Nat} : ∀ {ts : List TypeId} {ks : TKs} {dd : List D}, flK (tyK P n) ts = some ks → All2 (fun t d => DOf P n t d) ts dd → DKs ks dd
 | [], ks, dd, h1, h2 => by
  simp [flK] at h1
  have : dd = [] := List.eq_nil_of_length_eq_zero (by simpa using h2.len.symm)
  subst h1; subst this; trivial
 | t :: ts, ks, dd, h1, h2 => by
  simp only [flK] at h1
  split at h1
  ·rename_i a ha
   split at h1
   ·rename_i b hb
    cases h1
    match dd, h2.len with
    | d :: ds, _ => exact ⟨dof_dk _ _ _ _ ha h2.head, dofs_dks hb h2.tail⟩
   ·cases h1
  ·cases h1
theorem dk_bytes : ∀ {l : List D}, (∀ x ∈ l, DK (.int .u8) x) → ∃ l' : List (BitVec 8), l = bs l'
 | [], _ => ⟨[], rfl⟩
 | x :: l, h => by
  obtain ⟨b, rfl⟩ := h x (by simp)
  obtain ⟨l', rfl⟩ := dk_bytes (l := l) (fun y hy => h y (by simp [hy]))
  exact ⟨b :: l', rfl⟩
theorem dbulkL_bs (l : List (BitVec 8)) : dbulkL (bs l) = l.length := by
 induction l with
 | nil => rfl
 | cons x l ih => simp only [bs, List.map_cons, dbulkL] at ih ⊢; rw [ih]; simp [dbulk, u8]; omega
theorem dk_bs {d : D} (h : DK (.slice (.int .u8)) d) : ∃ l : List (BitVec 8), IsBs d l ∧ l.length ≤ dbulk d ∧ l.length ≤ maxLen := by
 rcases h with rfl | ⟨l, rfl, g1, g2⟩
 ·exact ⟨[], .inl ⟨rfl, rfl⟩, by simp, by simp⟩
 ·obtain ⟨l', rfl⟩ := dk_bytes g2
  exact ⟨l', .inr ⟨false, rfl⟩, by simp only [dbulk, dbulkL_bs]; omega, by simpa [bs] using g1⟩
theorem dk_arr8 {n : Nat} {d : D} (h : DK (.arr n (.int .u8)) d) : ∃ l : List (BitVec 8), d = .agg (.ar n (.leaf u8s)) (bs l) ∧ l.length = n := by
 obtain ⟨l, rfl, g1, g2⟩ := h
 obtain ⟨l', rfl⟩ := dk_bytes g2
 exact ⟨l', rfl, by simpa [bs] using g1⟩
def DN : TK → D → Prop
 | .slice t, d => ∃ l, d = .lst t.sh l false ∧ l.length ≤ maxLen ∧ ∀ x ∈ l, DK t x
 | k, d => DK k d
def DNs : TKs → List D → Prop
 | .nil, [] => True
 | .cons a l, d :: ds => DN a d ∧ DNs l ds
 | _, _ => False
theorem dk_dn {k : TK} {d : D} (h : DK k d) : ∃ d', Nrm d d' ∧ DN k d' ∧ dbulk d' ≤ dbulk d := by
 cases k with
 | slice t =>
  rcases h with rfl | ⟨l, rfl, g1, g2⟩
  ·exact ⟨_, .nil t.sh false, ⟨[], rfl, by simp, by simp⟩, by simp [dbulk, dbulkL]⟩
  ·exact ⟨_, .refl _, ⟨l, rfl, g1, g2⟩, Nat.le_refl _⟩
 | _ => exact ⟨d, .refl _, h, Nat.le_refl _⟩
theorem dks_dns : ∀ {ks : TKs} {dd : List D}, DKs ks dd → ∃ dd', All2 Nrm dd dd' ∧ DNs ks dd' ∧ dbulkL dd' ≤ dbulkL dd
 | .nil, [], _ => ⟨[], .nil, trivial, Nat.le_refl _⟩
 | .nil, _ :: _, h => by simp [DKs] at h
 | .cons a l, [], h => by simp [DKs] at h
 | .cons a l, d :: ds, h => by
  obtain ⟨d', h1, h2, h3⟩ := dk_dn h.1
  obtain ⟨ds', g1, g2, g3⟩ := dks_dns h.2
  exact ⟨d' :: ds', .cons h1 g1, ⟨h2, g2⟩, by simp only [dbulkL]; omega⟩
theorem dn_bs {d : D} (h : DN (.slice (.int .u8)) d) : ∃ l : List (BitVec 8), d = .lst L8 (bs l) false ∧ l.length ≤ maxLen ∧ dbulk d = l.length + 1 := by
 obtain ⟨l, rfl, g1, g2⟩ := h
 obtain ⟨l', rfl⟩ := dk_bytes g2
 exact ⟨l', rfl, by simpa [bs] using g1, by simp only [dbulk, dbulkL_bs]⟩
theorem row_law {H : Type} {enc : TypeId × Value → H} {f : FuncId} {fn : Func} {spec : ChangeSpec} {A : AFun} {ks : TKs} {n : Nat} {tb : TypeId} {G : Nat → Option D} (hA : Meets G P f A) (hl : laidOutB P = true)
  (hty : (fn.params.toList.all fun t => (tyX P n t).isSome && P.readableRec t && decide (t < P.types.size)) = true) (hks : flK (tyK P n) fn.params.toList = some ks)
  (hvars : spec.vars = []) (hres : fn.resultTypes = #[tb]) (htb : P.underlying tb = some .bool)
  (hspec : ∀ ds : List (DataW H), ds.length = fn.params.toList.length → spec.fn H ds = { results := [.lit (.bool true)], args := ds })
  {W : World} {base : Nat} {args : Array Value} {ds gs : List (DataW H)} {before : List MemPlace}
  (hlaw : ∀ dd, DNs ks dd → dbulkL dd ≤ Go.Proofs.YtpepmhbdblldeaaDoor.Rows.uptoBulkAll (ds ++ gs) → A dd [] (fun d _ => d = .raw (.bool true)))
  (hval : ∀ (j : Nat) t v, fn.params[j]? = some t → args[j]? = some v → Value.okWide P W .any base t v)
  (hW : DataW.Whole enc P fn.params.toList spec.vars false W args.toList ds gs before) (hG : ∀ g d, G g = some d → LR noPl W (old W) (.cptr d) (.pointer (some ⟨g, 0, none⟩))) :
  Calls P f args W fun e W' => ∃ v, e = .returned v ∧ spec.post enc P fn false true false false W args v W' :=
 row_contract hA hl hty hvars hres htb hspec (fun dd h1 h2 => by
  obtain ⟨dd', g1, g2, g3⟩ := dks_dns (dofs_dks hks h1)
  exact ⟨dd', g1, hlaw dd' g2 (by omega)⟩) hval hW hG
end Go.Am
namespace Go.Am
set_option linter.unusedVariables false
set_option linter.unusedSimpArgs false
def numsD (k : IntKind) (zs : List Int) : D := .agg (.ar zs.length (.leaf (.int k))) (zs.map fun z => .raw (.int k z))
theorem flat_nums (k : IntKind) : ∀ zs : List Int, flatL (zs.map fun z => D.raw (.int k z)) = zs.map fun z => D.raw (.int k z)
 | [] => rfl
 | z :: zs => by simp [flatL, D.flat, flat_nums k zs]
theorem laid_one {P : Program} {W : World} {name : String} {k : IntKind} {zs : List Int} {g : Nat} {t e : TypeId} {n : Nat}
  (hg : P.globalNamed name = some g) (hty : (P.globals[g]?).map (·.type) = some t) (ht : P.underlying t = some (.array n e)) (he : P.underlying e = some (.int k)) (hce : P.cellsOf e = 1) (hct : P.cellsOf t = n) :
  ∀ {l : List (String × DataW Unit)} {ps : List MemPlace}, DataW.LaidVars P W l ps → (name, Lib.tabData k zs) ∈ l → Lib.TabIs P W name k zs
 | [], ps, _, hm => by cases hm
 | (n', d') :: r, ps, h, hm => by
  obtain ⟨g', t', cs, fuel, p, q, hg', ht', hvar, hd, hr, _⟩ := h
  rcases List.mem_cons.1 hm with hm | hm
  ·cases hm
   obtain rfl := Option.some.inj (hg.symm.trans hg')
   obtain rfl := Option.some.inj (hty.symm.trans ht')
   unfold Lib.TabIs
   rw [hvar, ← Lib.cells_of_tab ht he hce hct hd]
  ·exact laid_one hg hty ht he hce hct hr hm
theorem laid_glob {P : Program} {W : World} {name : String} {k : IntKind} {zs : List Int} {g : Nat} {t e : TypeId} {n : Nat} {l : List (String × DataW Unit)} (h : laidMet P l W) (hm : (name, Lib.tabData k zs) ∈ l)
  (hg : P.globalNamed name = some g) (hty : (P.globals[g]?).map (·.type) = some t) (ht : P.underlying t = some (.array n e)) (he : P.underlying e = some (.int k)) (hce : P.cellsOf e = 1) (hct : P.cellsOf t = n) (hz : zs ≠ []) :
  LR noPl W (old W) (.cptr (numsD k zs)) (.pointer (some ⟨g, 0, none⟩)) := by
 obtain ⟨ps, hv, _⟩ := h
 have hT := laid_one hg hty ht he hce hct hv hm
 refine LR.mkCptr (cs := zs.map fun z => Value.int k z) (s := .ar zs.length (.leaf (.int k))) ?_ ?_ ?_ ?_
 ·refine .agg _ _ rfl (by simp [Sh.count]) fun i e d h1 h2 => ?_
  simp only [Sh.sub] at h1
  split at h1
  ·cases h1
   obtain ⟨z, _, rfl⟩ := List.mem_map.1 (mem_of_get h2)
   exact .leaf _ _ (by simp [isSc])
  ·cases h1
 ·have := hT.cell hg 0 (by cases zs <;> simp_all)
  show g < W.heap.size
  rw [World.cell?] at this
  split at this
  ·rename_i h0; exact (Array.getElem?_eq_some_iff.1 h0).1
  ·cases this
 ·rw [numsD, D.flat, flat_nums]
  clear hT hm hz
  induction zs with
  | nil => exact .nil
  | cons z zs ih => exact .cons (.raw _ rfl) ih
 ·intro j x hx
  have hj : j < zs.length := by have := lt_of_get hx; simpa using this
  have := hT.cell hg j hj
  rw [Nat.zero_add, this]
  simp [hj] at hx
  simp [hj, ← hx]
end Go.Am
