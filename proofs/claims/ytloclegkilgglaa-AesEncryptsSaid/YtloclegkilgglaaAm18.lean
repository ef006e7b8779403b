/- Operations that leave the rows alone: they come to one thing, and look at their operands alone. -/
import Derived.Test.YtloclegkilgglaaAm17
namespace Go.Am
set_option linter.unusedVariables false
set_option linter.unusedSimpArgs false

variable {C : Ctx} {P : Program} {n : Nat} {ρ : Pl} {T : Nat → Prop} {env : Env} {rows : Rows} {a : Act} {w : World}


def Det (rows : Rows) (f : (D → Rows → Prop) → Prop) : Prop := ∀ k, f k → ∃ d new, k d (rows ++ new) ∧ f (fun d2 r2 => d2 = d ∧ r2 = rows ++ new)

theorem det_leaf (rows : Rows) (d : D) : Det rows (fun k => k d rows) := fun k h => ⟨d, [], by simpa using h, rfl, by simp⟩
theorem det_new (rows new : Rows) (d : D) : Det rows (fun k => k d (rows ++ new)) := fun k h => ⟨d, new, h, rfl, rfl⟩
theorem det_false (rows : Rows) : Det rows (fun _ => False) := fun _ h => h.elim
theorem det_and {rows : Rows} {f : (D → Rows → Prop) → Prop} (p : Prop) (h : Det rows f) : Det rows (fun k => p ∧ f k) := by
  intro k ⟨hp, hf⟩
  obtain ⟨d, new, h1, h2⟩ := h k hf
  exact ⟨d, new, h1, hp, h2⟩
theorem det_bnd {α : Type} {rows : Rows} {x : Option α} {f : α → (D → Rows → Prop) → Prop} (h : ∀ a, Det rows (f a)) : Det rows (fun k => bnd x (fun a => f a k)) := by
  intro k hk
  cases x with
  | none => exact hk.elim
  | some a => exact h a k hk
theorem det_if {rows : Rows} {f g : (D → Rows → Prop) → Prop} (b : Bool) (hf : Det rows f) (hg : Det rows g) : Det rows (fun k => (b = true → f k) ∧ (b = false → g k)) := by
  intro k hk
  cases b with
  | true =>
    obtain ⟨d, new, h1, h2⟩ := hf k (hk.1 rfl)
    refine ⟨d, new, h1, fun _ => h2, fun h => ?_⟩
    cases h
  | false =>
    obtain ⟨d, new, h1, h2⟩ := hg k (hk.2 rfl)
    refine ⟨d, new, h1, fun h => ?_, fun _ => h2⟩
    cases h
theorem det_bounds {rows : Rows} {f : Nat → Nat → Nat → (D → Rows → Prop) → Prop} (l h m : Int) (n : Nat) (hf : ∀ a b c, Det rows (f a b c)) : Det rows (fun k => aBounds l h m n fun a b c => f a b c k) :=
  det_and _ (det_and _ (det_and _ (det_and _ (hf _ _ _))))

theorem det_aBin (rows : Rows) (op : BinOp) (x y : Value) : Det rows (fun k => aBin op x y fun d => k d rows) := by
  unfold aBin
  intro k h
  split at h
  all_goals first
    | exact h.elim
    | exact det_leaf rows _ k h
    | exact det_and _ (det_leaf rows _) k h
    | exact det_and _ (det_and _ (det_leaf rows _)) k h
theorem det_aUn (rows : Rows) (op : UnOp) (x : Value) : Det rows (fun k => aUn op x fun d => k d rows) := by
  unfold aUn
  intro k h
  split at h
  all_goals first
    | exact h.elim
    | exact det_leaf rows _ k h

theorem aop_det (hN : ∀ f, C.fnr f = none) (o : AOp) (hq : quietA o = true) : Det rows (aop C env rows o) := by
  cases o with
  | mv x => exact det_bnd fun d => det_leaf rows d
  | pick c x y =>
    refine det_bnd fun d => ?_
    cases d with
    | raw v =>
      cases v with
      | bool t => exact det_bnd fun d => det_leaf rows d
      | _ => exact det_false rows
    | _ => exact det_false rows
  | bin op x y =>
    refine det_bnd fun d => ?_
    cases d with
    | raw v =>
      refine det_bnd fun d2 => ?_
      cases d2 with
      | raw u => exact det_aBin rows op v u
      | _ => exact det_false rows
    | _ => exact det_false rows
  | eqa s neg x y =>
    refine det_bnd fun d => ?_
    cases d with
    | agg s1 l =>
      refine det_bnd fun d2 => ?_
      cases d2 with
      | agg s2 l' => exact det_and _ (det_and _ (det_bnd fun b => det_leaf rows _))
      | _ => exact det_false rows
    | _ => exact det_false rows
  | beq neg x y =>
    refine det_bnd fun d => ?_
    cases d with
    | raw v =>
      cases v with
      | bool t =>
        refine det_bnd fun d2 => ?_
        cases d2 with
        | raw u =>
          cases u with
          | bool t2 => exact det_leaf rows _
          | _ => exact det_false rows
        | _ => exact det_false rows
      | _ => exact det_false rows
    | _ => exact det_false rows
  | un op x =>
    refine det_bnd fun d => ?_
    cases d with
    | raw v => exact det_aUn rows op v
    | _ => exact det_false rows
  | conv kd x =>
    refine det_bnd fun d => ?_
    cases d with
    | raw v =>
      cases v with
      | int k n => exact det_leaf rows _
      | _ => exact det_false rows
    | _ => exact det_false rows
  | convs x =>
    refine det_bnd fun d => ?_
    cases d with
    | raw v =>
      cases v with
      | string b => exact det_leaf rows _
      | _ => exact det_false rows
    | _ => exact det_false rows
  | alloc s z => exact det_new rows _ _
  | box s x => exact det_bnd fun d => det_and _ (det_new rows _ _)
  | build s z ps => exact det_bnd fun l => det_leaf rows _
  | bslice s m z ps => exact det_bnd fun l => det_new rows _ _
  | load s x =>
    refine det_bnd fun d => ?_
    cases d with
    | ptr s' r p => exact det_and _ (det_bnd fun row => det_bnd fun d => det_leaf rows d)
    | cptr d => exact det_and _ (det_leaf rows _)
    | aptr m t r p off => exact det_and _ (det_bnd fun l => det_and _ (det_leaf rows _))
    | _ => exact det_false rows
  | nilc x =>
    refine det_bnd fun d => ?_
    cases d with
    | ptr s' r p => exact det_leaf rows _
    | cptr d => exact det_leaf rows _
    | _ => exact det_false rows
  | faddr s x i =>
    refine det_bnd fun d => ?_
    cases d with
    | ptr s' r p => exact det_and _ (det_bnd fun e => det_leaf rows _)
    | cptr d =>
      cases d with
      | agg s' l => exact det_and _ (det_bnd fun e => det_leaf rows _)
      | _ => exact det_false rows
    | _ => exact det_false rows
  | field s x i =>
    refine det_bnd fun d => ?_
    cases d with
    | agg s' l => exact det_and _ (det_bnd fun e => det_leaf rows _)
    | _ => exact det_false rows
  | iaddra m s x i =>
    refine det_bnd fun d => det_bnd fun d2 => ?_
    cases d2 with
    | raw v =>
      cases v with
      | int kd j =>
        cases d with
        | ptr s' r p => exact det_and _ (det_and _ (det_and _ (det_leaf rows _)))
        | cptr d =>
          cases d with
          | agg s' l => exact det_and _ (det_and _ (det_and _ (det_bnd fun d => det_leaf rows _)))
          | _ => exact det_false rows
        | _ => exact det_false rows
      | _ => exact det_false rows
    | _ => exact det_false rows
  | iaddrs s x i =>
    refine det_bnd fun d => det_bnd fun d2 => ?_
    cases d2 with
    | raw v =>
      cases v with
      | int kd j =>
        cases d with
        | sl t r p off len ex => exact det_and _ (det_and _ (det_and _ (det_leaf rows _)))
        | lst t l ex => exact det_and _ (det_and _ (det_and _ (det_bnd fun d => det_leaf rows _)))
        | _ => exact det_false rows
      | _ => exact det_false rows
    | _ => exact det_false rows
  | index m s x i =>
    refine det_bnd fun d => ?_
    cases d with
    | agg t l =>
      refine det_bnd fun d2 => ?_
      cases d2 with
      | raw v =>
        cases v with
        | int kd j => exact det_and _ (det_and _ (det_and _ (det_bnd fun d => det_leaf rows _)))
        | _ => exact det_false rows
      | _ => exact det_false rows
    | _ => exact det_false rows
  | sindex x i =>
    refine det_bnd fun d => ?_
    cases d with
    | raw v =>
      cases v with
      | string b =>
        refine det_bnd fun d2 => ?_
        cases d2 with
        | raw u =>
          cases u with
          | int kd j => exact det_and _ (det_bnd fun c => det_leaf rows _)
          | _ => exact det_false rows
        | _ => exact det_false rows
      | _ => exact det_false rows
    | _ => exact det_false rows
  | slicea m s x lo hi mx =>
    refine det_bnd fun d => det_bnd fun l => det_bnd fun h => det_bnd fun c => det_bounds _ _ _ _ fun a b e => ?_
    cases d with
    | ptr t r p => exact det_and _ (det_leaf rows _)
    | cptr d =>
      cases d with
      | agg s' l => exact det_and _ (det_leaf rows _)
      | _ => exact det_false rows
    | _ => exact det_false rows
  | slice s x lo hi mx =>
    refine det_bnd fun d => det_bnd fun l => det_bnd fun h => det_bnd fun c => det_bnd fun N => det_bounds _ _ _ _ fun a b e => ?_
    cases d with
    | raw v =>
      cases v with
      | slice ad len cap =>
        cases ad with
        | none =>
          cases len with
          | zero => cases cap with
            | zero => exact det_leaf rows _
            | succ _ => exact det_false rows
          | succ _ => exact det_false rows
        | some _ => exact det_false rows
      | _ => exact det_false rows
    | sl t r p off len ex => exact det_and _ (det_leaf rows _)
    | lst t l ex => exact det_and _ (det_leaf rows _)
    | _ => exact det_false rows
  | sslice x lo hi =>
    refine det_bnd fun d => ?_
    cases d with
    | raw v =>
      cases v with
      | string b => exact det_bnd fun l => det_bnd fun h => det_bounds _ _ _ _ fun a b e => det_leaf rows _
      | _ => exact det_false rows
    | _ => exact det_false rows
  | mks s b z l c =>
    refine det_bnd fun d => ?_
    cases d with
    | raw v =>
      cases v with
      | int kd j =>
        refine det_bnd fun d2 => ?_
        cases d2 with
        | raw u =>
          cases u with
          | int kd j => exact det_and _ (det_and _ (det_and _ (det_and _ (det_new rows _ _))))
          | _ => exact det_false rows
        | _ => exact det_false rows
      | _ => exact det_false rows
    | _ => exact det_false rows
  | ext x i =>
    refine det_bnd fun d => ?_
    cases d with
    | tup l => exact det_bnd fun d => det_leaf rows d
    | _ => exact det_false rows
  | len x => exact det_bnd fun d => det_bnd fun m => det_leaf rows _
  | strlen x =>
    refine det_bnd fun d => ?_
    cases d with
    | raw v =>
      cases v with
      | string b => exact det_leaf rows _
      | _ => exact det_false rows
    | _ => exact det_false rows
  | minmax mx l => exact det_bnd fun ds => det_bnd fun r => det_leaf rows _
  | b2s x => exact det_bnd fun d => det_and _ (det_bnd fun l => det_bnd fun m => det_and _ (det_bnd fun bs => det_leaf rows _))
  | s2b x =>
    refine det_bnd fun d => ?_
    cases d with
    | raw v =>
      cases v with
      | string b => exact det_leaf rows _
      | _ => exact det_false rows
    | _ => exact det_false rows
  | call f args =>
    refine det_bnd fun ds => ?_
    show Det rows (aCall C rows f ds)
    unfold aCall
    cases C.fn f with
    | some F => exact det_if _ (det_bnd fun ds' => det_bnd fun r => det_and _ (det_new rows _ _)) (det_bnd fun r => det_new rows _ _)
    | none =>
      rw [hN f]
      exact det_false rows
  | fail => exact det_false rows
  | frzb s x =>
    refine det_bnd fun d => ?_
    cases d with
    | sl t r p off len ex =>
      cases p with
      | nil => exact det_and _ (det_and _ (det_bnd fun row => det_and _ (det_leaf rows _)))
      | cons _ _ => exact det_false rows
    | _ => exact det_false rows
  | eqnil neg x y =>
    refine det_bnd fun d => det_bnd fun d2 => ?_
    cases d2 with
    | raw v =>
      cases v with
      | pointer ad =>
        cases ad with
        | none =>
          cases d with
          | raw v =>
            cases v with
            | pointer ad =>
              cases ad with
              | none => exact det_leaf rows _
              | some _ => exact det_false rows
            | _ => exact det_false rows
          | ptr _ _ _ => exact det_leaf rows _
          | cptr _ => exact det_leaf rows _
          | _ => exact det_false rows
        | some _ => exact det_false rows
      | _ => exact det_false rows
    | _ => exact det_false rows
  | s2a m s x =>
    refine det_bnd fun d => ?_
    cases d with
    | sl t r p off len ex => exact det_and _ (det_and _ (det_and _ (det_leaf rows _)))
    | lst t l ex => exact det_and _ (det_and _ (det_and _ (det_leaf rows _)))
    | _ => exact det_false rows
  | _ => cases hq

theorem evs_congr {env' : Env} : ∀ {l : List X}, (∀ x ∈ l, ev C env x = ev C env' x) → evs C env l = evs C env' l
  | [], _ => rfl
  | x :: l, h => by simp only [evs, h x (by simp), evs_congr (l := l) (fun y hy => h y (by simp [hy]))]
theorem evo_congr {env' : Env} {o : Option X} (h : ∀ x ∈ o.toList, ev C env x = ev C env' x) : evo C env o = evo C env' o := by
  cases o with
  | none => rfl
  | some x => simp only [evo, h x (by simp)]
theorem fillP_congr {env' : Env} {sub : Nat → Option Sh} : ∀ {ps : List (Nat × X)} {z : List D}, (∀ x ∈ ps.map (·.2), ev C env x = ev C env' x) → fillP C env sub ps z = fillP C env' sub ps z
  | [], z, _ => rfl
  | (i, x) :: ps, z, h => by
    have hx := h x (by simp)
    have ih := fun z => fillP_congr (sub := sub) (ps := ps) (z := z) (fun y hy => h y (List.mem_cons_of_mem _ hy))
    simp only [fillP, hx, ih]

theorem aop_congr {env' : Env} {o : AOp} (h : ∀ x ∈ o.xs, ev C env x = ev C env' x) (k : D → Rows → Prop) : aop C env rows o k = aop C env' rows o k := by
  cases o with
  | alloc s z => rfl
  | pick c x y => simp only [aop, h c (by simp [AOp.xs]), h x (by simp [AOp.xs]), h y (by simp [AOp.xs])]
  | build s z ps => simp only [aop, fillP_congr (ps := ps) h]
  | bslice s m z ps => simp only [aop, fillP_congr (ps := ps) h]
  | slicea m s x lo hi mx =>
    simp only [aop, h x (by simp [AOp.xs]), evo_congr (o := lo) (fun y hy => h y (by simp only [AOp.xs, List.mem_cons, List.mem_append]; exact .inr (.inl (.inl hy)))), evo_congr (o := hi) (fun y hy => h y (by simp only [AOp.xs, List.mem_cons, List.mem_append]; exact .inr (.inl (.inr hy)))), evo_congr (o := mx) (fun y hy => h y (by simp only [AOp.xs, List.mem_cons, List.mem_append]; exact .inr (.inr hy)))]
  | slice s x lo hi mx =>
    simp only [aop, h x (by simp [AOp.xs]), evo_congr (o := lo) (fun y hy => h y (by simp only [AOp.xs, List.mem_cons, List.mem_append]; exact .inr (.inl (.inl hy)))), evo_congr (o := hi) (fun y hy => h y (by simp only [AOp.xs, List.mem_cons, List.mem_append]; exact .inr (.inl (.inr hy)))), evo_congr (o := mx) (fun y hy => h y (by simp only [AOp.xs, List.mem_cons, List.mem_append]; exact .inr (.inr hy)))]
  | sslice x lo hi =>
    simp only [aop, h x (by simp [AOp.xs]), evo_congr (o := lo) (fun y hy => h y (by simp only [AOp.xs, List.mem_cons, List.mem_append]; exact .inr (.inl hy))), evo_congr (o := hi) (fun y hy => h y (by simp only [AOp.xs, List.mem_cons, List.mem_append]; exact .inr (.inr hy)))]
  | minmax mx l => simp only [aop, evs_congr (l := l) h]
  | call f l => simp only [aop, evs_congr (l := l) h]
  | callv fs x l => simp only [aop, h x (by simp [AOp.xs]), evs_congr (l := l) (fun y hy => h y (by simp [AOp.xs, hy]))]
  | fail => rfl
  | s2a _ _ x | frzb _ x | mnz x => simp only [aop, h x (by simp [AOp.xs])]
  | eqnil neg x y | eqsn neg x y => simp only [aop, h x (by simp [AOp.xs]), h y (by simp [AOp.xs])]
  | mv x | un op x | conv kd x | convs x | box s x | load s x | nilc x | faddr s x i | field s x i | ext x i | len x | strlen x | b2s x | s2b x => simp only [aop, h x (by simp [AOp.xs])]
  | bin op x y | eqa s neg x y | beq neg x y | store s x y | iaddra m s x y | iaddrs s x y | index m s x y | sindex x y | append s b x y | appendz s b z x y | copy s x y | mks s b z x y => simp only [aop, h x (by simp [AOp.xs]), h y (by simp [AOp.xs])]

end Go.Am
