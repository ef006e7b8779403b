/- Literals, make, append, copy, strings. -/
import Derived.Test.YtloclegkilgglaaAm9
namespace Go.Am
set_option linter.unusedVariables false
set_option linter.unusedSimpArgs false

variable {C : Ctx} {P : Program} {n : Nat} {ρ : Pl} {T : Nat → Prop} {env : Env} {rows : Rows} {a : Act} {w : World}

theorem offsOk_spec {s : Sh} : ∀ (fs : List Field) (i : Nat), offsOk s i fs = true → ∀ j f, fs[j]? = some f → f.offset = s.offs (i + j)
  | [], i, _, j, f, hf => by simp at hf
  | x :: fs, i, h, j, f, hf => by
    simp [offsOk] at h
    cases j with
    | zero => simp at hf; subst hf; exact h.1
    | succ j =>
      have := offsOk_spec fs (i + 1) h.2 j f (by simpa using hf)
      rw [this]; congr 1; omega
theorem sizesOk_spec {s : Sh} : ∀ (fs : List Field) (i : Nat), sizesOk P s i fs = true → ∀ j f, fs[j]? = some f → ∃ inf e, P.info? f.type = some inf ∧ s.sub (i + j) = some e ∧ inf.size = e.size
  | [], i, _, j, f, hf => by simp at hf
  | x :: fs, i, h, j, f, hf => by
    simp only [sizesOk, Bool.and_eq_true] at h
    cases j with
    | zero =>
      simp at hf; subst hf
      have h1 := h.1
      split at h1
      · rename_i inf e hi he
        exact ⟨inf, e, hi, he, by simpa using h1⟩
      · cases h1
    | succ j =>
      obtain ⟨inf, e, h1, h2, h3⟩ := sizesOk_spec fs (i + 1) h.2 j f (by simpa using hf)
      exact ⟨inf, e, h1, by rw [← h2]; congr 1; omega, h3⟩

theorem run_places : ∀ (fs : List Field), (∀ (j : Nat) (f : Field), fs[j]? = some f → ∃ inf, P.info? f.type = some inf) →
    ∃ ps : List (Nat × Nat), (fs.mapM (fun (f : Field) => (do pure (f.offset, ← sizeOf f.type) : Sem (Nat × Nat)))).run P w = .ok ps w ∧ ps.length = fs.length ∧
      ∀ (j : Nat) (f : Field) (inf : TypeInfo), fs[j]? = some f → P.info? f.type = some inf → ps[j]? = some (f.offset, inf.size)
  | [], _ => ⟨[], by simp, rfl, by simp⟩
  | x :: fs, h => by
    obtain ⟨inf, hi⟩ := h 0 x rfl
    obtain ⟨ps, h1, h2, h3⟩ := run_places fs (fun j f hf => h (j + 1) f (by simpa using hf))
    refine ⟨(x.offset, inf.size) :: ps, ?_, by simp [h2], fun j f inf' hf hi' => ?_⟩
    · rw [List.mapM_cons]
      simp [sizeOf, typeInfo, hi] at h1 ⊢
      simp [h1]
    · cases j with
      | zero => simp at hf; subst hf; rw [hi] at hi'; cases hi'; rfl
      | succ j => simpa using h3 j f inf' (by simpa using hf) hi'

theorem toAgg {s : Sh} {z : D} (h : HasSh s z) (ha : z.isAgg = true) : ∃ l, z = .agg s l ∧ dAgg z = l ∧ s.isAgg = true := by
  cases z <;> simp [D.isAgg] at ha
  obtain ⟨rfl, h2⟩ := agg_sh h
  exact ⟨_, rfl, rfl, h2⟩

section ops
variable (hs : Sim n ρ T env rows a w) (hG : Glob C ρ w T) {o : Oper} {k : D → Rows → Prop}
include hs hG

theorem op_buildS {t : TypeId} {parts : Array (Nat × Operand)} {ps : List (Nat × X)} {s : Sh} {z : D} {fs : Array Field} (ho : o.op = .build t parts) (hsh : sh P t = some s) (hz : zero P t = some z) (hu : P.underlying t = some (.struct fs))
    (hp : cParts parts.toList = some ps) (hza : z.isAgg = true) (hoffs : offsOk s 0 fs.toList = true) (hsizes : sizesOk P s 0 fs.toList = true) (hcnt : fs.toList.length = s.count)
    (h : aop C env rows (.build s (dAgg z) ps) k) : OpGoal P n o ρ T env rows a w k := by
  obtain ⟨l', hl, hk⟩ := bnd_some h
  obtain ⟨h1, v, h2, h3, h4⟩ := zero_spec hsh hz
  obtain ⟨l, rfl, hdz, ha⟩ := toAgg h1 hza
  rw [hdz] at hl
  obtain ⟨pl, g1, g2, g3⟩ := run_places (P := P) (w := w) fs.toList (fun j f hf => by
    obtain ⟨inf, e, q1, _, _⟩ := sizesOk_spec fs.toList 0 hsizes j f hf
    exact ⟨inf, q1⟩)
  have hplace : ∀ i e, s.sub i = some e → (fun j => pl[j]?) i = some (s.offs i, e.size) := by
    intro i e he
    have hi : i < fs.toList.length := by rw [hcnt]; exact sub_lt he
    have hf : fs.toList[i]? = some fs.toList[i] := List.getElem?_eq_getElem hi
    obtain ⟨inf, e', q1, q2, q3⟩ := sizesOk_spec fs.toList 0 hsizes i _ hf
    have := g3 i _ inf hf q1
    rw [Nat.zero_add] at q2
    rw [he] at q2
    cases q2
    have q4 := offsOk_spec fs.toList 0 hoffs i _ hf
    rw [Nat.zero_add] at q4
    simp only [this, q3, q4]
  have h4' := h4 ρ w T
  simp only [D.flat] at h4'
  obtain ⟨cells', f1, f2, f3⟩ := fill_sound hs hG (place := fun j => pl[j]?) hplace ha parts.toList ps l l' v.cells hp hl h1 h4'
  refine .here hs hk (VR.ofVR1 ⟨cells', rfl, f2, f3⟩) ?_
  have hm : (fs.mapM (fun (f : Field) => (do pure (f.offset, ← sizeOf f.type) : Sem (Nat × Nat)))).run P w = .ok pl.toArray w := by
    rw [Array.mapM_eq_mapM_toList]
    simp at g1
    simp [g1]
  have hpl : ∀ i : Nat, pl.toArray[i]? = pl[i]? := fun i => by simp
  simp only [bind_pure_comp] at hm
  simp [execOp, ho, Instr.build, h2, run_underlying hu, hm]
  have f1' : Instr.fill (fun x => pl[x]?) v.cells (List.map (fun x => (x.1, a.eval x.2)) parts.toList) = some cells' := f1
  simp [f1']

theorem op_buildA {t e : TypeId} {m : Nat} {parts : Array (Nat × Operand)} {ps : List (Nat × X)} {s se : Sh} {z : D} (ho : o.op = .build t parts) (hsh : sh P t = some s) (hz : zero P t = some z) (hu : P.underlying t = some (.array m e))
    (hp : cParts parts.toList = some ps) (hza : z.isAgg = true) (hse : sh P e = some se) (hs' : s = .ar m se)
    (h : aop C env rows (.build s (dAgg z) ps) k) : OpGoal P n o ρ T env rows a w k := by
  obtain ⟨l', hl, hk⟩ := bnd_some h
  obtain ⟨h1, v, h2, h3, h4⟩ := zero_spec hsh hz
  obtain ⟨l, rfl, hdz, ha⟩ := toAgg h1 hza
  rw [hdz] at hl
  subst hs'
  have h4' := h4 ρ w T
  simp only [D.flat] at h4'
  obtain ⟨cells', f1, f2, f3⟩ := fill_sound hs hG (place := fun i => some (i * se.size, se.size)) (fun i e he => by
    simp only [Sh.sub] at he
    split at he
    · cases he; rfl
    · cases he) ha parts.toList ps l l' v.cells hp hl h1 h4'
  refine .here hs hk (VR.ofVR1 ⟨cells', rfl, f2, f3⟩) ?_
  simp [execOp, ho, Instr.build, h2, run_underlying hu, run_sizeOf hse]
  simp [f1]

theorem op_bslice {t e : TypeId} {m : Nat} {parts : Array (Nat × Operand)} {ps : List (Nat × X)} {s : Sh} {z : D} (ho : o.op = .buildSlice t m parts) (hu : P.underlying t = some (.slice e)) (hsh : sh P e = some s) (hz : zero P e = some z)
    (hp : cParts parts.toList = some ps) (hsz : s.size ≠ 0) (hmost : m * s.size ≤ 16777216)
    (h : aop C env rows (.bslice s m z ps) k) : OpGoal P n o ρ T env rows a w k := by
  obtain ⟨l', hl, hk⟩ := bnd_some h
  obtain ⟨h1, v, h2, h3, h4⟩ := zero_spec hsh hz
  have hall := zeros_all2 (w := w) (ρ := ρ) (T := T) h1 h3 (h4 ρ w T) m
  have hagg : HasSh (.ar m s) (.agg (.ar m s) (List.replicate m z)) := by
    refine .agg _ _ rfl (by simp [Sh.count]) fun i e d hi hd => ?_
    simp only [Sh.sub] at hi
    split at hi
    · cases hi; rw [List.eq_of_mem_replicate (List.mem_of_getElem? hd)]; exact h1
    · cases hi
  obtain ⟨cells', f1, f2, f3⟩ := fill_sound hs hG (s := .ar m s) (place := fun i => some (i * s.size, s.size)) (fun i e he => by
    simp only [Sh.sub] at he
    split at he
    · cases he; rfl
    · cases he) rfl parts.toList ps (List.replicate m z) l' _ hp hl hagg hall
  obtain ⟨l2, hl2, hlen, hsub2⟩ := f2.aggOf rfl
  cases hl2
  have hels : ∀ d ∈ l', HasSh s d := by
    intro d hd
    obtain ⟨q, hq, rfl⟩ := List.mem_iff_getElem.1 hd
    exact hsub2 q s _ (by simp [Sh.sub]; simp [Sh.count] at hlen; omega) (List.getElem?_eq_getElem hq)
  have hcl := f3.len
  rw [flatL_len_all hels] at hcl
  simp [Sh.count] at hlen
  obtain ⟨q1, q2⟩ := hs.pushRun ⟨s, l'⟩ cells' e _ rfl hels (by rw [flatL_len_all hels]; simp at hcl; omega) f3.takeLen
  refine ⟨_, _, _, _, .slice (some ⟨w.heap.size, 0, none⟩) m m, _, hk, q1, q2, ?_, .inl ?_, fun _ => ⟨fun b hb => .inl (push_old hb), fun _ h => .inl h⟩⟩
  · have := LR.sl (ρ := upd ρ rows.length ⟨w.heap.size, s, cells'.size⟩) (w := { w with heap := w.heap.push (.cells cells' e) }) (T := T) s rows.length [] 0 m true ⟨w.heap.size, s, cells'.size⟩ m (by simp [upd]) (Nat.le_refl _) (fun _ => rfl)
      (.inl ⟨rfl, rfl, by simp at hcl ⊢; rw [← hcl, hlen]; exact Nat.le_refl _⟩)
    simpa [Loc.off] using VR.ofLeaf this
  · have hnz : ¬ (16777216 < m * s.size) := by omega
    have hpm : (parts.map fun x => (x.1, a.eval x.2)).toList = parts.toList.map fun x => (x.1, a.eval x.2) := by simp
    simp only [execOp, ho, Instr.buildSlice, Sem.run_bind, run_underlying hu, Result.andThen_ok, run_sizeOf hsh]
    rw [if_neg hnz]
    by_cases h0 : m * s.size = 0
    · rw [h0] at f1
      rw [if_pos h0, h0]
      have e0 : ∀ f : Nat → Value, (Array.range 0).map f = #[] := fun f => by simp
      rw [e0] at f1
      simp only [Sem.run_bind, Sem.run_pure, Result.andThen_ok, hpm, e0, f1]
      simp [newRow]
    · rw [if_neg h0]
      simp only [Sem.run_bind, h2, Result.andThen_ok, Sem.run_pure, hpm, f1]
      simp [newRow]

end ops

end Go.Am
