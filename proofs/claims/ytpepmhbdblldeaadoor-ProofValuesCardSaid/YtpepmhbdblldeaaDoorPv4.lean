import Derived.Test.YtpepmhbdblldeaaDoorPv3
namespace Go.Am
set_option linter.unusedVariables false
set_option linter.unusedSimpArgs false
variable {C : Ctx} {P : Program} {n : Nat} {ρ : Pl} {T : Nat → Prop} {env : Env} {rows : Rows} {a : Act} {w : World}
theorem offsOk_spec {s : Sh} : ∀ (fs : List Field) (i : Nat), offsOk s i fs = true → ∀ j f, fs[j]? = some f → f.offset = s.offs (i + j)
 | [], i, _, j, f, hf => by simp at hf
 | x :: fs, i, h, j, f, hf => by
  simp [offsOk] at h
  cases j with
  | zero => simp at hf; subst hf; exact h.1
  | succ j =>
   have := offsOk_spec fs (i + 1) h.2 j f (by simpa using hf)
   rw [this]; congr 1; omega
theorem sizesOk_spec {s : Sh} : ∀ (fs : List Field) (i : Nat), sizesOk P s i fs = true → ∀ j f, fs[j]? = some f → ∃ inf e, P.info? f.type = some inf ∧ s.sub (i + j) = some e ∧ inf.size = e.size
 | [], i, _, j, f, hf => by simp at hf
 | x :: fs, i, h, j, f, hf => by
  simp only [sizesOk, Bool.and_eq_true] at h
  cases j with
  | zero =>
   simp at hf; subst hf
   have h1 := h.1
   split at h1
   ·rename_i inf e hi he
    exact ⟨inf, e, hi, he, by simpa using h1⟩
   ·cases h1
  | succ j =>
   obtain ⟨inf, e, h1, h2, h3⟩ := sizesOk_spec fs (i + 1) h.2 j f (by simpa using hf)
   exact ⟨inf, e, h1, by rw [← h2]; congr 1; omega, h3⟩
theorem run_places : ∀ (fs : List Field), (∀ (j : Nat) (f : Field), fs[j]? = some f → ∃ inf, P.info? f.type = some inf) →
  ∃ ps : List (Nat × Nat), (fs.mapM (fun (f : Field) => (do pure (f.offset, ← sizeOf f.type) : Sem (Nat × Nat)))).run P w = .ok ps w ∧ ps.length = fs.length ∧
   ∀ (j : Nat) (f : Field) (inf : TypeInfo), fs[j]? = some f → P.info? f.type = some inf → ps[j]? = some (f.offset, inf.size)
 | [], _ => ⟨[], by simp, rfl, by simp⟩
 | x :: fs, h => by
  obtain ⟨inf, hi⟩ := h 0 x rfl
  obtain ⟨ps, h1, h2, h3⟩ := run_places fs (fun j f hf => h (j + 1) f (by simpa using hf))
  refine ⟨(x.offset, inf.size) :: ps, ?_, by simp [h2], fun j f inf' hf hi' => ?_⟩
  ·rw [List.mapM_cons]
   simp [sizeOf, typeInfo, hi] at h1 ⊢
   simp [h1]
  ·cases j with
   | zero => simp at hf; subst hf; rw [hi] at hi'; cases hi'; rfl
   | succ j => simpa using h3 j f inf' (by simpa using hf) hi'
theorem toAgg {s : Sh} {z : D} (h : HasSh s z) (ha : z.isAgg = true) : ∃ l, z = .agg s l ∧ dAgg z = l ∧ s.isAgg = true := by
 cases z <;> simp [D.isAgg] at ha
 obtain ⟨rfl, h2⟩ := agg_sh h
 exact ⟨_, rfl, rfl, h2⟩
section ops
variable (hs : Sim n ρ T env rows a w) (hG : Glob C ρ w T) {o : Oper} {k : D → Rows → Prop}
include hs hG
theorem op_buildS {t : TypeId} {parts : Array (Nat × Operand)} {ps : List (Nat × X)} {s : Sh} {z : D} {fs : Array Field} (ho : o.op = .build t parts) (hsh : sh P t = some s) (hz : zero P t = some z) (hu : P.underlying t = some (.struct fs))
  (hp : cParts parts.toList = some ps) (hza : z.isAgg = true) (hoffs : offsOk s 0 fs.toList = true) (hsizes : sizesOk P s 0 fs.toList = true) (hcnt : fs.toList.length = s.count)
  (h : aop C env rows (.build s (dAgg z) ps) k) : OpGoal P n o ρ T env rows a w k := by
 obtain ⟨l', hl, hk⟩ := bnd_some h
 obtain ⟨h1, v, h2, h3, h4⟩ := zero_spec hsh hz
 obtain ⟨l, rfl, hdz, ha⟩ := toAgg h1 hza
 rw [hdz] at hl
 obtain ⟨pl, g1, g2, g3⟩ := run_places (P := P) (w := w) fs.toList (fun j f hf => by
  obtain ⟨inf, e, q1, _, _⟩ := sizesOk_spec fs.toList 0 hsizes j f hf
  exact ⟨inf, q1⟩)
 have hplace : ∀ i e, s.sub i = some e → (fun j => pl[j]?) i = some (s.offs i, e.size) := by
  intro i e he
  have hi : i < fs.toList.length := by rw [hcnt]; exact sub_lt he
  have hf : fs.toList[i]? = some fs.toList[i] := List.getElem?_eq_getElem hi
  obtain ⟨inf, e', q1, q2, q3⟩ := sizesOk_spec fs.toList 0 hsizes i _ hf
  have := g3 i _ inf hf q1
  rw [Nat.zero_add] at q2
  rw [he] at q2
  cases q2
  have q4 := offsOk_spec fs.toList 0 hoffs i _ hf
  rw [Nat.zero_add] at q4
  simp only [this, q3, q4]
 have h4' := h4 ρ w T
 simp only [D.flat] at h4'
 obtain ⟨cells', f1, f2, f3⟩ := fill_sound hs hG (place := fun j => pl[j]?) hplace ha parts.toList ps l l' v.cells hp hl h1 h4'
 refine .here hs hk (VR.ofVR1 ⟨cells', rfl, f2, f3⟩) ?_
 have hm : (fs.mapM (fun (f : Field) => (do pure (f.offset, ← sizeOf f.type) : Sem (Nat × Nat)))).run P w = .ok pl.toArray w := by
  rw [Array.mapM_eq_mapM_toList]
  simp at g1
  simp [g1]
 have hpl : ∀ i : Nat, pl.toArray[i]? = pl[i]? := fun i => by simp
 simp only [bind_pure_comp] at hm
 simp [execOp, ho, Instr.build, h2, run_underlying hu, hm]
 have f1' : Instr.fill (fun x => pl[x]?) v.cells (List.map (fun x => (x.1, a.eval x.2)) parts.toList) = some cells' := f1
 simp [f1']
theorem op_buildA {t e : TypeId} {m : Nat} {parts : Array (Nat × Operand)} {ps : List (Nat × X)} {s se : Sh} {z : D} (ho : o.op = .build t parts) (hsh : sh P t = some s) (hz : zero P t = some z) (hu : P.underlying t = some (.array m e))
  (hp : cParts parts.toList = some ps) (hza : z.isAgg = true) (hse : sh P e = some se) (hs' : s = .ar m se)
  (h : aop C env rows (.build s (dAgg z) ps) k) : OpGoal P n o ρ T env rows a w k := by
 obtain ⟨l', hl, hk⟩ := bnd_some h
 obtain ⟨h1, v, h2, h3, h4⟩ := zero_spec hsh hz
 obtain ⟨l, rfl, hdz, ha⟩ := toAgg h1 hza
 rw [hdz] at hl
 subst hs'
 have h4' := h4 ρ w T
 simp only [D.flat] at h4'
 obtain ⟨cells', f1, f2, f3⟩ := fill_sound hs hG (place := fun i => some (i * se.size, se.size)) (fun i e he => by
  simp only [Sh.sub] at he
  split at he
  ·cases he; rfl
  ·cases he) ha parts.toList ps l l' v.cells hp hl h1 h4'
 refine .here hs hk (VR.ofVR1 ⟨cells', rfl, f2, f3⟩) ?_
 simp [execOp, ho, Instr.build, h2, run_underlying hu, run_sizeOf hse]
 simp [f1]
theorem op_bslice {t e : TypeId} {m : Nat} {parts : Array (Nat × Operand)} {ps : List (Nat × X)} {s : Sh} {z : D} (ho : o.op = .buildSlice t m parts) (hu : P.underlying t = some (.slice e)) (hsh : sh P e = some s) (hz : zero P e = some z)
  (hp : cParts parts.toList = some ps) (hsz : s.size ≠ 0) (hmost : m * s.size ≤ 16777216)
  (h : aop C env rows (.bslice s m z ps) k) : OpGoal P n o ρ T env rows a w k := by
 obtain ⟨l', hl, hk⟩ := bnd_some h
 obtain ⟨h1, v, h2, h3, h4⟩ := zero_spec hsh hz
 have hall := zeros_all2 (w := w) (ρ := ρ) (T := T) h1 h3 (h4 ρ w T) m
 have hagg : HasSh (.ar m s) (.agg (.ar m s) (List.replicate m z)) := by
  refine .agg _ _ rfl (by simp [Sh.count]) fun i e d hi hd => ?_
  simp only [Sh.sub] at hi
  split at hi
  ·cases hi; rw [List.eq_of_mem_replicate (List.mem_of_getElem? hd)]; exact h1
  ·cases hi
 obtain ⟨cells', f1, f2, f3⟩ := fill_sound hs hG (s := .ar m s) (place := fun i => some (i * s.size, s.size)) (fun i e he => by
  simp only [Sh.sub] at he
  split at he
  ·cases he; rfl
  ·cases he) rfl parts.toList ps (List.replicate m z) l' _ hp hl hagg hall
 obtain ⟨l2, hl2, hlen, hsub2⟩ := f2.aggOf rfl
 cases hl2
 have hels : ∀ d ∈ l', HasSh s d := by
  intro d hd
  obtain ⟨q, hq, rfl⟩ := List.mem_iff_getElem.1 hd
  exact hsub2 q s _ (by simp [Sh.sub]; simp [Sh.count] at hlen; omega) (List.getElem?_eq_getElem hq)
 have hcl := f3.len
 rw [flatL_len_all hels] at hcl
 simp [Sh.count] at hlen
 obtain ⟨q1, q2⟩ := hs.pushRun ⟨s, l'⟩ cells' e _ rfl hels (by rw [flatL_len_all hels]; simp at hcl; omega) f3.takeLen
 refine ⟨_, _, _, _, .slice (some ⟨w.heap.size, 0, none⟩) m m, _, hk, q1, q2, ?_, .inl ?_, fun _ => ⟨fun b hb => .inl (push_old hb), fun _ h => .inl h⟩⟩
 ·have := LR.sl (ρ := upd ρ rows.length ⟨w.heap.size, s, cells'.size, false⟩) (w := { w with heap := w.heap.push (.cells cells' e) }) (T := T) s rows.length [] 0 m true ⟨w.heap.size, s, cells'.size, false⟩ m (by simp [upd]) (Nat.le_refl _) (fun _ => rfl)
   (.inl ⟨rfl, rfl, rfl, by simp at hcl ⊢; rw [← hcl, hlen]; exact Nat.le_refl _⟩)
  simpa [Loc.off] using VR.ofLeaf this
 ·have hnz : ¬ (16777216 < m * s.size) := by omega
  have hpm : (parts.map fun x => (x.1, a.eval x.2)).toList = parts.toList.map fun x => (x.1, a.eval x.2) := by simp
  simp only [execOp, ho, Instr.buildSlice, Sem.run_bind, run_underlying hu, Result.andThen_ok, run_sizeOf hsh]
  rw [if_neg hnz]
  by_cases h0 : m * s.size = 0
  ·rw [h0] at f1
   rw [if_pos h0, h0]
   have e0 : ∀ f : Nat → Value, (Array.range 0).map f = #[] := fun f => by simp
   rw [e0] at f1
   simp only [Sem.run_bind, Sem.run_pure, Result.andThen_ok, hpm, e0, f1]
   simp [newRow]
  ·rw [if_neg h0]
   simp only [Sem.run_bind, h2, Result.andThen_ok, Sem.run_pure, hpm, f1]
   simp [newRow]
end ops
end Go.Am
namespace Go.Am
set_option linter.unusedVariables false
set_option linter.unusedSimpArgs false
variable {C : Ctx} {P : Program} {n : Nat} {ρ : Pl} {T : Nat → Prop} {env : Env} {rows : Rows} {a : Act} {w : World}
theorem wrap64_id {x : Int} (h1 : -9223372036854775808 ≤ x) (h2 : x ≤ 9223372036854775807) : IntKind.i64.wrap x = x := by
 have e1 : (2 : Int) ^ IntKind.i64.bits = 18446744073709551616 := by decide
 have e2 : (2 : Int) ^ (IntKind.i64.bits - 1) = 9223372036854775808 := by decide
 simp only [IntKind.wrap, e1, e2, IntKind.signed, Bool.true_and]
 by_cases h : 0 ≤ x
 ·rw [Int.emod_eq_of_lt h (by omega)]
  rw [if_neg (by simp; omega)]
 ·have : x % 18446744073709551616 = x + 18446744073709551616 := by omega
  rw [this, if_pos (by simp; omega)]
  omega
theorem most_val : most = 1099511627776 := rfl
theorem run_most {i : TypeInfo} {N : Nat} (h : N * i.bytes ≤ most) {cap : Nat} (hc : cap < N) : Builtin.nextslicecap N cap * i.bytes ≤ 281474976710656 :=
 growslice_fits hc (by rw [most_val] at h; omega)
theorem replicate_split {α : Type} (z : α) {l c : Nat} (h : l ≤ c) : List.replicate c z = List.replicate l z ++ List.replicate (c - l) z := by
 rw [List.replicate_append_replicate]
 congr 1
 omega
theorem run_append_room' {argTypes : Array TypeId} {ty t u e : TypeId} {args : Array Value} {base : Option Addr} {sLen sCap m : Nat} {x : Value} {s : Sh} {ncs : List Value}
  (h0 : argTypes[0]? = some t) (h1 : argTypes[1]? = some u) (a0 : args[0]? = some (.slice base sLen sCap)) (a1 : args[1]? = some x) (hu : P.underlying t = some (.slice e)) (hu1 : (∃ e', P.underlying u = some (.slice e')) ∨ P.underlying u = some .string) (hsh : sh P e = some s) (hlen : (Builtin.lenOf x).run P w = .ok m w) (hf : (Builtin.firstCells s.size m x).run P w = .ok ncs.toArray w) (hroom : sLen + m ≤ sCap) :
  (Builtin.append_ argTypes ty args).run P w = match base with
   | some ad => ((storeCells (ad.add (sLen * s.size)) ncs).run P w).andThen fun _ w' => .ok (.slice base (sLen + m) sCap) w'
   | none => .ok (.slice base (sLen + m) sCap) w := by
 rcases hu1 with ⟨e', hu1⟩ | hu1 <;> cases base <;> simp [Builtin.append_, h0, h1, a0, a1, run_underlying hu, run_underlying hu1, run_sizeOf hsh, hlen, hroom, hf]
theorem run_append_grow' {argTypes : Array TypeId} {ty t u e : TypeId} {args : Array Value} {base : Option Addr} {sLen sCap m : Nat} {x z : Value} {s : Sh} {i : TypeInfo} {ncs ocs : List Value}
  (h0 : argTypes[0]? = some t) (h1 : argTypes[1]? = some u) (a0 : args[0]? = some (.slice base sLen sCap)) (a1 : args[1]? = some x) (hu : P.underlying t = some (.slice e)) (hu1 : (∃ e', P.underlying u = some (.slice e')) ∨ P.underlying u = some .string) (hsh : sh P e = some s) (hi : P.info? e = some i) (hz : ∀ w, (zeroValue e).run P w = .ok z w)
  (hlen : (Builtin.lenOf x).run P w = .ok m w) (hf : (Builtin.firstCells s.size m x).run P w.drew = .ok ncs.toArray w.drew) (ho : (Builtin.firstCells s.size sLen (.slice base sLen sCap)).run P w.drew = .ok ocs.toArray w.drew)
  (hg : sCap < sLen + m) (hb : (sLen + m) * i.bytes ≤ most) (hmost : sLen + m ≤ most) :
  (Builtin.append_ argTypes ty args).run P w = .ok (.slice (some ⟨w.heap.size, 0, none⟩) (sLen + m) (grownCap w (sLen + m) sCap e))
   (w.drew.alloc (.cells (ocs.toArray ++ ncs.toArray ++ Builtin.zeroCells z.cells (grownCap w (sLen + m) sCap e - (sLen + m))) e)) := by
 have hn : ¬ (sLen + m ≤ sCap) := by omega
 have h48 : ¬ (281474976710656 < Builtin.nextslicecap (sLen + m) sCap * i.bytes) := by have := run_most hb hg; omega
 have h63 : ¬ ((9223372036854775807 : Int) < (sLen : Int) + (m : Int)) := by
  rw [most_val] at hmost
  omega
 rcases hu1 with ⟨e', hu1⟩ | hu1 <;> simp [Builtin.append_, h0, h1, a0, a1, run_underlying hu, run_underlying hu1, run_sizeOf hsh, typeInfo, hi, hlen, hn, h48, h63, Question.forced, hf, ho, hz, newRow, grownCap] <;> (congr 2; apply Array.ext'; simp)
theorem run_appendz_room {argTypes : Array TypeId} {ty t u e : TypeId} {kd kd' : IntKind} {args : Array Value} {base : Option Addr} {sLen sCap m : Nat} {z : Value} {s : Sh} {i : TypeInfo}
  (h0 : argTypes[0]? = some t) (h1 : argTypes[1]? = some u) (a0 : args[0]? = some (.slice base sLen sCap)) (a1 : args[1]? = some (.int kd' m)) (hu : P.underlying t = some (.slice e)) (hu1 : P.underlying u = some (.int kd))
  (hsh : sh P e = some s) (hi : P.info? e = some i) (hz : ∀ w, (zeroValue e).run P w = .ok z w) (hroom : sLen + m ≤ sCap) (hb : (sLen + m) * i.bytes ≤ most) (hmost : sLen + m ≤ most) (hzs : z.cells.size = s.size) (hsz : s.size ≠ 0) :
  (Builtin.append_ argTypes ty args).run P w = match base with
   | some ad => ((storeCells (ad.add (sLen * s.size)) (Builtin.zeroCells z.cells m).toList).run P w).andThen fun _ w' => .ok (.slice base (sLen + m) sCap) w'
   | none => .ok (.slice base (sLen + m) sCap) w := by
 have hw : IntKind.i64.wrap (m : Int) = m := wrap64_id (by omega) (by rw [most_val] at hmost; omega)
 have hneg : ¬ ((m : Int) < 0) := by omega
 have h48 : ¬ ((281474976710656 : Int) < (m : Int) * (i.bytes : Int)) := by
  have h2 : m * i.bytes ≤ most := Nat.le_trans (Nat.mul_le_mul_right _ (by omega)) hb
  rw [most_val] at h2
  have h3 : ((m * i.bytes : Nat) : Int) = (m : Int) * (i.bytes : Int) := by simp
  omega
 by_cases hm : m = 0
 ·subst hm
  have hw0 : IntKind.i64.wrap (0 : Int) = 0 := by decide
  cases base <;> simp [Builtin.append_, h0, h1, a0, a1, run_underlying hu, run_underlying hu1, run_sizeOf hsh, asInt, asIntOf, typeInfo, hi, hw0, Builtin.zeroCells, storeCells, show sLen ≤ sCap by omega]
 ·have hms : m * s.size ≠ 0 := Nat.mul_ne_zero hm hsz
  cases base <;> simp [Builtin.append_, h0, h1, a0, a1, run_underlying hu, run_underlying hu1, run_sizeOf hsh, asInt, asIntOf, hw, hneg, typeInfo, hi, h48, hroom, hms, hz]
theorem run_appendz_grow {argTypes : Array TypeId} {ty t u e : TypeId} {kd kd' : IntKind} {args : Array Value} {base : Option Addr} {sLen sCap m : Nat} {z : Value} {s : Sh} {i : TypeInfo} {ocs : List Value}
  (h0 : argTypes[0]? = some t) (h1 : argTypes[1]? = some u) (a0 : args[0]? = some (.slice base sLen sCap)) (a1 : args[1]? = some (.int kd' m)) (hu : P.underlying t = some (.slice e)) (hu1 : P.underlying u = some (.int kd))
  (hsh : sh P e = some s) (hi : P.info? e = some i) (hz : ∀ w, (zeroValue e).run P w = .ok z w) (ho : (Builtin.firstCells s.size sLen (.slice base sLen sCap)).run P w.drew = .ok ocs.toArray w.drew)
  (hg : sCap < sLen + m) (hb : (sLen + m) * i.bytes ≤ most) (hmost : sLen + m ≤ most) (hzs : z.cells.size = s.size) (hsz : s.size ≠ 0) (hm : m ≠ 0) :
  (Builtin.append_ argTypes ty args).run P w = .ok (.slice (some ⟨w.heap.size, 0, none⟩) (sLen + m) (grownCap w (sLen + m) sCap e))
   (w.drew.alloc (.cells (ocs.toArray ++ Builtin.zeroCells z.cells m ++ Builtin.zeroCells z.cells (grownCap w (sLen + m) sCap e - (sLen + m))) e)) := by
 have hw : IntKind.i64.wrap (m : Int) = m := wrap64_id (by omega) (by rw [most_val] at hmost; omega)
 have hneg : ¬ ((m : Int) < 0) := by omega
 have h48 : ¬ ((281474976710656 : Int) < (m : Int) * (i.bytes : Int)) := by
  have h2 : m * i.bytes ≤ most := Nat.le_trans (Nat.mul_le_mul_right _ (by omega)) hb
  rw [most_val] at h2
  have h3 : ((m * i.bytes : Nat) : Int) = (m : Int) * (i.bytes : Int) := by simp
  omega
 have hn : ¬ (sLen + m ≤ sCap) := by omega
 have h48' : ¬ (281474976710656 < Builtin.nextslicecap (sLen + m) sCap * i.bytes) := by have := run_most hb hg; omega
 have h63 : ¬ ((9223372036854775807 : Int) < (sLen : Int) + (m : Int)) := by
  rw [most_val] at hmost
  omega
 have hms : m * s.size ≠ 0 := Nat.mul_ne_zero hm hsz
 simp [Builtin.append_, h0, h1, a0, a1, run_underlying hu, run_underlying hu1, run_sizeOf hsh, asInt, asIntOf, hw, hneg, typeInfo, hi, h48, hn, h48', h63, hms, hz, Question.forced, ho, newRow, grownCap]
structure AppRun (P : Program) (w : World) (e : TypeId) (s : Sh) (z : Value) (base : Option Addr) (sLen sCap m : Nat) (ocs ncs : List Value) (R : Result Value) : Prop where
 room : sLen + m ≤ sCap → R = match base with
   | some ad => ((storeCells (ad.add (sLen * s.size)) ncs).run P w).andThen fun _ w' => .ok (.slice base (sLen + m) sCap) w'
   | none => .ok (.slice base (sLen + m) sCap) w
 grow : sCap < sLen + m → R = .ok (.slice (some ⟨w.heap.size, 0, none⟩) (sLen + m) (grownCap w (sLen + m) sCap e))
   (w.drew.alloc (.cells (ocs.toArray ++ ncs.toArray ++ Builtin.zeroCells z.cells (grownCap w (sLen + m) sCap e - (sLen + m))) e))
theorem Sim.ghost {n : Nat} (h : Sim n ρ T env rows a w) (row : Row) : Sim n ρ T env (rows ++ [some row]) a w ∧ Step ρ T rows w ρ T (rows ++ [some row]) w := by
 have hk : ∀ r row' L, live (rows ++ [some row]) r = some row' → ρ r = some L → live rows r = some row' := by
  intro r row' L hl hL
  rcases live_append hl with ⟨rfl, _⟩ | ⟨_, h2⟩
  ·rw [h.dom rows.length (Nat.le_refl _)] at hL; cases hL
  ·exact h2
 refine ⟨⟨⟨fun r row' L h1 h2 => h.rowsOK.row r row' L (hk _ _ _ h1 h2) h2, fun r1 r2 row1 row2 L1 L2 h1 h2 h3 h4 => h.rowsOK.dist r1 r2 row1 row2 L1 L2 (hk _ _ _ h1 h3) (hk _ _ _ h2 h4) h3 h4⟩, h.env, h.size, h.tlt,
  fun r' hr' => h.dom r' (by simp at hr'; omega), h.defers⟩, ?_⟩
 exact ⟨fun _ _ h => h, fun _ h => h, fun _ h => .inl h, Nat.le_refl _, fun _ _ _ => rfl, fun r' row' L h1 h2 => .inl ⟨r', row', L, hk _ _ _ h1 h2, h2, rfl⟩, rfl, rfl, rfl, by simp, fun _ _ => rfl⟩
theorem Sim.killD (h : Sim n ρ T env rows a w) (d : D) : Sim n ρ T env (Am.kill rows d) a w ∧ Step ρ T rows w ρ T (Am.kill rows d) w ∧ (Am.kill rows d).length = rows.length := by
 cases d with
 | sl s r p o l e =>
  obtain ⟨h1, h2⟩ := h.kill r
  exact ⟨h1, h2, by simp [Am.kill]⟩
 | _ => exact ⟨h, Step.refl _ _ _ _, rfl⟩
theorem app_grow (hs : Sim n ρ T env rows a w) {s : Sh} {e : TypeId} {z : Value} {sLen sCap : Nat} {old news : List D} {ocs ncs : List Value} (hold : ∀ d ∈ old, HasSh s d) (hnew : ∀ d ∈ news, HasSh s d) (hl : old.length = sLen)
  (ho : All2 (LR ρ w T) (flatL old) ocs) (hn : All2 (LR ρ w T) (flatL news) ncs) (hzs : z.cells.size = s.size) {k : D → Rows → Prop} (da : D) :
  ∃ ρ', Sim n ρ' T env (rows ++ [some ⟨s, old ++ news⟩]) a (w.drew.alloc (.cells (ocs.toArray ++ ncs.toArray ++ Builtin.zeroCells z.cells (grownCap w (sLen + news.length) sCap e - (sLen + news.length))) e)) ∧
   Step ρ T rows w ρ' T (rows ++ [some ⟨s, old ++ news⟩]) (w.drew.alloc (.cells (ocs.toArray ++ ncs.toArray ++ Builtin.zeroCells z.cells (grownCap w (sLen + news.length) sCap e - (sLen + news.length))) e)) ∧
   ∀ w', LR ρ' w' T (.sl s rows.length [] 0 (sLen + news.length) false) (.slice (some ⟨w.heap.size, 0, none⟩) (sLen + news.length) (grownCap w (sLen + news.length) sCap e)) := by
 have hcap := grownCap_ge w (sLen + news.length) sCap e
 generalize hc : grownCap w (sLen + news.length) sCap e = cap at hcap ⊢
 generalize hcur : (ocs.toArray ++ ncs.toArray ++ Builtin.zeroCells z.cells (cap - (sLen + news.length))) = cur
 have hall : ∀ d ∈ old ++ news, HasSh s d := by
  intro d hd
  rcases List.mem_append.1 hd with h | h
  ·exact hold d h
  ·exact hnew d h
 have h1 : All2 (LR ρ w T) (flatL (old ++ news)) (ocs ++ ncs) := by rw [flatL_append]; exact ho.append hn
 have hcl : cur.toList = (ocs ++ ncs) ++ (Builtin.zeroCells z.cells (cap - (sLen + news.length))).toList := by rw [← hcur]; simp
 have hfl : (flatL (old ++ news)).length = (sLen + news.length) * s.size := by rw [flatL_len_all hall, List.length_append, hl]
 have hsz : cur.size = cap * s.size := by
  have : cur.size = cur.toList.length := by simp
  rw [this, hcl, List.length_append, ← h1.len, hfl]
  have : (Builtin.zeroCells z.cells (cap - (sLen + news.length))).toList.length = (cap - (sLen + news.length)) * s.size := by simp [Builtin.zeroCells, hzs]
  rw [this, ← Nat.add_mul]
  congr 1
  omega
 obtain ⟨g1, g2⟩ := (hs.heap (w' := w.drew) rfl).push (w' := w.drew.alloc (.cells cur e)) ⟨s, old ++ news⟩ cur e rfl rfl rfl rfl hall (by rw [hfl, hsz]; exact Nat.mul_le_mul_right _ hcap) (by
  rw [hcl, h1.len, List.take_left]
  exact h1.mono fun a b h => h.mono (fun _ _ h => h) (fun _ _ => rfl) (fun _ h => h))
 refine ⟨_, g1, ?_, fun w' => ?_⟩
 ·exact ⟨g2.pl, g2.tt, g2.tnew, g2.size, g2.keep, g2.fresh, g2.os, g2.tape, g2.output, g2.len, g2.same⟩
 ·have := LR.sl (ρ := upd ρ rows.length ⟨w.drew.heap.size, s, cur.size, false⟩) (w := w') (T := T) s rows.length [] 0 (sLen + news.length) false ⟨w.drew.heap.size, s, cur.size, false⟩ cap (by simp [upd]) hcap (by simp)
   (.inl ⟨rfl, rfl, rfl, by simp [hsz]⟩)
  simpa [Loc.off] using this
theorem take_app {α : Type} (l m r : List α) (N : Nat) (h : N = l.length + m.length) : (l ++ m ++ r).take N = l ++ m := by
 subst h
 rw [← List.length_append, List.take_left]
theorem app_sound (hs : Sim n ρ T env rows a w) {s : Sh} {e : TypeId} {z : Value} {bytes sLen sCap : Nat} {base : Option Addr} {da : D} {old news : List D} {ocs ncs : List Value} {k : D → Rows → Prop} {R : Result Value}
  (h : aApp rows s bytes da news k) (he : elems rows da = some old) (hk' : slen da = some sLen) (hv : LR ρ w T da (.slice base sLen sCap)) (hH : Holds rows ρ w T s old (.slice base sLen sCap) sLen base sCap ocs)
  (hnew : ∀ d ∈ news, HasSh s d) (hn : All2 (LR ρ w T) (flatL news) ncs) (hzs : z.cells.size = s.size) (hR : AppRun P w e s z base sLen sCap news.length ocs ncs R) :
  ∃ d rows' ρ' T' v w', k d rows' ∧ Sim n ρ' T' env rows' a w' ∧ Step ρ T rows w ρ' T' rows' w' ∧ VR ρ' w' T' d v ∧ R = .ok v w' := by
 obtain ⟨old', he', h⟩ := bnd_some h
 rw [he] at he'
 cases he'
 obtain ⟨N, hN, hsh, hlen, hb, hmo, hk⟩ := bnd_some h
 rw [hk'] at hN
 cases hN
 by_cases hg : sCap < sLen + news.length
 · -- it grows
  have hR' := hR.grow hg
  cases hown : (isNil da || owned da) with
  | true =>
   simp [hown] at hk
   obtain ⟨g1, g2, g3⟩ := hs.killD da
   obtain ⟨ρ', q1, q2, q3⟩ := app_grow g1 (e := e) (sCap := sCap) (k := k) hH.els hnew hlen hH.hcs hn hzs da
   rw [g3] at q3
   exact ⟨_, _, ρ', T, _, _, hk, q1, g2.trans q2, VR.ofLeaf (q3 _), hR'⟩
  | false =>
   simp [hown] at hk
   obtain ⟨hex, hk0, hk1⟩ := hk
   by_cases hm : news.length = 0
   ·exfalso
    have := hH.hcap
    omega
   ·have hk2 := hk1 (by intro e; apply hm; rw [e]; rfl)
    obtain ⟨ρ', q1, q2, q3⟩ := app_grow hs (e := e) (sCap := sCap) (k := k) hH.els hnew hlen hH.hcs hn hzs da
    exact ⟨_, _, ρ', T, _, _, hk2, q1, q2, VR.ofLeaf (q3 _), hR'⟩
 ·have hroom : sLen + news.length ≤ sCap := by omega
  have hR' := hR.room hroom
  have hncs : ncs.length = news.length * s.size := by rw [← hn.len, flatL_len_all hnew]
  cases hown : (isNil da || owned da) with
  | false =>
   simp [hown] at hk
   obtain ⟨hex, hk0, hk1⟩ := hk
   have hm : news.length = 0 := by
    cases hv with
    | raw v hv => simp [exact] at hex
    | slz => omega
    | sl _ _ _ _ _ _ _ _ _ _ c2 _ => simp [exact] at hex; have := c2 hex; omega
    | lst0 _ _ _ _ c1 _ => simp [exact] at hex; have := c1 hex; omega
    | lst _ _ _ _ _ _ _ _ _ _ _ _ c5 => simp [exact] at hex; have := c5 hex; omega
   have hnn : news = [] := List.eq_nil_of_length_eq_zero hm
   have hnc : ncs = [] := List.eq_nil_of_length_eq_zero (by rw [hncs, hm]; simp)
   subst hnn
   subst hnc
   refine ⟨da, rows, ρ, T, .slice base sLen sCap, w, hk0 rfl, hs, Step.refl _ _ _ _, VR.ofLeaf hv, ?_⟩
   rw [hR']
   cases base <;> simp [storeCells]
  | true =>
   simp [hown] at hk
   by_cases hz : sCap = 0
   · -- nothing at all
    have hm : news.length = 0 := by omega
    have hs0 : sLen = 0 := by omega
    have hnn : news = [] := List.eq_nil_of_length_eq_zero hm
    have hnc : ncs = [] := List.eq_nil_of_length_eq_zero (by rw [hncs, hm]; simp)
    subst hnn hnc hs0 hz
    obtain ⟨g1, g2, g3⟩ := hs.killD da
    obtain ⟨q1, q2⟩ := g1.ghost ⟨s, old ++ []⟩
    refine ⟨_, _, ρ, T, .slice base 0 0, w, hk, q1, g2.trans q2, VR.ofLeaf (.slz _ _ _ _ _ _), ?_⟩
    rw [hR']
    cases base <;> simp [storeCells]
   · -- a row of ours, in place
    cases hv with
    | raw v hv =>
     simp [owned] at hown
     unfold isNil at hown
     split at hown
     ·rename_i hh; cases hh; omega
     ·cases hown
    | slz => omega
    | lst0 => simp [isNil, owned] at hown
    | lst => simp [isNil, owned] at hown
    | sl _ r p off _ ex L _ hL c1 c2 c3 =>
     have hp : p = [] ∧ off = 0 := by
      cases p <;> cases off <;> simp_all [isNil, owned]
     obtain ⟨rfl, rfl⟩ := hp
     rcases c3 with ⟨_, hsL, hmp, hcap⟩ | ⟨m, hm, _⟩
     ·simp [sshape] at hsh
      subst hsh
      simp only [elems] at he
      cases hl : live rows r with
      | none => simp [hl] at he
      | some row =>
       simp [hl] at he
       have hr := hs.rowsOK.row r row L hl hL
       obtain ⟨cur, t, m1, m2, m3, m4⟩ := hr.cells hmp
       have hsrow : s = row.sh := by rw [hsL, hr.sh]
       subst hsrow
       simp only [Loc.off, Nat.zero_mul, Nat.zero_add, addr_add] at hR' hcap
       have hone : ∀ v ∈ ncs, v.oneCell' = true := by
        intro v hv
        obtain ⟨j, hj, rfl⟩ := List.mem_iff_getElem.1 hv
        exact (hn.at_ j _ _ (List.getElem?_eq_getElem (by rw [hn.len]; exact hj)) (List.getElem?_eq_getElem hj)).one
       have hfit : sLen * row.sh.size + 0 + ncs.length ≤ cur.size := by
        rw [hncs, Nat.add_zero, ← Nat.add_mul]
        exact Nat.le_trans (Nat.mul_le_mul_right _ hroom) (by omega)
       have hst := run_storeCells_row P L.b (sLen * row.sh.size) t ncs 0 cur w m1 hfit hone
       have hall : ∀ d ∈ old ++ news, HasSh row.sh d := by
        intro d hd
        rcases List.mem_append.1 hd with h | h
        ·exact hH.els d h
        ·exact hnew d h
       have hfl : (flatL (old ++ news)).length = (sLen + news.length) * row.sh.size := by rw [flatL_len_all hall, List.length_append, hlen]
       have hol : ocs.length = sLen * row.sh.size := hH.csLen
       have hoc : cur.toList.take (sLen * row.sh.size) = ocs := by
        apply List.ext_getElem?
        intro j
        rw [List.getElem?_take]
        by_cases hj : j < sLen * row.sh.size
        ·rw [if_pos hj]
         have hj' : ocs[j]? = some ocs[j] := List.getElem?_eq_getElem (by omega)
         obtain ⟨b, o', hb1, hb2⟩ := hH.at_ j _ hj'
         cases hb1
         rw [hj', ← hb2, cell_of_row w L.b _ cur t m1.choose m1.choose_spec.1]
         simp [Loc.off]
        ·rw [if_neg hj, List.getElem?_eq_none (by omega)]
       have hnewc : All2 (LR ρ w T) (flatL (old ++ news)) ((cur.toList.take (sLen * row.sh.size + 0) ++ ncs ++ cur.toList.drop (sLen * row.sh.size + 0 + ncs.length)).take (flatL (old ++ news)).length) := by
        rw [take_app _ _ _ _ (by rw [hfl, Nat.add_zero, hoc, hol, hncs, Nat.add_mul]), Nat.add_zero, hoc, flatL_append]
        exact hH.hcs.append hn
       obtain ⟨u1, u2⟩ := hs.move hl hL (old ++ news) cur (cur.toList.take (sLen * row.sh.size + 0) ++ ncs ++ cur.toList.drop (sLen * row.sh.size + 0 + ncs.length)).toArray t hmp m1
        (by simp only [List.size_toArray, List.length_append, List.length_take, List.length_drop, Array.length_toList]; omega) hall
        (by rw [hfl]; exact Nat.le_trans (Nat.mul_le_mul_right _ hroom) hcap) hnewc
       refine ⟨_, _, _, T, .slice (some ⟨L.b, 0, none⟩) (sLen + news.length) sCap, _, hk, u1, u2, ?_, ?_⟩
       ·have := LR.sl (ρ := upd ρ rows.length L) (w := w.setRow L.b (cur.toList.take (sLen * row.sh.size + 0) ++ ncs ++ cur.toList.drop (sLen * row.sh.size + 0 + ncs.length)).toArray) (T := T) row.sh rows.length [] 0 (sLen + news.length) false L sCap (by simp [upd]) hroom (by simp)
         (.inl ⟨rfl, hsL, hmp, by simpa using hcap⟩)
        simpa [Loc.off] using VR.ofLeaf this
       ·rw [hR', hst]
        simp
     ·simp [Loc.at] at hm
end Go.Am
namespace Go.Am
set_option linter.unusedVariables false
set_option linter.unusedSimpArgs false
variable {C : Ctx} {P : Program} {n : Nat} {ρ : Pl} {T : Nat → Prop} {env : Env} {rows : Rows} {a : Act} {w : World}
theorem elems_leaf {d : D} {l : List D} (h : elems rows d = some l) : d.isLeaf = true := by
 cases d <;> simp_all [elems, D.isLeaf]
 split at h <;> simp_all [Value.oneCell']
theorem ofBytes_all (b : ByteArray) : (∀ d ∈ ofBytes b, HasSh (.leaf u8s) d) ∧ All2 (LR ρ w T) (flatL (ofBytes b)) (b.data.toList.map fun x => Value.int .u8 x.toNat) := by
 unfold ofBytes
 generalize b.data.toList = l
 induction l with
 | nil => exact ⟨by simp, .nil⟩
 | cons x l ih =>
  refine ⟨fun d hd => ?_, ?_⟩
  ·simp only [List.map_cons, List.mem_cons] at hd
   rcases hd with h | h
   ·rw [h]; exact .leaf _ _ rfl
   ·exact ih.1 d h
  ·simp only [List.map_cons, flatL, D.flat, List.singleton_append]
   exact .cons (.raw _ rfl) ih.2
structure Src (ρ : Pl) (w : World) (T : Nat → Prop) (P : Program) (s : Sh) (news : List D) (v : Value) (ncs : List Value) : Prop where
 els : ∀ d ∈ news, HasSh s d
 cs : All2 (LR ρ w T) (flatL news) ncs
 len : ∀ w', (Builtin.lenOf v).run P w' = .ok news.length w'
 first : ∀ w', w'.heap = w.heap → ∀ m, m ≤ news.length → (Builtin.firstCells s.size m v).run P w' = .ok (ncs.take (m * s.size)).toArray w'
theorem src_sound (hs : Sim n ρ T env rows a w) {s : Sh} {d : D} {v : Value} {news : List D} (hv : VR ρ w T d v) (h : srcOf rows s d = some news) (hlen : ∀ k, slen d = some k → news.length = k) : ∃ ncs, Src ρ w T P s news v ncs := by
 unfold srcOf at h
 split at h
 ·rename_i b
  obtain ⟨h1, h2⟩ := bif_some h
  have hsl : s = .leaf u8s := by simpa using h1
  subst hsl; subst h2
  have := VR.ofRaw hv
  subst this
  obtain ⟨g1, g2⟩ := ofBytes_all (ρ := ρ) (w := w) (T := T) b
  refine ⟨_, g1, g2, fun w' => by simp [Builtin.lenOf, ofBytes], fun w' hw m hm => ?_⟩
  simp only [Builtin.firstCells, Sem.run_pure, Sh.size, Nat.mul_one]
  congr 1
  apply Array.ext'
  simp [ByteArray.data_extract, List.map_take, List.extract]
 ·cases hsh : sshape s d with
  | false => simp [hsh] at h
  | true =>
   simp [hsh] at h
   cases hk : slen d with
   | none =>
    cases d <;> simp [elems, slen] at h hk
    split at h <;> simp_all
   | some k =>
    obtain ⟨ad, cap, cs, hH⟩ := hs.rowsOK.holds (hv.toLR (elems_leaf h)) h hk (hlen k hk) hsh
    have hl := hlen k hk
    refine ⟨cs, hH.els, hH.hcs, fun w' => by rw [hH.hv]; simp [Builtin.lenOf, hl], fun w' hw m hm => hH.first hw m (by omega)⟩
theorem Src.csLen {s : Sh} {news : List D} {v : Value} {ncs : List Value} (h : Src ρ w T P s news v ncs) : ncs.length = news.length * s.size := by rw [← h.cs.len, flatL_len_all h.els]
theorem All2.write {α β : Type} {R : α → β → Prop} {A M B M' : List α} {cur cs : List β} {N : Nat} (h : All2 R (A ++ (M ++ B)) (cur.take N)) (hN : N = (A ++ (M ++ B)).length) (hM : All2 R M' cs) (hl : M'.length = M.length) :
  All2 R (A ++ (M' ++ B)) ((cur.take A.length ++ cs ++ cur.drop (A.length + cs.length)).take (A ++ (M' ++ B)).length) := by
 have hseg := h.seg
 have hcs : cs.length = M.length := by rw [← hM.len, hl]
 have z1 := h.take A.length
 rw [List.take_left, List.take_take] at z1
 have z2 := h.drop (A.length + M.length)
 rw [← List.drop_drop, List.drop_left, List.drop_left, List.drop_take] at z2
 have e0 : (A ++ (M' ++ B)).length = N := by rw [hN]; simp [hl]
 rw [e0]
 have : ((cur.take A.length ++ cs ++ cur.drop (A.length + cs.length)).take N) = cur.take (min A.length N) ++ (cs ++ ((cur.drop (A.length + M.length)).take (N - (A.length + M.length)))) := by
  have hNl : N = A.length + (M.length + B.length) := by rw [hN]; simp
  rw [List.append_assoc, List.take_append, List.take_append]
  simp only [List.length_take]
  have e1 : min A.length cur.length = A.length := by omega
  rw [e1, List.take_take]
  have e2 : min N A.length = min A.length N := by omega
  rw [e2]
  congr 1
  rw [hcs]
  congr 1
  ·rw [List.take_of_length_le]
   omega
  ·congr 1
   omega
 rw [this]
 exact z1.append (hM.append z2)
theorem flatL_splice {s : Sh} {l xs : List D} {off : Nat} (h : off + xs.length ≤ l.length) :
  flatL l = flatL (l.take off) ++ (flatL ((l.drop off).take xs.length) ++ flatL (l.drop (off + xs.length))) ∧ flatL (splice l off xs) = flatL (l.take off) ++ (flatL xs ++ flatL (l.drop (off + xs.length))) := by
 refine ⟨?_, by simp [splice, flatL_append]⟩
 rw [← flatL_append, ← flatL_append]
 congr 1
 have : (l.drop off).take xs.length ++ l.drop (off + xs.length) = l.drop off := by rw [← List.drop_drop, List.take_append_drop]
 rw [this, List.take_append_drop]
theorem splice_all {s : Sh} {l xs : List D} {off : Nat} (h : ∀ d ∈ l, HasSh s d) (hx : ∀ d ∈ xs, HasSh s d) : ∀ d ∈ splice l off xs, HasSh s d := by
 intro d hd
 simp only [splice, List.mem_append] at hd
 rcases hd with (h1 | h1) | h1
 ·exact h d (List.mem_of_mem_take h1)
 ·exact hx d h1
 ·exact h d (List.mem_of_mem_drop h1)
theorem splice_len {l xs : List D} {off : Nat} (h : off + xs.length ≤ l.length) : (splice l off xs).length = l.length := by
 simp [splice]; omega
theorem live_get {r : Nat} {row : Row} (h : live rows r = some row) : rows[r]? = some (some row) := by
 unfold live at h
 split at h
 ·rename_i hh; rw [hh, Option.some.inj h]
 ·cases h
theorem set_self {α : Type} {l : List α} {i : Nat} {x : α} (h : l[i]? = some x) : l.set i x = l := by
 apply List.ext_getElem?
 intro j
 rw [List.getElem?_set]
 split
 ·rename_i e; subst e
  rw [if_pos (lt_of_get h), h]
 ·rfl
theorem andThen_andThen {α β γ : Type} (r : Result α) (f : α → World → Result β) (g : β → World → Result γ) : (r.andThen f).andThen g = r.andThen fun a w => (f a w).andThen g := by
 cases r <;> rfl
section ops
variable (hs : Sim n ρ T env rows a w) (hG : Glob C ρ w T) {o : Oper} {k : D → Rows → Prop}
include hs hG

omit hs hG in
theorem goal_of {d : D} {rows' : Rows} {ρ' : Pl} {T' : Nat → Prop} {v : Value} {w' : World} (hk : k d rows') (g1 : Sim n ρ' T' env rows' a w') (g2 : Step ρ T rows w ρ' T' rows' w') (hv : VR ρ' w' T' d v) (hq : quietOp o.op = true → QH ρ rows w w' ∧ ∀ b, T' b → T b ∨ w.heap.size ≤ b) (hr : (execOp a.eval o).run P w = .ok (.value v) w') :
  OpGoal P n o ρ T env rows a w k := ⟨d, rows', ρ', T', v, w', hk, g1, g2, hv, .inl hr, hq⟩
theorem op_mks {t e : TypeId} {l c : Operand} {l' c' : X} {s : Sh} {z : D} (ho : o.op = .makeSlice t l c) (hu : P.underlying t = some (.slice e)) (hsh : sh P e = some s) (hz : zero P e = some z) (h1 : cX l = some l') (h2 : cX c = some c')
  (h : aop C env rows (.mks s (bytesT P e) z l' c') k) : OpGoal P n o ρ T env rows a w k := by
 obtain ⟨d, he, hk⟩ := bnd_some h
 split at hk
 ·rename_i kl L
  obtain ⟨d2, he2, hk2⟩ := bnd_some hk
  clear hk
  split at hk2
  ·rename_i kc Cp
   have hx := ev_raw h1 he hs hG
   have hy := ev_raw h2 he2 hs hG
   obtain ⟨b1, b2, b3, b4, hk⟩ := hk2
   obtain ⟨g1, v, g2, g3, g4⟩ := zero_spec hsh hz
   obtain ⟨i, hi, hsz⟩ := sh_info hsh
   have hby : bytesT P e = i.bytes := by simp [bytesT, hi]
   rw [hby] at b3
   rw [most_val] at b3 b4
   have w1 : IntKind.i64.wrap L = L := wrap64_id (by omega) (by omega)
   have w2 : IntKind.i64.wrap Cp = Cp := wrap64_id (by omega) (by omega)
   obtain ⟨l0, rfl⟩ := Int.eq_ofNat_of_zero_le b1
   obtain ⟨c0, rfl⟩ := Int.eq_ofNat_of_zero_le (Int.le_trans b1 b2)
   have hlc : l0 ≤ c0 := by omega
   have hall := zeros_all2 (w := w) (ρ := ρ) (T := T) g1 g3 (g4 ρ w T) c0
   have hrep : ∀ d ∈ List.replicate l0 z, HasSh s d := fun d hd => (List.eq_of_mem_replicate hd) ▸ g1
   have hfl : (flatL (List.replicate l0 z)).length = l0 * s.size := by rw [flatL_len_all hrep, List.length_replicate]
   have hfc : (flatL (List.replicate c0 z)).length = c0 * s.size := by rw [flatL_len_all (s := s) (fun d hd => (List.eq_of_mem_replicate hd) ▸ g1), List.length_replicate]
   have hpre : All2 (LR ρ w T) (flatL (List.replicate l0 z)) (((Array.range (c0 * s.size)).map (v.cells[· % v.cells.size]!)).toList.take (flatL (List.replicate l0 z)).length) := by
    have h5 := hall.take (flatL (List.replicate l0 z)).length
    rw [replicate_split z hlc, flatL_append, List.take_left] at h5
    exact h5
   obtain ⟨q1, q2⟩ := hs.pushRun ⟨s, List.replicate l0 z⟩ ((Array.range (c0 * s.size)).map (v.cells[· % v.cells.size]!)) e _ rfl hrep (by rw [hfl]; simp; exact Nat.mul_le_mul_right _ hlc) hpre
   refine goal_of (v := .slice (some ⟨w.heap.size, 0, none⟩) l0 c0) hk q1 q2 ?_ (fun _ => ⟨fun b hb => .inl (push_old hb), fun _ h => .inl h⟩) ?_
   ·have := LR.sl (ρ := upd ρ rows.length ⟨w.heap.size, s, ((Array.range (c0 * s.size)).map (v.cells[· % v.cells.size]!)).size, false⟩) (w := { w with heap := w.heap.push (.cells ((Array.range (c0 * s.size)).map (v.cells[· % v.cells.size]!)) e) }) (T := T) s rows.length [] 0 l0 (decide ((l0 : Int) = c0)) ⟨w.heap.size, s, ((Array.range (c0 * s.size)).map (v.cells[· % v.cells.size]!)).size, false⟩ c0 (by simp [upd]) hlc (by simp; omega)
     (.inl ⟨rfl, rfl, rfl, by simp⟩)
    simpa [Loc.off] using VR.ofLeaf this
   ·have n1 : ¬ ((c0 : Int) < 0) := by omega
    have n2 : ¬ ((281474976710656 : Int) < (i.bytes : Int) * (c0 : Int)) := by rw [Int.mul_comm]; omega
    have n3 : ¬ (c0 < l0) := by omega
    have n4 : ¬ ((l0 : Int) < 0) := by omega
    simp only [execOp, ho, Instr.makeSlice, hx, hy, Sem.run_bind, run_underlying hu, Result.andThen_ok, asInt, asIntOf, Sem.run_pure, typeInfo, run_program, hi, w1, w2]
    by_cases h0 : c0 * s.size = 0
    ·have e0 : ∀ f g : Nat → Value, (Array.range 0).map f = (Array.range 0).map g := fun f g => by simp
     simp [n1, n2, n3, n4, sizeOf, typeInfo, hi, hsz, h0, newRow]
     rw [e0]
    ·simp [n1, n2, n3, n4, sizeOf, typeInfo, hi, hsz, h0, newRow, g2]
  ·exact hk2.elim
 ·exact hk.elim

omit hs hG in
theorem app_args {c : Call} {x y : Operand} (hc : c.args.toList = [x, y]) {t u : TypeId} (ht : c.argTypes.toList = [t, u]) :
  c.argTypes[0]? = some t ∧ c.argTypes[1]? = some u ∧ (c.args.map a.eval)[0]? = some (a.eval x) ∧ (c.args.map a.eval)[1]? = some (a.eval y) := by
 have h1 : c.argTypes = #[t, u] := by apply Array.ext'; simpa using ht
 have h2 : c.args = #[x, y] := by apply Array.ext'; simpa using hc
 rw [h1, h2]
 simp
theorem op_append {c : Call} {x y : Operand} {x' y' : X} {t u e : TypeId} {s : Sh} {z : D} (ho : o.op = .call c) (hc : c.callee = .builtin .append) (hargs : c.args.toList = [x, y]) (htypes : c.argTypes.toList = [t, u]) (hu : P.underlying t = some (.slice e))
  (hu1 : (∃ e', P.underlying u = some (.slice e')) ∨ P.underlying u = some .string) (hsh : sh P e = some s) (hz : zero P e = some z) (h1 : cX x = some x') (h2 : cX y = some y')
  (h : aop C env rows (.append s (bytesT P e) x' y') k) : OpGoal P n o ρ T env rows a w k := by
 obtain ⟨da, he, k1⟩ := bnd_some h
 obtain ⟨db, he2, k2⟩ := bnd_some k1
 obtain ⟨news, hn, hk⟩ := bnd_some k2
 clear k1 k2
 obtain ⟨hlb, hk⟩ := hk
 have hva := ev_sound h1 he hs hG
 have hvb := ev_sound h2 he2 hs hG
 obtain ⟨ncs, hsrc⟩ := src_sound (P := P) hs hvb hn hlb
 obtain ⟨old, hold, k1⟩ := bnd_some hk
 obtain ⟨N, hN, k2⟩ := bnd_some k1
 obtain ⟨hss, hlen, hb, hmo, _⟩ := k2
 have hlr := hva.toLR (elems_leaf hold)
 obtain ⟨ad, cap, ocs, hH⟩ := hs.rowsOK.holds hlr hold hN hlen hss
 obtain ⟨g1, v, g2, g3, g4⟩ := zero_spec hsh hz
 obtain ⟨i, hi, hsz⟩ := sh_info hsh
 have hby : bytesT P e = i.bytes := by simp [bytesT, hi]
 obtain ⟨a0, a1, a2, a3⟩ := app_args (a := a) hargs htypes
 rw [hH.hv] at a2 hlr
 have hH' := hH
 rw [hH.hv] at hH'
 have hR : AppRun P w e s v ad N cap news.length ocs ncs ((Builtin.append_ c.argTypes o.type (c.args.map a.eval)).run P w) := by
  refine ⟨fun hroom => ?_, fun hg => ?_⟩
  ·have hf := hsrc.first w rfl news.length (Nat.le_refl _)
   rw [← hsrc.csLen, List.take_length] at hf
   exact run_append_room' a0 a1 a2 a3 hu hu1 hsh (hsrc.len w) hf hroom
  ·have hf := hsrc.first w.drew rfl news.length (Nat.le_refl _)
   rw [← hsrc.csLen, List.take_length] at hf
   have hfo := hH'.first (P := P) (w' := w.drew) rfl N (Nat.le_refl _)
   rw [← hH'.csLen, List.take_length] at hfo
   exact run_append_grow' a0 a1 a2 a3 hu hu1 hsh hi g2 (hsrc.len w) hf hfo hg (by rw [← hby]; exact hb) hmo
 obtain ⟨d, rows', ρ', T', v', w', m1, m2, m3, m4, m5⟩ := app_sound hs hk hold hN hlr hH' hsrc.els hsrc.cs g3 hR
 refine goal_of m1 m2 m3 m4 (fun hq => by rw [ho] at hq; simp [quietOp, hc] at hq) ?_
 rw [exec_builtin ho hc]
 simp [builtin, m5]
theorem op_appendz {c : Call} {x y : Operand} {x' y' : X} {t u e : TypeId} {s : Sh} {z : D} {kd : IntKind} (ho : o.op = .call c) (hc : c.callee = .builtin .append) (hargs : c.args.toList = [x, y]) (htypes : c.argTypes.toList = [t, u]) (hu : P.underlying t = some (.slice e))
  (hu1 : P.underlying u = some (.int kd)) (hsh : sh P e = some s) (hz : zero P e = some z) (hsz0 : s.size ≠ 0) (h1 : cX x = some x') (h2 : cX y = some y')
  (h : aop C env rows (.appendz s (bytesT P e) z x' y') k) : OpGoal P n o ρ T env rows a w k := by
 obtain ⟨da, he, k1⟩ := bnd_some h
 obtain ⟨db, he2, k2⟩ := bnd_some k1
 clear k1
 split at k2
 ·rename_i kd' M
  obtain ⟨hM, hk⟩ := k2
  have hva := ev_sound h1 he hs hG
  have hy := ev_raw h2 he2 hs hG
  obtain ⟨m, rfl⟩ := Int.eq_ofNat_of_zero_le hM
  simp only [Int.ofNat_eq_natCast, Int.toNat_natCast] at hk hy
  obtain ⟨old, hold, k1⟩ := bnd_some hk
  obtain ⟨N, hN, k2⟩ := bnd_some k1
  obtain ⟨hss, hlen, hb, hmo, _⟩ := k2
  have hlr := hva.toLR (elems_leaf hold)
  obtain ⟨ad, cap, ocs, hH⟩ := hs.rowsOK.holds hlr hold hN hlen hss
  obtain ⟨g1, v, g2, g3, g4⟩ := zero_spec hsh hz
  obtain ⟨i, hi, hsz⟩ := sh_info hsh
  have hby : bytesT P e = i.bytes := by simp [bytesT, hi]
  obtain ⟨a0, a1, a2, a3⟩ := app_args (a := a) hargs htypes
  rw [hH.hv] at a2 hlr
  rw [hy] at a3
  have hH' := hH
  rw [hH.hv] at hH'
  simp only [List.length_replicate] at hb hmo
  rw [hby] at hb
  have hR : AppRun P w e s v ad N cap (List.replicate m z).length ocs (Builtin.zeroCells v.cells m).toList ((Builtin.append_ c.argTypes o.type (c.args.map a.eval)).run P w) := by
   refine ⟨fun hroom => ?_, fun hg => ?_⟩
   ·simp only [List.length_replicate] at hroom ⊢
    exact run_appendz_room a0 a1 a2 a3 hu hu1 hsh hi g2 hroom hb hmo g3 hsz0
   ·simp only [List.length_replicate] at hg ⊢
    have hfo := hH'.first (P := P) (w' := w.drew) rfl N (Nat.le_refl _)
    rw [← hH'.csLen, List.take_length] at hfo
    have := run_appendz_grow (ty := o.type) a0 a1 a2 a3 hu hu1 hsh hi g2 hfo hg hb hmo g3 hsz0 (by have := hH'.hcap; omega)
    simpa using this
  have hzall := zeros_all2 (w := w) (ρ := ρ) (T := T) g1 g3 (g4 ρ w T) m
  have hze : (Builtin.zeroCells v.cells m).toList = ((Array.range (m * s.size)).map (v.cells[· % v.cells.size]!)).toList := by simp [Builtin.zeroCells, g3]
  obtain ⟨d, rows', ρ', T', v', w', m1, m2, m3, m4, m5⟩ := app_sound hs hk hold hN hlr hH' (fun d hd => (List.eq_of_mem_replicate hd) ▸ g1) (by rw [hze]; exact hzall) g3 hR
  refine goal_of m1 m2 m3 m4 (fun hq => by rw [ho] at hq; simp [quietOp, hc] at hq) ?_
  rw [exec_builtin ho hc]
  simp [builtin, m5]
 ·exact k2.elim

omit hs hG in
theorem copy_args {c : Call} {x y : Operand} (hc : c.args.toList = [x, y]) {t u : TypeId} (ht : c.argTypes.toList = [t, u]) :
  c.argTypes[0]? = some t ∧ (c.args.map a.eval)[0]? = some (a.eval x) ∧ (c.args.map a.eval)[1]? = some (a.eval y) := by
 obtain ⟨h1, _, h2, h3⟩ := app_args (a := a) hc ht
 exact ⟨h1, h2, h3⟩
theorem op_copy {c : Call} {x y : Operand} {x' y' : X} {t u e : TypeId} {s : Sh} (ho : o.op = .call c) (hc : c.callee = .builtin .copy) (hargs : c.args.toList = [x, y]) (htypes : c.argTypes.toList = [t, u]) (hu : P.underlying t = some (.slice e))
  (hsh : sh P e = some s) (h1 : cX x = some x') (h2 : cX y = some y')
  (h : aop C env rows (.copy s x' y') k) : OpGoal P n o ρ T env rows a w k := by
 obtain ⟨da, he, k1⟩ := bnd_some h
 obtain ⟨db, he2, k2⟩ := bnd_some k1
 obtain ⟨src, hn, hlb, hk⟩ := bnd_some k2
 clear k1 k2
 have hva := ev_sound h1 he hs hG
 have hvb := ev_sound h2 he2 hs hG
 obtain ⟨ncs, hsrc⟩ := src_sound (P := P) hs hvb hn hlb
 obtain ⟨a0, a2, a3⟩ := copy_args (a := a) hargs htypes
 have hrun : ∀ (ad : Option Addr) (len cap : Nat), a.eval x = .slice ad len cap → (execOp a.eval o).run P w =
   ((match ad with
    | some q => (storeCells q (ncs.take (min src.length len * s.size))).run P w
    | none => .ok () w).andThen fun _ w' => .ok (.value (.int .i64 (min src.length len : Nat))) w') := by
  intro ad len cap hx
  have hf := hsrc.first w rfl (min src.length len) (Nat.min_le_left _ _)
  rw [hx] at a2
  rw [exec_builtin ho hc]
  have hmin : Nat.min src.length len = min src.length len := rfl
  cases ad <;> simp [builtin, Builtin.copy_, a0, a2, a3, run_underlying hu, hsrc.len, run_sizeOf hsh, hmin, hf, goInt, andThen_andThen]
 unfold aCopy at hk
 split at hk
 ·have hx := ev_raw h1 he hs hG
  refine .here hs hk (VR.raw rfl) ?_
  rw [hrun _ _ _ hx]
  simp
 ·rename_i t' r off len ex
  obtain ⟨rfl, k1⟩ := hk
  obtain ⟨row, hl, hle, hk⟩ := bnd_some k1
  clear k1
  have hlr : LR ρ w T _ _ := hva
  generalize hx : a.eval x = v at hlr
  cases hlr with
  | slz _ _ _ _ _ ad =>
   have e1 : splice row.els off (src.take (min src.length 0)) = row.els := by simp [splice]
   rw [e1] at hk
   have e2 : rows.set r (some ⟨row.sh, row.els⟩) = rows := set_self (live_get hl)
   rw [e2] at hk
   refine .here hs hk (VR.raw rfl) ?_
   rw [hrun _ _ _ hx]
   cases ad <;> simp [storeCells]
  | sl _ _ _ _ _ _ L cap hL c1 c2 c3 =>
   have hr := hs.rowsOK.row r row L hl hL
   have hmp := LR.slCell c3
   obtain ⟨cur, t2, m1, m2, m3, m4⟩ := hr.cells hmp
   have hsr : t' = row.sh := by
    rcases c3 with ⟨_, c3, _⟩ | ⟨m, c3, _⟩
    ·rw [c3, hr.sh]
    ·simp [Loc.at] at c3
   subst hsr
   have hNl : (src.take (min src.length len)).length = min src.length len := by rw [List.length_take]; omega
   have hxs : ∀ d ∈ src.take (min src.length len), HasSh row.sh d := fun d hd => hsrc.els d (List.mem_of_mem_take hd)
   have hfit : off + (src.take (min src.length len)).length ≤ row.els.length := by omega
   obtain ⟨f1, f2⟩ := flatL_splice (s := row.sh) hfit
   have hM : All2 (LR ρ w T) (flatL (src.take (min src.length len))) (ncs.take (min src.length len * row.sh.size)) := by
    have h5 := hsrc.cs.take (min src.length len * row.sh.size)
    have h6 : flatL src = flatL (src.take (min src.length len)) ++ flatL (src.drop (min src.length len)) := by rw [← flatL_append, List.take_append_drop]
    have h7 : (flatL (src.take (min src.length len))).length = min src.length len * row.sh.size := by rw [flatL_len_all hxs, hNl]
    rw [h6, ← h7, List.take_left, h7] at h5
    exact h5
   have hA : (flatL (row.els.take off)).length = off * row.sh.size := by
    rw [flatL_len_all (fun d hd => hr.els d (List.mem_of_mem_take hd)), List.length_take]
    congr 1
    omega
   have hmid : (flatL (src.take (min src.length len))).length = (flatL ((row.els.drop off).take (src.take (min src.length len)).length)).length := by
    rw [flatL_len_all hxs, flatL_len_all (fun d hd => hr.els d (List.mem_of_mem_drop (List.mem_of_mem_take hd)))]
    congr 1
    simp only [List.length_take, List.length_drop]
    omega
   have m5 := m4
   rw [f1] at m5
   have hseg := m5.seg
   have hw := m5.write rfl hM hmid
   rw [← f2, hA] at hw
   have hcl := hM.len
   have hone : ∀ v ∈ ncs.take (min src.length len * row.sh.size), v.oneCell' = true := by
    intro v hv
    obtain ⟨j, hj, rfl⟩ := List.mem_iff_getElem.1 hv
    exact (hM.at_ j _ _ (List.getElem?_eq_getElem (by omega)) (List.getElem?_eq_getElem hj)).one
   have hfits : off * row.sh.size + 0 + (ncs.take (min src.length len * row.sh.size)).length ≤ cur.size := by
    have := hseg.2
    rw [hA, ← hmid, hcl] at this
    simpa using this
   have hst := run_storeCells_row P L.b (off * row.sh.size) t2 _ 0 cur w m1 hfits hone
   have hlen2 : (flatL (splice row.els off (src.take (min src.length len)))).length = (flatL row.els).length := by
    rw [flatL_len_all (splice_all (s := row.sh) hr.els hxs), splice_len hfit, flatL_len_all hr.els]
   obtain ⟨u1, u2⟩ := hs.write hl hL _ cur (cur.toList.take (off * row.sh.size + 0) ++ ncs.take (min src.length len * row.sh.size) ++ cur.toList.drop (off * row.sh.size + 0 + (ncs.take (min src.length len * row.sh.size)).length)).toArray t2 hmp m1
    (by simp only [List.size_toArray, List.length_append, List.length_drop, Array.length_toList]; simp only [List.length_take, Array.length_toList] at hfits ⊢; omega)
    (splice_all hr.els hxs) (by rw [hlen2]; exact m3) hw
   refine goal_of hk u1 u2 (VR.raw rfl) (fun hq => by rw [ho] at hq; simp [quietOp, hc] at hq) ?_
   rw [hrun _ _ _ hx]
   simp only [Loc.off, Nat.zero_add, hst, Result.andThen_ok]
 ·rename_i t' r i p off len ex
  obtain ⟨rfl, k1⟩ := hk
  obtain ⟨row, hl, k2⟩ := bnd_some k1
  obtain ⟨d2, hg, k3⟩ := bnd_some k2
  clear k1 k2
  split at k3
  ·rename_i q ul
   obtain ⟨hle, k4⟩ := k3
   obtain ⟨els, hset, hk⟩ := bnd_some k4
   clear k4
   have hlr : LR ρ w T _ _ := hva
   generalize hx : a.eval x = v at hlr
   cases hlr with
   | slz _ _ _ _ _ ad =>
    have e1 : splice ul off (src.take (min src.length 0)) = ul := by simp [splice]
    rw [e1] at hset
    have e3 : ∀ (p : List Nat) (d x : D), d.get p = some x → d.set p x = some d := by
     intro p
     induction p with
     | nil => intro d x h; simp [D.get] at h; subst h; simp [D.set]
     | cons j p ih =>
      intro d x h
      cases d with
      | agg s l =>
       simp only [D.get] at h
       simp only [D.set]
       cases hj : l[j]? with
       | none => simp [hj] at h
       | some y =>
        simp only [hj] at h ⊢
        rw [ih y x h]
        simp only
        rw [set_self hj]
      | _ => simp [D.get] at h
    have e4 : els = row.els := by
     simp only [rowGet] at hg
     simp only [rowSet] at hset
     cases hj : row.els[i]? with
     | none => simp [hj] at hg
     | some y =>
      simp only [hj] at hg hset
      rw [e3 p y _ hg] at hset
      simp at hset
      rw [set_self hj] at hset
      exact hset.symm
    rw [e4] at hk
    have e2 : rows.set r (some ⟨row.sh, row.els⟩) = rows := set_self (live_get hl)
    rw [e2] at hk
    refine .here hs hk (VR.raw rfl) ?_
    rw [hrun _ _ _ hx]
    cases ad <;> simp [storeCells]
   | sl _ _ _ _ _ _ L cap hL c1 c2 c3 =>
    have hr := hs.rowsOK.row r row L hl hL
    have hmp := LR.slCell c3
    obtain ⟨cur, t2, m1, m2, m3, m4⟩ := hr.cells hmp
    rcases c3 with ⟨c3, _⟩ | ⟨m, c3, c4⟩
    ·simp at c3
    ·rw [Loc.at_cons hmp, hr.sh] at c3
     obtain ⟨g5, g6, pre, post, g7, g8⟩ := rowGet_spec hr.els c3 hg
     obtain ⟨rfl, _⟩ := agg_sh g5
     obtain ⟨l', hl', hlen, hsub⟩ := g5.aggOf rfl
     cases hl'
     simp [Sh.count] at hlen
     have hall : ∀ d ∈ ul, HasSh t' d := by
      intro d hd
      obtain ⟨q, hq, rfl⟩ := List.mem_iff_getElem.1 hd
      exact hsub q t' _ (by simp [Sh.sub]; omega) (List.getElem?_eq_getElem hq)
     have hNl : (src.take (min src.length len)).length = min src.length len := by rw [List.length_take]; omega
     have hxs : ∀ d ∈ src.take (min src.length len), HasSh t' d := fun d hd => hsrc.els d (List.mem_of_mem_take hd)
     have hfit : off + (src.take (min src.length len)).length ≤ ul.length := by omega
     obtain ⟨f1, f2⟩ := flatL_splice (s := t') hfit
     have hnew : HasSh (.ar m t') (.agg (.ar m t') (splice ul off (src.take (min src.length len)))) := by
      refine .agg _ _ rfl (by rw [splice_len hfit]; simpa [Sh.count] using hlen) fun j e' d' hj hd' => ?_
      simp only [Sh.sub] at hj
      split at hj
      ·cases hj; exact splice_all hall hxs d' (mem_of_get hd')
      ·cases hj
     obtain ⟨z1, z2, z3, pre2, old, post2, z4, z5, z6, z7⟩ := rowSet_spec hr.els c3 hnew hset
     have hM : All2 (LR ρ w T) (flatL (src.take (min src.length len))) (ncs.take (min src.length len * t'.size)) := by
      have h5 := hsrc.cs.take (min src.length len * t'.size)
      have h6 : flatL src = flatL (src.take (min src.length len)) ++ flatL (src.drop (min src.length len)) := by rw [← flatL_append, List.take_append_drop]
      have h7 : (flatL (src.take (min src.length len))).length = min src.length len * t'.size := by rw [flatL_len_all hxs, hNl]
      rw [h6, ← h7, List.take_left, h7] at h5
      exact h5
     have hA : (flatL (ul.take off)).length = off * t'.size := by
      rw [flatL_len_all (fun d hd => hall d (List.mem_of_mem_take hd)), List.length_take]
      congr 1
      omega
     have hmid : (flatL (src.take (min src.length len))).length = (flatL ((ul.drop off).take (src.take (min src.length len)).length)).length := by
      rw [flatL_len_all hxs, flatL_len_all (fun d hd => hall d (List.mem_of_mem_drop (List.mem_of_mem_take hd)))]
      congr 1
      simp only [List.length_take, List.length_drop]
      omega
     -- the two ways to part the row are one
     have hpp : pre = pre2 := by
      have e1 : (flatL row.els).take pre.length = pre := by rw [g7, List.take_left]
      have e2 : (flatL row.els).take pre2.length = pre2 := by rw [z4, List.take_left]
      have e3 : pre.length = pre2.length := by rw [g8, z6]
      rw [← e1, ← e2, e3]
     subst hpp
     have hoo : old = (D.agg (.ar m t') ul).flat ∧ post = post2 := by
      have e1 := g7.symm.trans z4
      have e2 := List.append_cancel_left e1
      have e3 : old.length = (D.agg (.ar m t') ul).flat.length := by rw [z7, hnew.len, g5.len]
      have e4 : (D.agg (.ar m t') ul).flat ++ post = old ++ post2 := e2
      have := List.append_inj e4 e3.symm
      exact ⟨this.1.symm, this.2⟩
     obtain ⟨rfl, rfl⟩ := hoo
     have m5 := m4
     rw [g7] at m5
     simp only [D.flat] at m5 z5
     rw [f1] at m5
     have e1 : pre ++ ((flatL (ul.take off) ++ (flatL ((ul.drop off).take (src.take (min src.length len)).length) ++ flatL (ul.drop (off + (src.take (min src.length len)).length)))) ++ post) =
       (pre ++ flatL (ul.take off)) ++ (flatL ((ul.drop off).take (src.take (min src.length len)).length) ++ (flatL (ul.drop (off + (src.take (min src.length len)).length)) ++ post)) := by simp
     rw [e1] at m5
     have hseg := m5.seg
     have hw := m5.write rfl hM hmid
     have e2 : (pre ++ flatL (ul.take off)) ++ (flatL (src.take (min src.length len)) ++ (flatL (ul.drop (off + (src.take (min src.length len)).length)) ++ post)) = flatL els := by
      rw [z5, f2]; simp
     rw [e2] at hw
     have hAA : (pre ++ flatL (ul.take off)).length = L.off (i :: p) + off * t'.size := by
      rw [List.length_append, hA, g8]
      simp [Loc.off, hr.sh]
     rw [hAA] at hw
     have hcl := hM.len
     have hone : ∀ v ∈ ncs.take (min src.length len * t'.size), v.oneCell' = true := by
      intro v hv
      obtain ⟨j, hj, rfl⟩ := List.mem_iff_getElem.1 hv
      exact (hM.at_ j _ _ (List.getElem?_eq_getElem (by omega)) (List.getElem?_eq_getElem hj)).one
     have hfits : L.off (i :: p) + off * t'.size + 0 + (ncs.take (min src.length len * t'.size)).length ≤ cur.size := by
      have := hseg.2
      rw [hAA, ← hmid, hcl] at this
      simpa using this
     have hst := run_storeCells_row P L.b (L.off (i :: p) + off * t'.size) t2 _ 0 cur w m1 hfits hone
     have hlen2 : (flatL els).length = (flatL row.els).length := by
      rw [flatL_len_all z1, z2, flatL_len_all hr.els]
     obtain ⟨u1, u2⟩ := hs.write hl hL els cur (cur.toList.take (L.off (i :: p) + off * t'.size + 0) ++ ncs.take (min src.length len * t'.size) ++ cur.toList.drop (L.off (i :: p) + off * t'.size + 0 + (ncs.take (min src.length len * t'.size)).length)).toArray t2 hmp m1
      (by simp only [List.size_toArray, List.length_append, List.length_drop, Array.length_toList]; simp only [List.length_take, Array.length_toList] at hfits ⊢; omega)
      z1 (by rw [hlen2]; exact m3) hw
     refine goal_of hk u1 u2 (VR.raw rfl) (fun hq => by rw [ho] at hq; simp [quietOp, hc] at hq) ?_
     rw [hrun _ _ _ hx]
     simp only [hst, Result.andThen_ok]
  ·exact k3.elim
 ·exact hk.elim
end ops
end Go.Am
