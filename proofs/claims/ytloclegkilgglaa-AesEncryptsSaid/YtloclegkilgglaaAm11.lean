/- make, append, copy. -/
import Derived.Test.YtloclegkilgglaaAm10
namespace Go.Am
set_option linter.unusedVariables false
set_option linter.unusedSimpArgs false

variable {C : Ctx} {P : Program} {n : Nat} {ρ : Pl} {T : Nat → Prop} {env : Env} {rows : Rows} {a : Act} {w : World}

theorem wrap64_id {x : Int} (h1 : -9223372036854775808 ≤ x) (h2 : x ≤ 9223372036854775807) : IntKind.i64.wrap x = x := by
  have e1 : (2 : Int) ^ IntKind.i64.bits = 18446744073709551616 := by decide
  have e2 : (2 : Int) ^ (IntKind.i64.bits - 1) = 9223372036854775808 := by decide
  simp only [IntKind.wrap, e1, e2, IntKind.signed, Bool.true_and]
  by_cases h : 0 ≤ x
  · rw [Int.emod_eq_of_lt h (by omega)]
    rw [if_neg (by simp; omega)]
  · have : x % 18446744073709551616 = x + 18446744073709551616 := by omega
    rw [this, if_pos (by simp; omega)]
    omega

theorem most_val : most = 1099511627776 := rfl

theorem run_most {i : TypeInfo} {N : Nat} (h : N * i.bytes ≤ most) {cap : Nat} (hc : cap < N) : Builtin.nextslicecap N cap * i.bytes ≤ 281474976710656 :=
  growslice_fits hc (by rw [most_val] at h; omega)

theorem replicate_split {α : Type} (z : α) {l c : Nat} (h : l ≤ c) : List.replicate c z = List.replicate l z ++ List.replicate (c - l) z := by
  rw [List.replicate_append_replicate]
  congr 1
  omega

/-- appending, where there is room -/
theorem run_append_room' {argTypes : Array TypeId} {ty t u e : TypeId} {args : Array Value} {base : Option Addr} {sLen sCap m : Nat} {x : Value} {s : Sh} {ncs : List Value}
    (h0 : argTypes[0]? = some t) (h1 : argTypes[1]? = some u) (a0 : args[0]? = some (.slice base sLen sCap)) (a1 : args[1]? = some x) (hu : P.underlying t = some (.slice e)) (hu1 : (∃ e', P.underlying u = some (.slice e')) ∨ P.underlying u = some .string) (hsh : sh P e = some s) (hlen : (Builtin.lenOf x).run P w = .ok m w) (hf : (Builtin.firstCells s.size m x).run P w = .ok ncs.toArray w) (hroom : sLen + m ≤ sCap) :
    (Builtin.append_ argTypes ty args).run P w = match base with
      | some ad => ((storeCells (ad.add (sLen * s.size)) ncs).run P w).andThen fun _ w' => .ok (.slice base (sLen + m) sCap) w'
      | none => .ok (.slice base (sLen + m) sCap) w := by
  rcases hu1 with ⟨e', hu1⟩ | hu1 <;> cases base <;> simp [Builtin.append_, h0, h1, a0, a1, run_underlying hu, run_underlying hu1, run_sizeOf hsh, hlen, hroom, hf]

theorem run_append_grow' {argTypes : Array TypeId} {ty t u e : TypeId} {args : Array Value} {base : Option Addr} {sLen sCap m : Nat} {x z : Value} {s : Sh} {i : TypeInfo} {ncs ocs : List Value}
    (h0 : argTypes[0]? = some t) (h1 : argTypes[1]? = some u) (a0 : args[0]? = some (.slice base sLen sCap)) (a1 : args[1]? = some x) (hu : P.underlying t = some (.slice e)) (hu1 : (∃ e', P.underlying u = some (.slice e')) ∨ P.underlying u = some .string) (hsh : sh P e = some s) (hi : P.info? e = some i) (hz : ∀ w, (zeroValue e).run P w = .ok z w)
    (hlen : (Builtin.lenOf x).run P w = .ok m w) (hf : (Builtin.firstCells s.size m x).run P w.drew = .ok ncs.toArray w.drew) (ho : (Builtin.firstCells s.size sLen (.slice base sLen sCap)).run P w.drew = .ok ocs.toArray w.drew)
    (hg : sCap < sLen + m) (hb : (sLen + m) * i.bytes ≤ most) (hmost : sLen + m ≤ most) :
    (Builtin.append_ argTypes ty args).run P w = .ok (.slice (some ⟨w.heap.size, 0, none⟩) (sLen + m) (grownCap w (sLen + m) sCap e))
      (w.drew.alloc (.cells (ocs.toArray ++ ncs.toArray ++ Builtin.zeroCells z.cells (grownCap w (sLen + m) sCap e - (sLen + m))) e)) := by
  have hn : ¬ (sLen + m ≤ sCap) := by omega
  have h48 : ¬ (281474976710656 < Builtin.nextslicecap (sLen + m) sCap * i.bytes) := by have := run_most hb hg; omega
  have h63 : ¬ ((9223372036854775807 : Int) < (sLen : Int) + (m : Int)) := by
    rw [most_val] at hmost
    omega
  rcases hu1 with ⟨e', hu1⟩ | hu1 <;> simp [Builtin.append_, h0, h1, a0, a1, run_underlying hu, run_underlying hu1, run_sizeOf hsh, typeInfo, hi, hlen, hn, h48, h63, Question.forced, hf, ho, hz, newRow, grownCap] <;> (congr 2; apply Array.ext'; simp)

/-- appending noughts -/
theorem run_appendz_room {argTypes : Array TypeId} {ty t u e : TypeId} {kd kd' : IntKind} {args : Array Value} {base : Option Addr} {sLen sCap m : Nat} {z : Value} {s : Sh} {i : TypeInfo}
    (h0 : argTypes[0]? = some t) (h1 : argTypes[1]? = some u) (a0 : args[0]? = some (.slice base sLen sCap)) (a1 : args[1]? = some (.int kd' m)) (hu : P.underlying t = some (.slice e)) (hu1 : P.underlying u = some (.int kd))
    (hsh : sh P e = some s) (hi : P.info? e = some i) (hz : ∀ w, (zeroValue e).run P w = .ok z w) (hroom : sLen + m ≤ sCap) (hb : (sLen + m) * i.bytes ≤ most) (hmost : sLen + m ≤ most) (hzs : z.cells.size = s.size) (hsz : s.size ≠ 0) :
    (Builtin.append_ argTypes ty args).run P w = match base with
      | some ad => ((storeCells (ad.add (sLen * s.size)) (Builtin.zeroCells z.cells m).toList).run P w).andThen fun _ w' => .ok (.slice base (sLen + m) sCap) w'
      | none => .ok (.slice base (sLen + m) sCap) w := by
  have hw : IntKind.i64.wrap (m : Int) = m := wrap64_id (by omega) (by rw [most_val] at hmost; omega)
  have hneg : ¬ ((m : Int) < 0) := by omega
  have h48 : ¬ ((281474976710656 : Int) < (m : Int) * (i.bytes : Int)) := by
    have h2 : m * i.bytes ≤ most := Nat.le_trans (Nat.mul_le_mul_right _ (by omega)) hb
    rw [most_val] at h2
    have h3 : ((m * i.bytes : Nat) : Int) = (m : Int) * (i.bytes : Int) := by simp
    omega
  by_cases hm : m = 0
  · subst hm
    have hw0 : IntKind.i64.wrap (0 : Int) = 0 := by decide
    cases base <;> simp [Builtin.append_, h0, h1, a0, a1, run_underlying hu, run_underlying hu1, run_sizeOf hsh, asInt, asIntOf, typeInfo, hi, hw0, Builtin.zeroCells, storeCells, show sLen ≤ sCap by omega]
  · have hms : m * s.size ≠ 0 := Nat.mul_ne_zero hm hsz
    cases base <;> simp [Builtin.append_, h0, h1, a0, a1, run_underlying hu, run_underlying hu1, run_sizeOf hsh, asInt, asIntOf, hw, hneg, typeInfo, hi, h48, hroom, hms, hz]

theorem run_appendz_grow {argTypes : Array TypeId} {ty t u e : TypeId} {kd kd' : IntKind} {args : Array Value} {base : Option Addr} {sLen sCap m : Nat} {z : Value} {s : Sh} {i : TypeInfo} {ocs : List Value}
    (h0 : argTypes[0]? = some t) (h1 : argTypes[1]? = some u) (a0 : args[0]? = some (.slice base sLen sCap)) (a1 : args[1]? = some (.int kd' m)) (hu : P.underlying t = some (.slice e)) (hu1 : P.underlying u = some (.int kd))
    (hsh : sh P e = some s) (hi : P.info? e = some i) (hz : ∀ w, (zeroValue e).run P w = .ok z w) (ho : (Builtin.firstCells s.size sLen (.slice base sLen sCap)).run P w.drew = .ok ocs.toArray w.drew)
    (hg : sCap < sLen + m) (hb : (sLen + m) * i.bytes ≤ most) (hmost : sLen + m ≤ most) (hzs : z.cells.size = s.size) (hsz : s.size ≠ 0) (hm : m ≠ 0) :
    (Builtin.append_ argTypes ty args).run P w = .ok (.slice (some ⟨w.heap.size, 0, none⟩) (sLen + m) (grownCap w (sLen + m) sCap e))
      (w.drew.alloc (.cells (ocs.toArray ++ Builtin.zeroCells z.cells m ++ Builtin.zeroCells z.cells (grownCap w (sLen + m) sCap e - (sLen + m))) e)) := by
  have hw : IntKind.i64.wrap (m : Int) = m := wrap64_id (by omega) (by rw [most_val] at hmost; omega)
  have hneg : ¬ ((m : Int) < 0) := by omega
  have h48 : ¬ ((281474976710656 : Int) < (m : Int) * (i.bytes : Int)) := by
    have h2 : m * i.bytes ≤ most := Nat.le_trans (Nat.mul_le_mul_right _ (by omega)) hb
    rw [most_val] at h2
    have h3 : ((m * i.bytes : Nat) : Int) = (m : Int) * (i.bytes : Int) := by simp
    omega
  have hn : ¬ (sLen + m ≤ sCap) := by omega
  have h48' : ¬ (281474976710656 < Builtin.nextslicecap (sLen + m) sCap * i.bytes) := by have := run_most hb hg; omega
  have h63 : ¬ ((9223372036854775807 : Int) < (sLen : Int) + (m : Int)) := by
    rw [most_val] at hmost
    omega
  have hms : m * s.size ≠ 0 := Nat.mul_ne_zero hm hsz
  simp [Builtin.append_, h0, h1, a0, a1, run_underlying hu, run_underlying hu1, run_sizeOf hsh, asInt, asIntOf, hw, hneg, typeInfo, hi, h48, hn, h48', h63, hms, hz, Question.forced, ho, newRow, grownCap]

/-- what is appended, and what became of it -/
structure AppRun (P : Program) (w : World) (e : TypeId) (s : Sh) (z : Value) (base : Option Addr) (sLen sCap m : Nat) (ocs ncs : List Value) (R : Result Value) : Prop where
  room : sLen + m ≤ sCap → R = match base with
      | some ad => ((storeCells (ad.add (sLen * s.size)) ncs).run P w).andThen fun _ w' => .ok (.slice base (sLen + m) sCap) w'
      | none => .ok (.slice base (sLen + m) sCap) w
  grow : sCap < sLen + m → R = .ok (.slice (some ⟨w.heap.size, 0, none⟩) (sLen + m) (grownCap w (sLen + m) sCap e))
      (w.drew.alloc (.cells (ocs.toArray ++ ncs.toArray ++ Builtin.zeroCells z.cells (grownCap w (sLen + m) sCap e - (sLen + m))) e))

/-- a row that lies nowhere: it is empty -/
theorem Sim.ghost {n : Nat} (h : Sim n ρ T env rows a w) (row : Row) : Sim n ρ T env (rows ++ [some row]) a w ∧ Step ρ T rows w ρ T (rows ++ [some row]) w := by
  have hk : ∀ r row' L, live (rows ++ [some row]) r = some row' → ρ r = some L → live rows r = some row' := by
    intro r row' L hl hL
    rcases live_append hl with ⟨rfl, _⟩ | ⟨_, h2⟩
    · rw [h.dom rows.length (Nat.le_refl _)] at hL; cases hL
    · exact h2
  refine ⟨⟨⟨fun r row' L h1 h2 => h.rowsOK.row r row' L (hk _ _ _ h1 h2) h2, fun r1 r2 row1 row2 L1 L2 h1 h2 h3 h4 => h.rowsOK.dist r1 r2 row1 row2 L1 L2 (hk _ _ _ h1 h3) (hk _ _ _ h2 h4) h3 h4⟩, h.env, h.size, h.tlt,
    fun r' hr' => h.dom r' (by simp at hr'; omega), h.defers⟩, ?_⟩
  exact ⟨fun _ _ h => h, fun _ h => h, fun _ h => .inl h, Nat.le_refl _, fun _ _ _ => rfl, fun r' row' L h1 h2 => .inl ⟨r', row', L, hk _ _ _ h1 h2, h2, rfl⟩, rfl, rfl, rfl, by simp, fun _ _ => rfl⟩

theorem Sim.killD (h : Sim n ρ T env rows a w) (d : D) : Sim n ρ T env (Am.kill rows d) a w ∧ Step ρ T rows w ρ T (Am.kill rows d) w ∧ (Am.kill rows d).length = rows.length := by
  cases d with
  | sl s r p o l e =>
    obtain ⟨h1, h2⟩ := h.kill r
    exact ⟨h1, h2, by simp [Am.kill]⟩
  | _ => exact ⟨h, Step.refl _ _ _ _, rfl⟩

/-- the new row of an append that grows -/
theorem app_grow (hs : Sim n ρ T env rows a w) {s : Sh} {e : TypeId} {z : Value} {sLen sCap : Nat} {old news : List D} {ocs ncs : List Value} (hold : ∀ d ∈ old, HasSh s d) (hnew : ∀ d ∈ news, HasSh s d) (hl : old.length = sLen)
    (ho : All2 (LR ρ w T) (flatL old) ocs) (hn : All2 (LR ρ w T) (flatL news) ncs) (hzs : z.cells.size = s.size) {k : D → Rows → Prop} (da : D) :
    ∃ ρ', Sim n ρ' T env (rows ++ [some ⟨s, old ++ news⟩]) a (w.drew.alloc (.cells (ocs.toArray ++ ncs.toArray ++ Builtin.zeroCells z.cells (grownCap w (sLen + news.length) sCap e - (sLen + news.length))) e)) ∧
      Step ρ T rows w ρ' T (rows ++ [some ⟨s, old ++ news⟩]) (w.drew.alloc (.cells (ocs.toArray ++ ncs.toArray ++ Builtin.zeroCells z.cells (grownCap w (sLen + news.length) sCap e - (sLen + news.length))) e)) ∧
      ∀ w', LR ρ' w' T (.sl s rows.length [] 0 (sLen + news.length) false) (.slice (some ⟨w.heap.size, 0, none⟩) (sLen + news.length) (grownCap w (sLen + news.length) sCap e)) := by
  have hcap := grownCap_ge w (sLen + news.length) sCap e
  generalize hc : grownCap w (sLen + news.length) sCap e = cap at hcap ⊢
  generalize hcur : (ocs.toArray ++ ncs.toArray ++ Builtin.zeroCells z.cells (cap - (sLen + news.length))) = cur
  have hall : ∀ d ∈ old ++ news, HasSh s d := by
    intro d hd
    rcases List.mem_append.1 hd with h | h
    · exact hold d h
    · exact hnew d h
  have h1 : All2 (LR ρ w T) (flatL (old ++ news)) (ocs ++ ncs) := by rw [flatL_append]; exact ho.append hn
  have hcl : cur.toList = (ocs ++ ncs) ++ (Builtin.zeroCells z.cells (cap - (sLen + news.length))).toList := by rw [← hcur]; simp
  have hfl : (flatL (old ++ news)).length = (sLen + news.length) * s.size := by rw [flatL_len_all hall, List.length_append, hl]
  have hsz : cur.size = cap * s.size := by
    have : cur.size = cur.toList.length := by simp
    rw [this, hcl, List.length_append, ← h1.len, hfl]
    have : (Builtin.zeroCells z.cells (cap - (sLen + news.length))).toList.length = (cap - (sLen + news.length)) * s.size := by simp [Builtin.zeroCells, hzs]
    rw [this, ← Nat.add_mul]
    congr 1
    omega
  obtain ⟨g1, g2⟩ := (hs.heap (w' := w.drew) rfl).push (w' := w.drew.alloc (.cells cur e)) ⟨s, old ++ news⟩ cur e rfl rfl rfl rfl hall (by rw [hfl, hsz]; exact Nat.mul_le_mul_right _ hcap) (by
    rw [hcl, h1.len, List.take_left]
    exact h1.mono fun a b h => h.mono (fun _ _ h => h) (fun _ _ => rfl) (fun _ h => h))
  refine ⟨_, g1, ?_, fun w' => ?_⟩
  · exact ⟨g2.pl, g2.tt, g2.tnew, g2.size, g2.keep, g2.fresh, g2.os, g2.tape, g2.output, g2.len, g2.same⟩
  · have := LR.sl (ρ := upd ρ rows.length ⟨w.drew.heap.size, s, cur.size⟩) (w := w') (T := T) s rows.length [] 0 (sLen + news.length) false ⟨w.drew.heap.size, s, cur.size⟩ cap (by simp [upd]) hcap (by simp)
      (.inl ⟨rfl, rfl, by simp [hsz]⟩)
    simpa [Loc.off] using this

theorem take_app {α : Type} (l m r : List α) (N : Nat) (h : N = l.length + m.length) : (l ++ m ++ r).take N = l ++ m := by
  subst h
  rw [← List.length_append, List.take_left]

theorem app_sound (hs : Sim n ρ T env rows a w) {s : Sh} {e : TypeId} {z : Value} {bytes sLen sCap : Nat} {base : Option Addr} {da : D} {old news : List D} {ocs ncs : List Value} {k : D → Rows → Prop} {R : Result Value}
    (h : aApp rows s bytes da news k) (he : elems rows da = some old) (hk' : slen da = some sLen) (hv : LR ρ w T da (.slice base sLen sCap)) (hH : Holds rows ρ w T s old (.slice base sLen sCap) sLen base sCap ocs)
    (hnew : ∀ d ∈ news, HasSh s d) (hn : All2 (LR ρ w T) (flatL news) ncs) (hzs : z.cells.size = s.size) (hR : AppRun P w e s z base sLen sCap news.length ocs ncs R) :
    ∃ d rows' ρ' T' v w', k d rows' ∧ Sim n ρ' T' env rows' a w' ∧ Step ρ T rows w ρ' T' rows' w' ∧ VR ρ' w' T' d v ∧ R = .ok v w' := by
  obtain ⟨old', he', h⟩ := bnd_some h
  rw [he] at he'
  cases he'
  obtain ⟨N, hN, hsh, hlen, hb, hmo, hk⟩ := bnd_some h
  rw [hk'] at hN
  cases hN
  by_cases hg : sCap < sLen + news.length
  · -- it grows
    have hR' := hR.grow hg
    cases hown : (isNil da || owned da) with
    | true =>
      simp [hown] at hk
      obtain ⟨g1, g2, g3⟩ := hs.killD da
      obtain ⟨ρ', q1, q2, q3⟩ := app_grow g1 (e := e) (sCap := sCap) (k := k) hH.els hnew hlen hH.hcs hn hzs da
      rw [g3] at q3
      exact ⟨_, _, ρ', T, _, _, hk, q1, g2.trans q2, VR.ofLeaf (q3 _), hR'⟩
    | false =>
      simp [hown] at hk
      obtain ⟨hex, hk0, hk1⟩ := hk
      by_cases hm : news.length = 0
      · exfalso
        have := hH.hcap
        omega
      · have hk2 := hk1 (by intro e; apply hm; rw [e]; rfl)
        obtain ⟨ρ', q1, q2, q3⟩ := app_grow hs (e := e) (sCap := sCap) (k := k) hH.els hnew hlen hH.hcs hn hzs da
        exact ⟨_, _, ρ', T, _, _, hk2, q1, q2, VR.ofLeaf (q3 _), hR'⟩
  · have hroom : sLen + news.length ≤ sCap := by omega
    have hR' := hR.room hroom
    have hncs : ncs.length = news.length * s.size := by rw [← hn.len, flatL_len_all hnew]
    cases hown : (isNil da || owned da) with
    | false =>
      simp [hown] at hk
      obtain ⟨hex, hk0, hk1⟩ := hk
      have hm : news.length = 0 := by
        cases hv with
        | raw v hv => simp [exact] at hex
        | slz => omega
        | sl _ _ _ _ _ _ _ _ _ _ c2 _ => simp [exact] at hex; have := c2 hex; omega
        | lst0 _ _ _ _ c1 _ => simp [exact] at hex; have := c1 hex; omega
        | lst _ _ _ _ _ _ _ _ _ _ _ _ c5 => simp [exact] at hex; have := c5 hex; omega
      have hnn : news = [] := List.eq_nil_of_length_eq_zero hm
      have hnc : ncs = [] := List.eq_nil_of_length_eq_zero (by rw [hncs, hm]; simp)
      subst hnn
      subst hnc
      refine ⟨da, rows, ρ, T, .slice base sLen sCap, w, hk0 rfl, hs, Step.refl _ _ _ _, VR.ofLeaf hv, ?_⟩
      rw [hR']
      cases base <;> simp [storeCells]
    | true =>
      simp [hown] at hk
      by_cases hz : sCap = 0
      · -- nothing at all
        have hm : news.length = 0 := by omega
        have hs0 : sLen = 0 := by omega
        have hnn : news = [] := List.eq_nil_of_length_eq_zero hm
        have hnc : ncs = [] := List.eq_nil_of_length_eq_zero (by rw [hncs, hm]; simp)
        subst hnn hnc hs0 hz
        obtain ⟨g1, g2, g3⟩ := hs.killD da
        obtain ⟨q1, q2⟩ := g1.ghost ⟨s, old ++ []⟩
        refine ⟨_, _, ρ, T, .slice base 0 0, w, hk, q1, g2.trans q2, VR.ofLeaf (.slz _ _ _ _ _ _), ?_⟩
        rw [hR']
        cases base <;> simp [storeCells]
      · -- a row of ours, in place
        cases hv with
        | raw v hv =>
          simp [owned] at hown
          unfold isNil at hown
          split at hown
          · rename_i hh; cases hh; omega
          · cases hown
        | slz => omega
        | lst0 => simp [isNil, owned] at hown
        | lst => simp [isNil, owned] at hown
        | sl _ r p off _ ex L _ hL c1 c2 c3 =>
          have hp : p = [] ∧ off = 0 := by
            cases p <;> cases off <;> simp_all [isNil, owned]
          obtain ⟨rfl, rfl⟩ := hp
          rcases c3 with ⟨_, hsL, hcap⟩ | ⟨m, hm, _⟩
          · simp [sshape] at hsh
            subst hsh
            simp only [elems] at he
            cases hl : live rows r with
            | none => simp [hl] at he
            | some row =>
              simp [hl] at he
              have hr := hs.rowsOK.row r row L hl hL
              obtain ⟨cur, t, m1, m2, m3, m4⟩ := hr.cells
              have hsrow : s = row.sh := by rw [hsL, hr.sh]
              subst hsrow
              simp only [Loc.off, Nat.zero_mul, Nat.zero_add, addr_add] at hR' hcap
              have hone : ∀ v ∈ ncs, v.oneCell' = true := by
                intro v hv
                obtain ⟨j, hj, rfl⟩ := List.mem_iff_getElem.1 hv
                exact (hn.at_ j _ _ (List.getElem?_eq_getElem (by rw [hn.len]; exact hj)) (List.getElem?_eq_getElem hj)).one
              have hfit : sLen * row.sh.size + 0 + ncs.length ≤ cur.size := by
                rw [hncs, Nat.add_zero, ← Nat.add_mul]
                exact Nat.le_trans (Nat.mul_le_mul_right _ hroom) (by omega)
              have hst := run_storeCells_row P L.b (sLen * row.sh.size) t ncs 0 cur w m1 hfit hone
              have hall : ∀ d ∈ old ++ news, HasSh row.sh d := by
                intro d hd
                rcases List.mem_append.1 hd with h | h
                · exact hH.els d h
                · exact hnew d h
              have hfl : (flatL (old ++ news)).length = (sLen + news.length) * row.sh.size := by rw [flatL_len_all hall, List.length_append, hlen]
              have hol : ocs.length = sLen * row.sh.size := hH.csLen
              have hoc : cur.toList.take (sLen * row.sh.size) = ocs := by
                apply List.ext_getElem?
                intro j
                rw [List.getElem?_take]
                by_cases hj : j < sLen * row.sh.size
                · rw [if_pos hj]
                  have hj' : ocs[j]? = some ocs[j] := List.getElem?_eq_getElem (by omega)
                  obtain ⟨b, o', hb1, hb2⟩ := hH.at_ j _ hj'
                  cases hb1
                  rw [hj', ← hb2, cell_of_row w L.b _ cur t m1.choose m1.choose_spec.1]
                  simp [Loc.off]
                · rw [if_neg hj, List.getElem?_eq_none (by omega)]
              have hnewc : All2 (LR ρ w T) (flatL (old ++ news)) ((cur.toList.take (sLen * row.sh.size + 0) ++ ncs ++ cur.toList.drop (sLen * row.sh.size + 0 + ncs.length)).take (flatL (old ++ news)).length) := by
                rw [take_app _ _ _ _ (by rw [hfl, Nat.add_zero, hoc, hol, hncs, Nat.add_mul]), Nat.add_zero, hoc, flatL_append]
                exact hH.hcs.append hn
              obtain ⟨u1, u2⟩ := hs.move hl hL (old ++ news) cur (cur.toList.take (sLen * row.sh.size + 0) ++ ncs ++ cur.toList.drop (sLen * row.sh.size + 0 + ncs.length)).toArray t m1
                (by simp only [List.size_toArray, List.length_append, List.length_take, List.length_drop, Array.length_toList]; omega) hall
                (by rw [hfl]; exact Nat.le_trans (Nat.mul_le_mul_right _ hroom) hcap) hnewc
              refine ⟨_, _, _, T, .slice (some ⟨L.b, 0, none⟩) (sLen + news.length) sCap, _, hk, u1, u2, ?_, ?_⟩
              · have := LR.sl (ρ := upd ρ rows.length L) (w := w.setRow L.b (cur.toList.take (sLen * row.sh.size + 0) ++ ncs ++ cur.toList.drop (sLen * row.sh.size + 0 + ncs.length)).toArray) (T := T) row.sh rows.length [] 0 (sLen + news.length) false L sCap (by simp [upd]) hroom (by simp)
                  (.inl ⟨rfl, hsL, by simpa using hcap⟩)
                simpa [Loc.off] using VR.ofLeaf this
              · rw [hR', hst]
                simp
          · simp [Loc.at] at hm

end Go.Am
