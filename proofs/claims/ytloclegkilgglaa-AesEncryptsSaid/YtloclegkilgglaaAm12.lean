/- make, append, copy, strings: the operations. -/
import Derived.Test.YtloclegkilgglaaAm11
namespace Go.Am
set_option linter.unusedVariables false
set_option linter.unusedSimpArgs false

variable {C : Ctx} {P : Program} {n : Nat} {ρ : Pl} {T : Nat → Prop} {env : Env} {rows : Rows} {a : Act} {w : World}

theorem elems_leaf {d : D} {l : List D} (h : elems rows d = some l) : d.isLeaf = true := by
  cases d <;> simp_all [elems, D.isLeaf]
  split at h <;> simp_all [Value.oneCell']

theorem ofBytes_all (b : ByteArray) : (∀ d ∈ ofBytes b, HasSh (.leaf u8s) d) ∧ All2 (LR ρ w T) (flatL (ofBytes b)) (b.data.toList.map fun x => Value.int .u8 x.toNat) := by
  unfold ofBytes
  generalize b.data.toList = l
  induction l with
  | nil => exact ⟨by simp, .nil⟩
  | cons x l ih =>
    refine ⟨fun d hd => ?_, ?_⟩
    · simp only [List.map_cons, List.mem_cons] at hd
      rcases hd with h | h
      · rw [h]; exact .leaf _ _ rfl
      · exact ih.1 d h
    · simp only [List.map_cons, flatL, D.flat, List.singleton_append]
      exact .cons (.raw _ rfl) ih.2

/-- what is appended or copied -/
structure Src (ρ : Pl) (w : World) (T : Nat → Prop) (P : Program) (s : Sh) (news : List D) (v : Value) (ncs : List Value) : Prop where
  els : ∀ d ∈ news, HasSh s d
  cs : All2 (LR ρ w T) (flatL news) ncs
  len : ∀ w', (Builtin.lenOf v).run P w' = .ok news.length w'
  first : ∀ w', w'.heap = w.heap → ∀ m, m ≤ news.length → (Builtin.firstCells s.size m v).run P w' = .ok (ncs.take (m * s.size)).toArray w'

theorem src_sound (hs : Sim n ρ T env rows a w) {s : Sh} {d : D} {v : Value} {news : List D} (hv : VR ρ w T d v) (h : srcOf rows s d = some news) (hlen : ∀ k, slen d = some k → news.length = k) : ∃ ncs, Src ρ w T P s news v ncs := by
  unfold srcOf at h
  split at h
  · rename_i b
    obtain ⟨h1, h2⟩ := bif_some h
    have hsl : s = .leaf u8s := by simpa using h1
    subst hsl; subst h2
    have := VR.ofRaw hv
    subst this
    obtain ⟨g1, g2⟩ := ofBytes_all (ρ := ρ) (w := w) (T := T) b
    refine ⟨_, g1, g2, fun w' => by simp [Builtin.lenOf, ofBytes], fun w' hw m hm => ?_⟩
    simp only [Builtin.firstCells, Sem.run_pure, Sh.size, Nat.mul_one]
    congr 1
    apply Array.ext'
    simp [ByteArray.data_extract, List.map_take, List.extract]
  · cases hsh : sshape s d with
    | false => simp [hsh] at h
    | true =>
      simp [hsh] at h
      cases hk : slen d with
      | none =>
        cases d <;> simp [elems, slen] at h hk
        split at h <;> simp_all
      | some k =>
        obtain ⟨ad, cap, cs, hH⟩ := hs.rowsOK.holds (hv.toLR (elems_leaf h)) h hk (hlen k hk) hsh
        have hl := hlen k hk
        refine ⟨cs, hH.els, hH.hcs, fun w' => by rw [hH.hv]; simp [Builtin.lenOf, hl], fun w' hw m hm => hH.first hw m (by omega)⟩

theorem Src.csLen {s : Sh} {news : List D} {v : Value} {ncs : List Value} (h : Src ρ w T P s news v ncs) : ncs.length = news.length * s.size := by rw [← h.cs.len, flatL_len_all h.els]

/-- a part of a row's cells is written -/
theorem All2.write {α β : Type} {R : α → β → Prop} {A M B M' : List α} {cur cs : List β} {N : Nat} (h : All2 R (A ++ (M ++ B)) (cur.take N)) (hN : N = (A ++ (M ++ B)).length) (hM : All2 R M' cs) (hl : M'.length = M.length) :
    All2 R (A ++ (M' ++ B)) ((cur.take A.length ++ cs ++ cur.drop (A.length + cs.length)).take (A ++ (M' ++ B)).length) := by
  have hseg := h.seg
  have hcs : cs.length = M.length := by rw [← hM.len, hl]
  have z1 := h.take A.length
  rw [List.take_left, List.take_take] at z1
  have z2 := h.drop (A.length + M.length)
  rw [← List.drop_drop, List.drop_left, List.drop_left, List.drop_take] at z2
  have e0 : (A ++ (M' ++ B)).length = N := by rw [hN]; simp [hl]
  rw [e0]
  have : ((cur.take A.length ++ cs ++ cur.drop (A.length + cs.length)).take N) = cur.take (min A.length N) ++ (cs ++ ((cur.drop (A.length + M.length)).take (N - (A.length + M.length)))) := by
    have hNl : N = A.length + (M.length + B.length) := by rw [hN]; simp
    rw [List.append_assoc, List.take_append, List.take_append]
    simp only [List.length_take]
    have e1 : min A.length cur.length = A.length := by omega
    rw [e1, List.take_take]
    have e2 : min N A.length = min A.length N := by omega
    rw [e2]
    congr 1
    rw [hcs]
    congr 1
    · rw [List.take_of_length_le]
      omega
    · congr 1
      omega
  rw [this]
  exact z1.append (hM.append z2)

theorem flatL_splice {s : Sh} {l xs : List D} {off : Nat} (h : off + xs.length ≤ l.length) :
    flatL l = flatL (l.take off) ++ (flatL ((l.drop off).take xs.length) ++ flatL (l.drop (off + xs.length))) ∧ flatL (splice l off xs) = flatL (l.take off) ++ (flatL xs ++ flatL (l.drop (off + xs.length))) := by
  refine ⟨?_, by simp [splice, flatL_append]⟩
  rw [← flatL_append, ← flatL_append]
  congr 1
  have : (l.drop off).take xs.length ++ l.drop (off + xs.length) = l.drop off := by rw [← List.drop_drop, List.take_append_drop]
  rw [this, List.take_append_drop]

theorem splice_all {s : Sh} {l xs : List D} {off : Nat} (h : ∀ d ∈ l, HasSh s d) (hx : ∀ d ∈ xs, HasSh s d) : ∀ d ∈ splice l off xs, HasSh s d := by
  intro d hd
  simp only [splice, List.mem_append] at hd
  rcases hd with (h1 | h1) | h1
  · exact h d (List.mem_of_mem_take h1)
  · exact hx d h1
  · exact h d (List.mem_of_mem_drop h1)

theorem splice_len {l xs : List D} {off : Nat} (h : off + xs.length ≤ l.length) : (splice l off xs).length = l.length := by
  simp [splice]; omega

theorem live_get {r : Nat} {row : Row} (h : live rows r = some row) : rows[r]? = some (some row) := by
  unfold live at h
  split at h
  · rename_i hh; rw [hh, Option.some.inj h]
  · cases h

theorem set_self {α : Type} {l : List α} {i : Nat} {x : α} (h : l[i]? = some x) : l.set i x = l := by
  apply List.ext_getElem?
  intro j
  rw [List.getElem?_set]
  split
  · rename_i e; subst e
    rw [if_pos (lt_of_get h), h]
  · rfl

theorem andThen_andThen {α β γ : Type} (r : Result α) (f : α → World → Result β) (g : β → World → Result γ) : (r.andThen f).andThen g = r.andThen fun a w => (f a w).andThen g := by
  cases r <;> rfl

section ops
variable (hs : Sim n ρ T env rows a w) (hG : Glob C ρ w T) {o : Oper} {k : D → Rows → Prop}
include hs hG

omit hs hG in
theorem goal_of {d : D} {rows' : Rows} {ρ' : Pl} {T' : Nat → Prop} {v : Value} {w' : World} (hk : k d rows') (g1 : Sim n ρ' T' env rows' a w') (g2 : Step ρ T rows w ρ' T' rows' w') (hv : VR ρ' w' T' d v) (hq : quietOp o.op = true → QH ρ rows w w' ∧ ∀ b, T' b → T b ∨ w.heap.size ≤ b) (hr : (execOp a.eval o).run P w = .ok (.value v) w') :
    OpGoal P n o ρ T env rows a w k := ⟨d, rows', ρ', T', v, w', hk, g1, g2, hv, .inl hr, hq⟩

theorem op_mks {t e : TypeId} {l c : Operand} {l' c' : X} {s : Sh} {z : D} (ho : o.op = .makeSlice t l c) (hu : P.underlying t = some (.slice e)) (hsh : sh P e = some s) (hz : zero P e = some z) (h1 : cX l = some l') (h2 : cX c = some c')
    (h : aop C env rows (.mks s (bytesT P e) z l' c') k) : OpGoal P n o ρ T env rows a w k := by
  obtain ⟨d, he, hk⟩ := bnd_some h
  split at hk
  · rename_i kl L
    obtain ⟨d2, he2, hk2⟩ := bnd_some hk
    clear hk
    split at hk2
    · rename_i kc Cp
      have hx := ev_raw h1 he hs hG
      have hy := ev_raw h2 he2 hs hG
      obtain ⟨b1, b2, b3, b4, hk⟩ := hk2
      obtain ⟨g1, v, g2, g3, g4⟩ := zero_spec hsh hz
      obtain ⟨i, hi, hsz⟩ := sh_info hsh
      have hby : bytesT P e = i.bytes := by simp [bytesT, hi]
      rw [hby] at b3
      rw [most_val] at b3 b4
      have w1 : IntKind.i64.wrap L = L := wrap64_id (by omega) (by omega)
      have w2 : IntKind.i64.wrap Cp = Cp := wrap64_id (by omega) (by omega)
      obtain ⟨l0, rfl⟩ := Int.eq_ofNat_of_zero_le b1
      obtain ⟨c0, rfl⟩ := Int.eq_ofNat_of_zero_le (Int.le_trans b1 b2)
      have hlc : l0 ≤ c0 := by omega
      have hall := zeros_all2 (w := w) (ρ := ρ) (T := T) g1 g3 (g4 ρ w T) c0
      have hrep : ∀ d ∈ List.replicate l0 z, HasSh s d := fun d hd => (List.eq_of_mem_replicate hd) ▸ g1
      have hfl : (flatL (List.replicate l0 z)).length = l0 * s.size := by rw [flatL_len_all hrep, List.length_replicate]
      have hfc : (flatL (List.replicate c0 z)).length = c0 * s.size := by rw [flatL_len_all (s := s) (fun d hd => (List.eq_of_mem_replicate hd) ▸ g1), List.length_replicate]
      have hpre : All2 (LR ρ w T) (flatL (List.replicate l0 z)) (((Array.range (c0 * s.size)).map (v.cells[· % v.cells.size]!)).toList.take (flatL (List.replicate l0 z)).length) := by
        have h5 := hall.take (flatL (List.replicate l0 z)).length
        rw [replicate_split z hlc, flatL_append, List.take_left] at h5
        exact h5
      obtain ⟨q1, q2⟩ := hs.pushRun ⟨s, List.replicate l0 z⟩ ((Array.range (c0 * s.size)).map (v.cells[· % v.cells.size]!)) e _ rfl hrep (by rw [hfl]; simp; exact Nat.mul_le_mul_right _ hlc) hpre
      refine goal_of (v := .slice (some ⟨w.heap.size, 0, none⟩) l0 c0) hk q1 q2 ?_ (fun _ => ⟨fun b hb => .inl (push_old hb), fun _ h => .inl h⟩) ?_
      · have := LR.sl (ρ := upd ρ rows.length ⟨w.heap.size, s, ((Array.range (c0 * s.size)).map (v.cells[· % v.cells.size]!)).size⟩) (w := { w with heap := w.heap.push (.cells ((Array.range (c0 * s.size)).map (v.cells[· % v.cells.size]!)) e) }) (T := T) s rows.length [] 0 l0 (decide ((l0 : Int) = c0)) ⟨w.heap.size, s, ((Array.range (c0 * s.size)).map (v.cells[· % v.cells.size]!)).size⟩ c0 (by simp [upd]) hlc (by simp; omega)
          (.inl ⟨rfl, rfl, by simp⟩)
        simpa [Loc.off] using VR.ofLeaf this
      · have n1 : ¬ ((c0 : Int) < 0) := by omega
        have n2 : ¬ ((281474976710656 : Int) < (i.bytes : Int) * (c0 : Int)) := by rw [Int.mul_comm]; omega
        have n3 : ¬ (c0 < l0) := by omega
        have n4 : ¬ ((l0 : Int) < 0) := by omega
        simp only [execOp, ho, Instr.makeSlice, hx, hy, Sem.run_bind, run_underlying hu, Result.andThen_ok, asInt, asIntOf, Sem.run_pure, typeInfo, run_program, hi, w1, w2]
        by_cases h0 : c0 * s.size = 0
        · have e0 : ∀ f g : Nat → Value, (Array.range 0).map f = (Array.range 0).map g := fun f g => by simp
          simp [n1, n2, n3, n4, sizeOf, typeInfo, hi, hsz, h0, newRow]
          rw [e0]
        · simp [n1, n2, n3, n4, sizeOf, typeInfo, hi, hsz, h0, newRow, g2]
    · exact hk2.elim
  · exact hk.elim

omit hs hG in
theorem app_args {c : Call} {x y : Operand} (hc : c.args.toList = [x, y]) {t u : TypeId} (ht : c.argTypes.toList = [t, u]) :
    c.argTypes[0]? = some t ∧ c.argTypes[1]? = some u ∧ (c.args.map a.eval)[0]? = some (a.eval x) ∧ (c.args.map a.eval)[1]? = some (a.eval y) := by
  have h1 : c.argTypes = #[t, u] := by apply Array.ext'; simpa using ht
  have h2 : c.args = #[x, y] := by apply Array.ext'; simpa using hc
  rw [h1, h2]
  simp

theorem op_append {c : Call} {x y : Operand} {x' y' : X} {t u e : TypeId} {s : Sh} {z : D} (ho : o.op = .call c) (hc : c.callee = .builtin .append) (hargs : c.args.toList = [x, y]) (htypes : c.argTypes.toList = [t, u]) (hu : P.underlying t = some (.slice e))
    (hu1 : (∃ e', P.underlying u = some (.slice e')) ∨ P.underlying u = some .string) (hsh : sh P e = some s) (hz : zero P e = some z) (h1 : cX x = some x') (h2 : cX y = some y')
    (h : aop C env rows (.append s (bytesT P e) x' y') k) : OpGoal P n o ρ T env rows a w k := by
  obtain ⟨da, he, k1⟩ := bnd_some h
  obtain ⟨db, he2, k2⟩ := bnd_some k1
  obtain ⟨news, hn, hk⟩ := bnd_some k2
  clear k1 k2
  obtain ⟨hlb, hk⟩ := hk
  have hva := ev_sound h1 he hs hG
  have hvb := ev_sound h2 he2 hs hG
  obtain ⟨ncs, hsrc⟩ := src_sound (P := P) hs hvb hn hlb
  obtain ⟨old, hold, k1⟩ := bnd_some hk
  obtain ⟨N, hN, k2⟩ := bnd_some k1
  obtain ⟨hss, hlen, hb, hmo, _⟩ := k2
  have hlr := hva.toLR (elems_leaf hold)
  obtain ⟨ad, cap, ocs, hH⟩ := hs.rowsOK.holds hlr hold hN hlen hss
  obtain ⟨g1, v, g2, g3, g4⟩ := zero_spec hsh hz
  obtain ⟨i, hi, hsz⟩ := sh_info hsh
  have hby : bytesT P e = i.bytes := by simp [bytesT, hi]
  obtain ⟨a0, a1, a2, a3⟩ := app_args (a := a) hargs htypes
  rw [hH.hv] at a2 hlr
  have hH' := hH
  rw [hH.hv] at hH'
  have hR : AppRun P w e s v ad N cap news.length ocs ncs ((Builtin.append_ c.argTypes o.type (c.args.map a.eval)).run P w) := by
    refine ⟨fun hroom => ?_, fun hg => ?_⟩
    · have hf := hsrc.first w rfl news.length (Nat.le_refl _)
      rw [← hsrc.csLen, List.take_length] at hf
      exact run_append_room' a0 a1 a2 a3 hu hu1 hsh (hsrc.len w) hf hroom
    · have hf := hsrc.first w.drew rfl news.length (Nat.le_refl _)
      rw [← hsrc.csLen, List.take_length] at hf
      have hfo := hH'.first (P := P) (w' := w.drew) rfl N (Nat.le_refl _)
      rw [← hH'.csLen, List.take_length] at hfo
      exact run_append_grow' a0 a1 a2 a3 hu hu1 hsh hi g2 (hsrc.len w) hf hfo hg (by rw [← hby]; exact hb) hmo
  obtain ⟨d, rows', ρ', T', v', w', m1, m2, m3, m4, m5⟩ := app_sound hs hk hold hN hlr hH' hsrc.els hsrc.cs g3 hR
  refine goal_of m1 m2 m3 m4 (fun hq => by rw [ho] at hq; simp [quietOp, hc] at hq) ?_
  rw [exec_builtin ho hc]
  simp [builtin, m5]

theorem op_appendz {c : Call} {x y : Operand} {x' y' : X} {t u e : TypeId} {s : Sh} {z : D} {kd : IntKind} (ho : o.op = .call c) (hc : c.callee = .builtin .append) (hargs : c.args.toList = [x, y]) (htypes : c.argTypes.toList = [t, u]) (hu : P.underlying t = some (.slice e))
    (hu1 : P.underlying u = some (.int kd)) (hsh : sh P e = some s) (hz : zero P e = some z) (hsz0 : s.size ≠ 0) (h1 : cX x = some x') (h2 : cX y = some y')
    (h : aop C env rows (.appendz s (bytesT P e) z x' y') k) : OpGoal P n o ρ T env rows a w k := by
  obtain ⟨da, he, k1⟩ := bnd_some h
  obtain ⟨db, he2, k2⟩ := bnd_some k1
  clear k1
  split at k2
  · rename_i kd' M
    obtain ⟨hM, hk⟩ := k2
    have hva := ev_sound h1 he hs hG
    have hy := ev_raw h2 he2 hs hG
    obtain ⟨m, rfl⟩ := Int.eq_ofNat_of_zero_le hM
    simp only [Int.ofNat_eq_natCast, Int.toNat_natCast] at hk hy
    obtain ⟨old, hold, k1⟩ := bnd_some hk
    obtain ⟨N, hN, k2⟩ := bnd_some k1
    obtain ⟨hss, hlen, hb, hmo, _⟩ := k2
    have hlr := hva.toLR (elems_leaf hold)
    obtain ⟨ad, cap, ocs, hH⟩ := hs.rowsOK.holds hlr hold hN hlen hss
    obtain ⟨g1, v, g2, g3, g4⟩ := zero_spec hsh hz
    obtain ⟨i, hi, hsz⟩ := sh_info hsh
    have hby : bytesT P e = i.bytes := by simp [bytesT, hi]
    obtain ⟨a0, a1, a2, a3⟩ := app_args (a := a) hargs htypes
    rw [hH.hv] at a2 hlr
    rw [hy] at a3
    have hH' := hH
    rw [hH.hv] at hH'
    simp only [List.length_replicate] at hb hmo
    rw [hby] at hb
    have hR : AppRun P w e s v ad N cap (List.replicate m z).length ocs (Builtin.zeroCells v.cells m).toList ((Builtin.append_ c.argTypes o.type (c.args.map a.eval)).run P w) := by
      refine ⟨fun hroom => ?_, fun hg => ?_⟩
      · simp only [List.length_replicate] at hroom ⊢
        exact run_appendz_room a0 a1 a2 a3 hu hu1 hsh hi g2 hroom hb hmo g3 hsz0
      · simp only [List.length_replicate] at hg ⊢
        have hfo := hH'.first (P := P) (w' := w.drew) rfl N (Nat.le_refl _)
        rw [← hH'.csLen, List.take_length] at hfo
        have := run_appendz_grow (ty := o.type) a0 a1 a2 a3 hu hu1 hsh hi g2 hfo hg hb hmo g3 hsz0 (by have := hH'.hcap; omega)
        simpa using this
    have hzall := zeros_all2 (w := w) (ρ := ρ) (T := T) g1 g3 (g4 ρ w T) m
    have hze : (Builtin.zeroCells v.cells m).toList = ((Array.range (m * s.size)).map (v.cells[· % v.cells.size]!)).toList := by simp [Builtin.zeroCells, g3]
    obtain ⟨d, rows', ρ', T', v', w', m1, m2, m3, m4, m5⟩ := app_sound hs hk hold hN hlr hH' (fun d hd => (List.eq_of_mem_replicate hd) ▸ g1) (by rw [hze]; exact hzall) g3 hR
    refine goal_of m1 m2 m3 m4 (fun hq => by rw [ho] at hq; simp [quietOp, hc] at hq) ?_
    rw [exec_builtin ho hc]
    simp [builtin, m5]
  · exact k2.elim

omit hs hG in
theorem copy_args {c : Call} {x y : Operand} (hc : c.args.toList = [x, y]) {t u : TypeId} (ht : c.argTypes.toList = [t, u]) :
    c.argTypes[0]? = some t ∧ (c.args.map a.eval)[0]? = some (a.eval x) ∧ (c.args.map a.eval)[1]? = some (a.eval y) := by
  obtain ⟨h1, _, h2, h3⟩ := app_args (a := a) hc ht
  exact ⟨h1, h2, h3⟩

theorem op_copy {c : Call} {x y : Operand} {x' y' : X} {t u e : TypeId} {s : Sh} (ho : o.op = .call c) (hc : c.callee = .builtin .copy) (hargs : c.args.toList = [x, y]) (htypes : c.argTypes.toList = [t, u]) (hu : P.underlying t = some (.slice e))
    (hsh : sh P e = some s) (h1 : cX x = some x') (h2 : cX y = some y')
    (h : aop C env rows (.copy s x' y') k) : OpGoal P n o ρ T env rows a w k := by
  obtain ⟨da, he, k1⟩ := bnd_some h
  obtain ⟨db, he2, k2⟩ := bnd_some k1
  obtain ⟨src, hn, hlb, hk⟩ := bnd_some k2
  clear k1 k2
  have hva := ev_sound h1 he hs hG
  have hvb := ev_sound h2 he2 hs hG
  obtain ⟨ncs, hsrc⟩ := src_sound (P := P) hs hvb hn hlb
  obtain ⟨a0, a2, a3⟩ := copy_args (a := a) hargs htypes
  have hrun : ∀ (ad : Option Addr) (len cap : Nat), a.eval x = .slice ad len cap → (execOp a.eval o).run P w =
      ((match ad with
        | some q => (storeCells q (ncs.take (min src.length len * s.size))).run P w
        | none => .ok () w).andThen fun _ w' => .ok (.value (.int .i64 (min src.length len : Nat))) w') := by
    intro ad len cap hx
    have hf := hsrc.first w rfl (min src.length len) (Nat.min_le_left _ _)
    rw [hx] at a2
    rw [exec_builtin ho hc]
    have hmin : Nat.min src.length len = min src.length len := rfl
    cases ad <;> simp [builtin, Builtin.copy_, a0, a2, a3, run_underlying hu, hsrc.len, run_sizeOf hsh, hmin, hf, goInt, andThen_andThen]
  unfold aCopy at hk
  split at hk
  · have hx := ev_raw h1 he hs hG
    refine .here hs hk (VR.raw rfl) ?_
    rw [hrun _ _ _ hx]
    simp
  · rename_i t' r off len ex
    obtain ⟨rfl, k1⟩ := hk
    obtain ⟨row, hl, hle, hk⟩ := bnd_some k1
    clear k1
    have hlr : LR ρ w T _ _ := hva
    generalize hx : a.eval x = v at hlr
    cases hlr with
    | slz _ _ _ _ _ ad =>
      have e1 : splice row.els off (src.take (min src.length 0)) = row.els := by simp [splice]
      rw [e1] at hk
      have e2 : rows.set r (some ⟨row.sh, row.els⟩) = rows := set_self (live_get hl)
      rw [e2] at hk
      refine .here hs hk (VR.raw rfl) ?_
      rw [hrun _ _ _ hx]
      cases ad <;> simp [storeCells]
    | sl _ _ _ _ _ _ L cap hL c1 c2 c3 =>
      have hr := hs.rowsOK.row r row L hl hL
      obtain ⟨cur, t2, m1, m2, m3, m4⟩ := hr.cells
      have hsr : t' = row.sh := by
        rcases c3 with ⟨_, c3, _⟩ | ⟨m, c3, _⟩
        · rw [c3, hr.sh]
        · simp [Loc.at] at c3
      subst hsr
      have hNl : (src.take (min src.length len)).length = min src.length len := by rw [List.length_take]; omega
      have hxs : ∀ d ∈ src.take (min src.length len), HasSh row.sh d := fun d hd => hsrc.els d (List.mem_of_mem_take hd)
      have hfit : off + (src.take (min src.length len)).length ≤ row.els.length := by omega
      obtain ⟨f1, f2⟩ := flatL_splice (s := row.sh) hfit
      have hM : All2 (LR ρ w T) (flatL (src.take (min src.length len))) (ncs.take (min src.length len * row.sh.size)) := by
        have h5 := hsrc.cs.take (min src.length len * row.sh.size)
        have h6 : flatL src = flatL (src.take (min src.length len)) ++ flatL (src.drop (min src.length len)) := by rw [← flatL_append, List.take_append_drop]
        have h7 : (flatL (src.take (min src.length len))).length = min src.length len * row.sh.size := by rw [flatL_len_all hxs, hNl]
        rw [h6, ← h7, List.take_left, h7] at h5
        exact h5
      have hA : (flatL (row.els.take off)).length = off * row.sh.size := by
        rw [flatL_len_all (fun d hd => hr.els d (List.mem_of_mem_take hd)), List.length_take]
        congr 1
        omega
      have hmid : (flatL (src.take (min src.length len))).length = (flatL ((row.els.drop off).take (src.take (min src.length len)).length)).length := by
        rw [flatL_len_all hxs, flatL_len_all (fun d hd => hr.els d (List.mem_of_mem_drop (List.mem_of_mem_take hd)))]
        congr 1
        simp only [List.length_take, List.length_drop]
        omega
      have m5 := m4
      rw [f1] at m5
      have hseg := m5.seg
      have hw := m5.write rfl hM hmid
      rw [← f2, hA] at hw
      have hcl := hM.len
      have hone : ∀ v ∈ ncs.take (min src.length len * row.sh.size), v.oneCell' = true := by
        intro v hv
        obtain ⟨j, hj, rfl⟩ := List.mem_iff_getElem.1 hv
        exact (hM.at_ j _ _ (List.getElem?_eq_getElem (by omega)) (List.getElem?_eq_getElem hj)).one
      have hfits : off * row.sh.size + 0 + (ncs.take (min src.length len * row.sh.size)).length ≤ cur.size := by
        have := hseg.2
        rw [hA, ← hmid, hcl] at this
        simpa using this
      have hst := run_storeCells_row P L.b (off * row.sh.size) t2 _ 0 cur w m1 hfits hone
      have hlen2 : (flatL (splice row.els off (src.take (min src.length len)))).length = (flatL row.els).length := by
        rw [flatL_len_all (splice_all (s := row.sh) hr.els hxs), splice_len hfit, flatL_len_all hr.els]
      obtain ⟨u1, u2⟩ := hs.write hl hL _ cur (cur.toList.take (off * row.sh.size + 0) ++ ncs.take (min src.length len * row.sh.size) ++ cur.toList.drop (off * row.sh.size + 0 + (ncs.take (min src.length len * row.sh.size)).length)).toArray t2 m1
        (by simp only [List.size_toArray, List.length_append, List.length_drop, Array.length_toList]; simp only [List.length_take, Array.length_toList] at hfits ⊢; omega)
        (splice_all hr.els hxs) (by rw [hlen2]; exact m3) hw
      refine goal_of hk u1 u2 (VR.raw rfl) (fun hq => by rw [ho] at hq; simp [quietOp, hc] at hq) ?_
      rw [hrun _ _ _ hx]
      simp only [Loc.off, Nat.zero_add, hst, Result.andThen_ok]
  · rename_i t' r i p off len ex
    obtain ⟨rfl, k1⟩ := hk
    obtain ⟨row, hl, k2⟩ := bnd_some k1
    obtain ⟨d2, hg, k3⟩ := bnd_some k2
    clear k1 k2
    split at k3
    · rename_i q ul
      obtain ⟨hle, k4⟩ := k3
      obtain ⟨els, hset, hk⟩ := bnd_some k4
      clear k4
      have hlr : LR ρ w T _ _ := hva
      generalize hx : a.eval x = v at hlr
      cases hlr with
      | slz _ _ _ _ _ ad =>
        have e1 : splice ul off (src.take (min src.length 0)) = ul := by simp [splice]
        rw [e1] at hset
        have e3 : ∀ (p : List Nat) (d x : D), d.get p = some x → d.set p x = some d := by
          intro p
          induction p with
          | nil => intro d x h; simp [D.get] at h; subst h; simp [D.set]
          | cons j p ih =>
            intro d x h
            cases d with
            | agg s l =>
              simp only [D.get] at h
              simp only [D.set]
              cases hj : l[j]? with
              | none => simp [hj] at h
              | some y =>
                simp only [hj] at h ⊢
                rw [ih y x h]
                simp only
                rw [set_self hj]
            | _ => simp [D.get] at h
        have e4 : els = row.els := by
          simp only [rowGet] at hg
          simp only [rowSet] at hset
          cases hj : row.els[i]? with
          | none => simp [hj] at hg
          | some y =>
            simp only [hj] at hg hset
            rw [e3 p y _ hg] at hset
            simp at hset
            rw [set_self hj] at hset
            exact hset.symm
        rw [e4] at hk
        have e2 : rows.set r (some ⟨row.sh, row.els⟩) = rows := set_self (live_get hl)
        rw [e2] at hk
        refine .here hs hk (VR.raw rfl) ?_
        rw [hrun _ _ _ hx]
        cases ad <;> simp [storeCells]
      | sl _ _ _ _ _ _ L cap hL c1 c2 c3 =>
        have hr := hs.rowsOK.row r row L hl hL
        obtain ⟨cur, t2, m1, m2, m3, m4⟩ := hr.cells
        rcases c3 with ⟨c3, _⟩ | ⟨m, c3, c4⟩
        · simp at c3
        · simp only [Loc.at, hr.sh] at c3
          obtain ⟨g5, g6, pre, post, g7, g8⟩ := rowGet_spec hr.els c3 hg
          obtain ⟨rfl, _⟩ := agg_sh g5
          obtain ⟨l', hl', hlen, hsub⟩ := g5.aggOf rfl
          cases hl'
          simp [Sh.count] at hlen
          have hall : ∀ d ∈ ul, HasSh t' d := by
            intro d hd
            obtain ⟨q, hq, rfl⟩ := List.mem_iff_getElem.1 hd
            exact hsub q t' _ (by simp [Sh.sub]; omega) (List.getElem?_eq_getElem hq)
          have hNl : (src.take (min src.length len)).length = min src.length len := by rw [List.length_take]; omega
          have hxs : ∀ d ∈ src.take (min src.length len), HasSh t' d := fun d hd => hsrc.els d (List.mem_of_mem_take hd)
          have hfit : off + (src.take (min src.length len)).length ≤ ul.length := by omega
          obtain ⟨f1, f2⟩ := flatL_splice (s := t') hfit
          have hnew : HasSh (.ar m t') (.agg (.ar m t') (splice ul off (src.take (min src.length len)))) := by
            refine .agg _ _ rfl (by rw [splice_len hfit]; simpa [Sh.count] using hlen) fun j e' d' hj hd' => ?_
            simp only [Sh.sub] at hj
            split at hj
            · cases hj; exact splice_all hall hxs d' (mem_of_get hd')
            · cases hj
          obtain ⟨z1, z2, z3, pre2, old, post2, z4, z5, z6, z7⟩ := rowSet_spec hr.els c3 hnew hset
          have hM : All2 (LR ρ w T) (flatL (src.take (min src.length len))) (ncs.take (min src.length len * t'.size)) := by
            have h5 := hsrc.cs.take (min src.length len * t'.size)
            have h6 : flatL src = flatL (src.take (min src.length len)) ++ flatL (src.drop (min src.length len)) := by rw [← flatL_append, List.take_append_drop]
            have h7 : (flatL (src.take (min src.length len))).length = min src.length len * t'.size := by rw [flatL_len_all hxs, hNl]
            rw [h6, ← h7, List.take_left, h7] at h5
            exact h5
          have hA : (flatL (ul.take off)).length = off * t'.size := by
            rw [flatL_len_all (fun d hd => hall d (List.mem_of_mem_take hd)), List.length_take]
            congr 1
            omega
          have hmid : (flatL (src.take (min src.length len))).length = (flatL ((ul.drop off).take (src.take (min src.length len)).length)).length := by
            rw [flatL_len_all hxs, flatL_len_all (fun d hd => hall d (List.mem_of_mem_drop (List.mem_of_mem_take hd)))]
            congr 1
            simp only [List.length_take, List.length_drop]
            omega
          -- the two ways to part the row are one
          have hpp : pre = pre2 := by
            have e1 : (flatL row.els).take pre.length = pre := by rw [g7, List.take_left]
            have e2 : (flatL row.els).take pre2.length = pre2 := by rw [z4, List.take_left]
            have e3 : pre.length = pre2.length := by rw [g8, z6]
            rw [← e1, ← e2, e3]
          subst hpp
          have hoo : old = (D.agg (.ar m t') ul).flat ∧ post = post2 := by
            have e1 := g7.symm.trans z4
            have e2 := List.append_cancel_left e1
            have e3 : old.length = (D.agg (.ar m t') ul).flat.length := by rw [z7, hnew.len, g5.len]
            have e4 : (D.agg (.ar m t') ul).flat ++ post = old ++ post2 := e2
            have := List.append_inj e4 e3.symm
            exact ⟨this.1.symm, this.2⟩
          obtain ⟨rfl, rfl⟩ := hoo
          have m5 := m4
          rw [g7] at m5
          simp only [D.flat] at m5 z5
          rw [f1] at m5
          have e1 : pre ++ ((flatL (ul.take off) ++ (flatL ((ul.drop off).take (src.take (min src.length len)).length) ++ flatL (ul.drop (off + (src.take (min src.length len)).length)))) ++ post) =
              (pre ++ flatL (ul.take off)) ++ (flatL ((ul.drop off).take (src.take (min src.length len)).length) ++ (flatL (ul.drop (off + (src.take (min src.length len)).length)) ++ post)) := by simp
          rw [e1] at m5
          have hseg := m5.seg
          have hw := m5.write rfl hM hmid
          have e2 : (pre ++ flatL (ul.take off)) ++ (flatL (src.take (min src.length len)) ++ (flatL (ul.drop (off + (src.take (min src.length len)).length)) ++ post)) = flatL els := by
            rw [z5, f2]; simp
          rw [e2] at hw
          have hAA : (pre ++ flatL (ul.take off)).length = L.off (i :: p) + off * t'.size := by
            rw [List.length_append, hA, g8]
            simp [Loc.off, hr.sh]
          rw [hAA] at hw
          have hcl := hM.len
          have hone : ∀ v ∈ ncs.take (min src.length len * t'.size), v.oneCell' = true := by
            intro v hv
            obtain ⟨j, hj, rfl⟩ := List.mem_iff_getElem.1 hv
            exact (hM.at_ j _ _ (List.getElem?_eq_getElem (by omega)) (List.getElem?_eq_getElem hj)).one
          have hfits : L.off (i :: p) + off * t'.size + 0 + (ncs.take (min src.length len * t'.size)).length ≤ cur.size := by
            have := hseg.2
            rw [hAA, ← hmid, hcl] at this
            simpa using this
          have hst := run_storeCells_row P L.b (L.off (i :: p) + off * t'.size) t2 _ 0 cur w m1 hfits hone
          have hlen2 : (flatL els).length = (flatL row.els).length := by
            rw [flatL_len_all z1, z2, flatL_len_all hr.els]
          obtain ⟨u1, u2⟩ := hs.write hl hL els cur (cur.toList.take (L.off (i :: p) + off * t'.size + 0) ++ ncs.take (min src.length len * t'.size) ++ cur.toList.drop (L.off (i :: p) + off * t'.size + 0 + (ncs.take (min src.length len * t'.size)).length)).toArray t2 m1
            (by simp only [List.size_toArray, List.length_append, List.length_drop, Array.length_toList]; simp only [List.length_take, Array.length_toList] at hfits ⊢; omega)
            z1 (by rw [hlen2]; exact m3) hw
          refine goal_of hk u1 u2 (VR.raw rfl) (fun hq => by rw [ho] at hq; simp [quietOp, hc] at hq) ?_
          rw [hrun _ _ _ hx]
          simp only [hst, Result.andThen_ok]
    · exact k3.elim
  · exact hk.elim

end ops

end Go.Am
