/- The operations together; regions; code. -/
import Derived.Test.YtloclegkilgglaaAm15
namespace Go.Am
set_option linter.unusedVariables false
set_option linter.unusedSimpArgs false

variable {C : Ctx} {P : Program} {n : Nat} {ρ : Pl} {T : Nat → Prop} {env : Env} {rows : Rows} {a : Act} {w : World}

theorem shiftRows_len (k : Nat) : ∀ (l : Rows), (shiftRows k l).length = l.length
  | [] => rfl
  | some ⟨s, els⟩ :: l => by simp [shiftRows, shiftRows_len k l]
  | none :: l => by simp [shiftRows, shiftRows_len k l]
theorem live_shift (k : Nat) : ∀ (l : Rows) (r : Nat) (row : Row), live (shiftRows k l) r = some row → ∃ row', live l r = some row' ∧ row = ⟨row'.sh, bif row'.sh.pure then row'.els else shiftL k row'.els⟩
  | [], r, row, h => by simp [shiftRows, live] at h
  | some ⟨s, els⟩ :: l, 0, row, h => by
    simp [shiftRows, live] at h
    exact ⟨⟨s, els⟩, by simp [live], h.symm⟩
  | some ⟨s, els⟩ :: l, r + 1, row, h => by
    have := live_shift k l r row (by simpa [shiftRows, live] using h)
    simpa [live] using this
  | none :: l, 0, row, h => by simp [shiftRows, live] at h
  | none :: l, r + 1, row, h => by
    have := live_shift k l r row (by simpa [shiftRows, live] using h)
    simpa [live] using this

theorem call_join (hs : Sim n ρ T env rows a w) {ρ' : Pl} {T0 T' T'' : Nat → Prop} {rows' : Rows} {w' : World} (hst : Step noPl T0 [] w ρ' T' rows' w') (hdom : ∀ r, rows'.length ≤ r → ρ' r = none)
    (hdist : ∀ r r' row row' L L', live rows' r = some row → live rows' r' = some row' → ρ' r = some L → ρ' r' = some L' → r ≠ r' → L.b ≠ L'.b)
    (t1 : ∀ b, T b → T'' b) (t2 : ∀ b, T'' b → T b ∨ w.heap.size ≤ b) (t3 : ∀ b, T'' b → b < w'.heap.size)
    (hnew : ∀ r row L, live rows' r = some row → ρ' r = some L → RowOK (joinPl rows.length ρ ρ') ⟨row.sh, bif row.sh.pure then row.els else shiftL rows.length row.els⟩ L w' T'') :
    Sim n (joinPl rows.length ρ ρ') T'' env (rows ++ shiftRows rows.length rows') a w' ∧ Step ρ T rows w (joinPl rows.length ρ ρ') T'' (rows ++ shiftRows rows.length rows') w' := by
  have hkeep : ∀ b, b < w.heap.size → w'.heap[b]? = w.heap[b]? := fun b hb => hst.keep b hb (by intro r row L hl; simp [live] at hl)
  have hTw : ∀ b, T b → w'.heap[b]? = w.heap[b]? := fun b hb => hkeep b (hs.tlt b hb)
  have hpl : ∀ r L, ρ r = some L → joinPl rows.length ρ ρ' r = some L := by
    intro r L hL
    have : r < rows.length := by
      rcases Nat.lt_or_ge r rows.length with h | h
      · exact h
      · rw [hs.dom r h] at hL; cases hL
    simp [joinPl, this, hL]
  have hnb : ∀ r row L, live rows' r = some row → ρ' r = some L → w.heap.size ≤ L.b := by
    intro r row L h1 h2
    rcases hst.fresh r row L h1 h2 with ⟨r0, row0, L0, h3, _⟩ | h3
    · simp [live] at h3
    · exact h3
  have hsplit : ∀ r row L, live (rows ++ shiftRows rows.length rows') r = some row → joinPl rows.length ρ ρ' r = some L →
      (r < rows.length ∧ live rows r = some row ∧ ρ r = some L) ∨ (rows.length ≤ r ∧ ∃ row', live rows' (r - rows.length) = some row' ∧ ρ' (r - rows.length) = some L ∧ row = ⟨row'.sh, bif row'.sh.pure then row'.els else shiftL rows.length row'.els⟩) := by
    intro r row L h1 h2
    by_cases hr : r < rows.length
    · left
      refine ⟨hr, ?_, by simpa [joinPl, hr] using h2⟩
      unfold live at h1 ⊢
      rwa [List.getElem?_append_left hr] at h1
    · right
      have h1' : live (shiftRows rows.length rows') (r - rows.length) = some row := by
        unfold live at h1 ⊢
        rwa [List.getElem?_append_right (by omega)] at h1
      obtain ⟨row', h3, h4⟩ := live_shift _ _ _ _ h1'
      exact ⟨by omega, row', h3, by simpa [joinPl, hr] using h2, h4⟩
  refine ⟨⟨⟨?_, ?_⟩, hs.env.mono hpl hTw t1, hs.size, t3, ?_, hs.defers⟩, ⟨hpl, t1, fun b hb => (t2 b hb).imp_right .inl, hst.size, fun b hb _ => hkeep b hb, ?_, hst.os, hst.tape, hst.output, by simp, fun r hr => by simp [joinPl, hr]⟩⟩
  · intro r row L h1 h2
    rcases hsplit r row L h1 h2 with ⟨h3, h4, h5⟩ | ⟨h3, row', h4, h5, rfl⟩
    · have hr := hs.rowsOK.row r row L h4 h5
      refine hr.mono hpl hTw t1 (hkeep _ hr.lt) (fun h => ?_)
      rcases t2 _ h with h | h
      · exact hr.notT h
      · have := hr.lt; omega
    · exact hnew _ row' L h4 h5
  · intro r r' row row' L L' h1 h2 h3 h4 hne
    rcases hsplit r row L h1 h3 with ⟨g1, g2, g3⟩ | ⟨g1, q1, g2, g3, _⟩
    · rcases hsplit r' row' L' h2 h4 with ⟨k1, k2, k3⟩ | ⟨k1, q2, k2, k3, _⟩
      · exact hs.rowsOK.dist r r' row row' L L' g2 k2 g3 k3 hne
      · have := (hs.rowsOK.row r row L g2 g3).lt
        have := hnb _ _ _ k2 k3
        omega
    · rcases hsplit r' row' L' h2 h4 with ⟨k1, k2, k3⟩ | ⟨k1, q2, k2, k3, _⟩
      · have := (hs.rowsOK.row r' row' L' k2 k3).lt
        have := hnb _ _ _ g2 g3
        omega
      · exact hdist _ _ q1 q2 L L' g2 k2 g3 k3 (by omega)
  · intro r hr
    rw [List.length_append, shiftRows_len] at hr
    simp only [joinPl, show ¬ r < rows.length by omega, if_false]
    exact hdom _ (by omega)
  · intro r row L h1 h2
    rcases hsplit r row L h1 h2 with ⟨h3, h4, h5⟩ | ⟨h3, row', h4, h5, rfl⟩
    · exact .inl ⟨r, row, L, h4, h5, rfl⟩
    · exact .inr (hnb _ _ _ h4 h5)

theorem noLstRows_pure : ∀ {l : Rows} {r : Nat} {row : Row}, noLstRows l = true → live l r = some row → row.sh.pure = true
  | [], r, row, _, h => by simp [live] at h
  | some ⟨s, els⟩ :: l, 0, row, hn, h => by
    simp [live] at h
    subst h
    simp [noLstRows] at hn
    exact hn.1
  | some ⟨s, els⟩ :: l, r + 1, row, hn, h => by
    simp [noLstRows] at hn
    exact noLstRows_pure (r := r) hn.2 (by simpa [live] using h)
  | none :: l, 0, row, hn, h => by simp [live] at h
  | none :: l, r + 1, row, hn, h => noLstRows_pure (l := l) (r := r) (by simpa [noLstRows] using hn) (by simpa [live] using h)

/-- how an operation goes on -/
def Cont (C : Ctx) (n : Nat) (ρ : Pl) (T : Nat → Prop) (env : Env) (rows : Rows) (a : Act) (w : World) (o : Oper) (k : D → Rows → Prop) (next : Act → World → Prop) : Prop :=
  ∀ d rows' ρ' T' v w', k d rows' → Sim n ρ' T' env rows' a w' → Step ρ T rows w ρ' T' rows' w' → VR ρ' w' T' d v → ((∀ f, C.fnr f = none) → quietOp o.op = true → QH ρ rows w w' ∧ ∀ b, T' b → T b ∨ w.heap.size ≤ b) → next (a.put o.dst v) w'

theorem OpGoal.wp {o : Oper} {k : D → Rows → Prop} {next : Act → World → Prop} {Q : Exit → Act → World → Prop} (h : OpGoal P n o ρ T env rows a w k) (hc : Cont C n ρ T env rows a w o k next) : o.wp P a w next Q := by
  obtain ⟨d, rows', ρ', T', v, w', h1, h2, h3, h4, h5, h6⟩ := h
  unfold Oper.wp
  rcases h5 with h5 | ⟨h5, rfl⟩
  · rw [h5]; exact hc d rows' ρ' T' v w' h1 h2 h3 h4 (fun _ => h6)
  · rw [h5]; exact hc d rows' ρ' T' undef w' h1 h2 h3 h4 (fun _ => h6)

theorem mapO_view (hr : RowsOK ρ rows w T) {k : Nat} : ∀ {ds ds' : List D} {vs : List Value}, mapO (view rows k) ds = some ds' → All2 (VR ρ w T) ds vs → All2 (VR noPl w (Blk ρ T rows)) ds' vs := by
  intro ds ds' vs h hv
  obtain ⟨g1, g2⟩ := mapO_get h
  refine ⟨by rw [g1, hv.len], fun i x y hx hy => ?_⟩
  have hi : i < ds.length := by have := lt_of_get hx; omega
  have hd := List.getElem?_eq_getElem hi
  exact view_VR hr (g2 i _ x hd hx) (hv.at_ i _ y hd hy)

theorem op_callD (hs : Sim n ρ T env rows a w) (hG0 : ∀ g d, C.glob g = some d → LR noPl w T (.cptr d) (.pointer (some ⟨g, 0, none⟩))) (hC : CtxOK C P) {o : Oper} {k : D → Rows → Prop} {next : Act → World → Prop} {Q : Exit → Act → World → Prop}
    {f : FuncId} {ds : List D} {vs : Array Value} (hvl : All2 (VR ρ w T) ds vs.toList) (hrun : (execOp a.eval o).run P w = .ok (.enter f vs) w) (k2 : aCall C rows f ds k) (hk : Cont C n ρ T env rows a w o k next) : o.wp P a w next Q := by
  unfold Oper.wp
  rw [hrun, Oper.upon_enter]
  unfold aCall at k2
  cases hA : C.fn f with
  | none =>
    rw [hA] at k2
    obtain ⟨A, hAr, k3⟩ := bnd_some k2
    refine (hC.2 f A hAr ds rows k k3 ρ w T vs hs.rowsOK hs.dom hs.tlt hvl hG0).mono ?_
    rintro e w' ⟨v, d, rows', ρ', T', rfl, hkd, hrows, hdom, htlt, hst, hvr⟩
    refine hk d rows' ρ' T' v w' hkd ⟨hrows, hs.env.mono hst.pl (fun b hb => ?_) hst.tt, hs.size, htlt, hdom, hs.defers⟩ hst hvr (fun hn => by rw [hn] at hAr; cases hAr)
    exact hst.keep b (hs.tlt b hb) (fun r row L g1 g2 e => (hs.rowsOK.row r row L g1 g2).notT (e ▸ hb))
  | some A =>
  rw [hA] at k2
  simp only at k2
  have hM := hC.1 f A hA
  cases hh : hasRefL ds with
  | true =>
    obtain ⟨ds', hview, hA'⟩ := bnd_some (k2.1 hh)
    have hkeep : ∀ {ρ' T' rows' w'} {T0 : Nat → Prop}, Step noPl T0 [] w ρ' T' rows' w' → ∀ b, b < w.heap.size → w'.heap[b]? = w.heap[b]? := fun hst b hb => hst.keep b hb (by intro r row L hl; simp [live] at hl)
    have hargs := mapO_view hs.rowsOK hview hvl
    refine (hM ds' [] (fun d rows' => (noLst d && noLstRows rows') = true ∧ k (shift rows.length d) (rows ++ shiftRows rows.length rows')) hA' noPl w (Blk ρ T rows) _ ⟨by intro r row L hl; simp [live] at hl, by intro r r' row row' L L' hl; simp [live] at hl⟩ (fun _ _ => rfl) ?_ hargs ?_).mono ?_
    · rintro b (h | ⟨r, row, L, g1, g2, rfl⟩)
      · exact hs.tlt b h
      · exact (hs.rowsOK.row r row L g1 g2).lt
    · intro g d hd
      exact (hG0 g d hd).mono (fun _ _ h => h) (fun _ _ => rfl) (fun b hb => .inl hb)
    · rintro e w' ⟨v, d, rows', ρ', T', rfl, ⟨hno, hkd⟩, hrows, hdom, htlt, hst, hvr⟩
      simp only [Bool.and_eq_true] at hno
      have hnew : ∀ r row L, live rows' r = some row → ρ' r = some L → RowOK (joinPl rows.length ρ ρ') ⟨row.sh, bif row.sh.pure then row.els else shiftL rows.length row.els⟩ L w' T := by
        intro r row L g1 g2
        have hr := hrows.row r row L g1 g2
        have hp := noLstRows_pure hno.2 g1
        rw [hp]
        obtain ⟨cur, t, q1, q2, q3, q4⟩ := hr.cells
        refine ⟨hr.sh, fun hT => ?_, hr.els, cur, t, q1, q2, q3, q4.ofRaw (pure_flatL hr.els hp)⟩
        rcases hst.fresh r row L g1 g2 with ⟨r0, row0, L0, h3, _⟩ | h3
        · simp [live] at h3
        · have := hs.tlt _ hT; omega
      obtain ⟨g1, g2⟩ := call_join hs hst hdom hrows.dist (fun _ h => h) (fun _ h => .inl h) (fun b hb => Nat.lt_of_lt_of_le (hs.tlt b hb) hst.size) hnew
      refine hk _ _ _ _ v w' hkd g1 g2 ?_ (fun _ _ => ⟨fun b hb => .inl (hkeep hst b hb), fun _ h => .inl h⟩)
      exact ((hvr.noLst (T' := T) (w' := w') hno.1).shift rows.length ρ)
  | false =>
    have hA' := k2.2 hh
    have hkeep : ∀ {ρ' T' rows' w'} {T0 : Nat → Prop}, Step noPl T0 [] w ρ' T' rows' w' → ∀ b, b < w.heap.size → w'.heap[b]? = w.heap[b]? := fun hst b hb => hst.keep b hb (by intro r row L hl; simp [live] at hl)
    have hargs : All2 (VR noPl w T) ds vs.toList := ⟨hvl.len, fun i x y hx hy => (hvl.at_ i x y hx hy).closed (hasRefL_mem hh x (mem_of_get hx))⟩
    refine (hM ds [] (fun d rows' => k (shift rows.length d) (rows ++ shiftRows rows.length rows')) hA' noPl w T _ ⟨by intro r row L hl; simp [live] at hl, by intro r r' row row' L L' hl; simp [live] at hl⟩ (fun _ _ => rfl) hs.tlt hargs hG0).mono ?_
    rintro e w' ⟨v, d, rows', ρ', T', rfl, hkd, hrows, hdom, htlt, hst, hvr⟩
    have hnew : ∀ r row L, live rows' r = some row → ρ' r = some L → RowOK (joinPl rows.length ρ ρ') ⟨row.sh, bif row.sh.pure then row.els else shiftL rows.length row.els⟩ L w' T' := by
      intro r row L g1 g2
      have hr := hrows.row r row L g1 g2
      obtain ⟨cur, t, q1, q2, q3, q4⟩ := hr.cells
      cases hp : row.sh.pure with
      | true => exact ⟨hr.sh, hr.notT, hr.els, cur, t, q1, q2, q3, q4.ofRaw (pure_flatL hr.els hp)⟩
      | false =>
        simp only [cond_false]
        obtain ⟨z1, z2⟩ := shift_shL (k := rows.length) hr.els
        have q5 := q4.shift rows.length ρ
        have zl : (flatL (shiftL rows.length row.els)).length = (flatL row.els).length := by rw [z2, List.length_map]
        exact ⟨hr.sh, hr.notT, z1, cur, t, q1, q2, by rw [zl]; exact q3, by simp only [zl]; rw [z2]; exact q5⟩
    obtain ⟨g1, g2⟩ := call_join hs hst hdom hrows.dist hst.tt hst.tnew0 htlt hnew
    exact hk _ _ _ _ v w' hkd g1 g2 (hvr.shift rows.length ρ) (fun _ _ => ⟨fun b hb => .inl (hkeep hst b hb), hst.tnew0⟩)

theorem run_enter {f : FuncId} {fn : Func} {o : Oper} {c : Call} (ho : o.op = .call c) (hf : P.funcs[f]? = some fn) (hb : fn.body.isSome = true) (hn : (fn.name != "runtime.NumGoroutine") = true)
    (hc : c.callee = .value (.func f) ∨ ∃ t, c.callee = .value (.tmp t) ∧ a.eval (.tmp t) = .func (.func f) #[] #[]) : (execOp a.eval o).run P w = .ok (.enter f (c.args.map a.eval)) w := by
  have hn' : ¬ fn.name = "runtime.NumGoroutine" := by simpa using hn
  cases hq : fn.body with
  | none => simp [hq] at hb
  | some b =>
    rcases hc with hc | ⟨t, hc, ht⟩
    · simp [execOp, ho, resolve, hc, Act.eval, Deferred.ofValue, invoke, callFunc, hf, hn', hq]
    · simp [execOp, ho, resolve, hc, ht, Deferred.ofValue, invoke, callFunc, hf, hn', hq]

theorem op_call (hs : Sim n ρ T env rows a w) (hG : Glob C ρ w T) (hG0 : ∀ g d, C.glob g = some d → LR noPl w T (.cptr d) (.pointer (some ⟨g, 0, none⟩))) (hC : CtxOK C P) {o : Oper} {k : D → Rows → Prop} {next : Act → World → Prop} {Q : Exit → Act → World → Prop}
    {c : Call} {f : FuncId} {fn : Func} {l' : List X} (ho : o.op = .call c) (hc : c.callee = .value (.func f)) (hf : P.funcs[f]? = some fn) (hb : fn.body.isSome = true) (hn : (fn.name != "runtime.NumGoroutine") = true)
    (h1 : cXs c.args.toList = some l') (h : aop C env rows (.call f l') k) (hk : Cont C n ρ T env rows a w o k next) : o.wp P a w next Q := by
  obtain ⟨ds, hds, k2⟩ := bnd_some h
  have hv := evs_sound hs hG h1 hds
  exact op_callD hs hG0 hC (by simpa using hv) (run_enter ho hf hb hn (.inl hc)) k2 hk

theorem memB_mem {f : Nat} : ∀ {l : List Nat}, memB f l = true → f ∈ l
  | [], h => by cases h
  | x :: l, h => by
    unfold memB at h
    cases hb : (x == f) with
    | true =>
      have : x = f := by simpa using hb
      subst this; exact List.mem_cons_self ..
    | false => rw [hb] at h; exact List.mem_cons_of_mem _ (memB_mem h)
theorem closF_mem {c : Call} {f : Nat} (h : f ∈ closF P c) : ∃ fn, P.funcs[f]? = some fn ∧ fn.body.isSome = true ∧ (fn.name != "runtime.NumGoroutine") = true := by
  unfold closF at h
  have h2 := (List.mem_filter.1 h).2
  split at h2
  · rename_i fn hf
    simp only [Bool.and_eq_true] at h2
    exact ⟨fn, hf, h2.1.2, h2.2⟩
  · cases h2
theorem op_callv (hs : Sim n ρ T env rows a w) (hG : Glob C ρ w T) (hG0 : ∀ g d, C.glob g = some d → LR noPl w T (.cptr d) (.pointer (some ⟨g, 0, none⟩))) (hC : CtxOK C P) {o : Oper} {k : D → Rows → Prop} {next : Act → World → Prop} {Q : Exit → Act → World → Prop}
    {c : Call} {t : Nat} {l' : List X} (ho : o.op = .call c) (hc : c.callee = .value (.tmp t)) (h1 : cXs c.args.toList = some l') (h : aop C env rows (.callv (closF P c) (.tmp t) l') k) (hk : Cont C n ρ T env rows a w o k next) : o.wp P a w next Q := by
  obtain ⟨d, hd, h2⟩ := bnd_some h
  have hv0 := ev_sound (x := .tmp t) rfl hd hs hG
  split at h2
  · rename_i f c1 c2
    obtain ⟨rfl, rfl, hf, h3⟩ := h2
    obtain ⟨ds, hds, k2⟩ := bnd_some h3
    have hv := evs_sound hs hG h1 hds
    obtain ⟨fn, g1, g2, g3⟩ := closF_mem (memB_mem hf)
    exact op_callD hs hG0 hC (by simpa using hv) (run_enter ho g1 g2 g3 (.inr ⟨t, hc, hv0.ofRaw⟩)) k2 hk
  · exact h2.elim
theorem op_lena (hs : Sim n ρ T env rows a w) {o : Oper} {k : D → Rows → Prop} {c : Call} {x : Operand} {t e : TypeId} {m : Nat} {ts : List TypeId} (ho : o.op = .call c) (hc : c.callee = .builtin .len) (ha : c.args.toList = [x])
    (hts : c.argTypes.toList = t :: ts) (hu : P.underlying t = some (.array m e)) (h : aop C env rows (.mv (.const (.int .i64 m))) k) : OpGoal P n o ρ T env rows a w k := by
  have hk : k (.raw (.int .i64 m)) rows := h
  have hargs : c.args = #[x] := by apply Array.ext'; simpa using ha
  have hat0 : c.argTypes[0]? = some t := by
    have : c.argTypes.toList[0]? = some t := by rw [hts]; rfl
    simpa using this
  refine .here hs hk (VR.raw rfl) ?_
  rw [exec_builtin ho hc]
  simp [builtin, Builtin.len_, hargs, hat0, run_underlying hu, goInt]

theorem op_sound (hs : Sim n ρ T env rows a w) (hG0 : ∀ g d, C.glob g = some d → LR noPl w T (.cptr d) (.pointer (some ⟨g, 0, none⟩))) (hC : CtxOK C P) {o : Oper} {ao : AOp} {k : D → Rows → Prop} {next : Act → World → Prop} {Q : Exit → Act → World → Prop}
    (hc : cOp P o.op = some ao) (h : aop C env rows ao k) (hk : Cont C n ρ T env rows a w o k next) : o.wp P a w next Q := by
  unfold cOp at hc
  split at hc
  case h_2 => cases hc; exact h.elim
  rename_i a0 hc0
  cases hc
  replace hc := hc0
  clear hc0
  have hG : Glob C ρ w T := fun g d hd => (hG0 g d hd).mono (by intro r L h; cases h) (fun _ _ => rfl) (fun _ h => h)
  cases hop : o.op with
  | move x =>
    rw [hop] at hc
    obtain ⟨x', h1, h2⟩ := o2_some hc
    cases h2
    exact (op_mv hs hG (.inl hop) h1 h).wp hk
  | assign x =>
    rw [hop] at hc
    obtain ⟨x', h1, h2⟩ := o2_some hc
    cases h2
    exact (op_mv hs hG (.inr hop) h1 h).wp hk
  | pick x y z =>
    rw [hop] at hc
    obtain ⟨x', h1, hc⟩ := o2_some hc
    obtain ⟨y', h2, hc⟩ := o2_some hc
    obtain ⟨z', h3, hc⟩ := o2_some hc
    cases hc
    exact (op_pick hs hG hop h1 h2 h3 h).wp hk
  | alloc t =>
    rw [hop] at hc
    obtain ⟨s, h1, hc⟩ := o2_some hc
    obtain ⟨z, h2, hc⟩ := o2_some hc
    obtain ⟨_, hc⟩ := ifo_some hc
    cases hc
    exact (op_alloc hs hop h1 h2 h).wp hk
  | box t x =>
    rw [hop] at hc
    obtain ⟨s, h1, hc⟩ := o2_some hc
    obtain ⟨x', h2, hc⟩ := o2_some hc
    cases hc
    exact (op_box hs hG hop h2 h).wp hk
  | build t parts =>
    rw [hop] at hc
    obtain ⟨s, h1, hc⟩ := o2_some hc
    obtain ⟨z, h2, hc⟩ := o2_some hc
    obtain ⟨ps, h3, hc⟩ := o2_some hc
    split at hc
    · rename_i fs hu
      obtain ⟨h4, hc⟩ := ifo_some hc
      cases hc
      simp only [Bool.and_eq_true, beq_iff_eq] at h4
      obtain ⟨⟨⟨⟨_, h5⟩, h6⟩, h7⟩, h8⟩ := h4
      exact (op_buildS hs hG hop h1 h2 hu h3 h5 h6 h7 h8 h).wp hk
    · rename_i m e hu
      obtain ⟨se, h4, hc⟩ := o2_some hc
      obtain ⟨h5, hc⟩ := ifo_some hc
      cases hc
      simp only [Bool.and_eq_true, beq_iff_eq] at h5
      exact (op_buildA hs hG hop h1 h2 hu h3 h5.1.2 h4 h5.2 h).wp hk
    · cases hc
  | buildSlice t m parts =>
    rw [hop] at hc
    obtain ⟨e, h1, hc⟩ := o2_some hc
    obtain ⟨s, h2, hc⟩ := o2_some hc
    obtain ⟨z, h3, hc⟩ := o2_some hc
    obtain ⟨ps, h4, hc⟩ := o2_some hc
    obtain ⟨h5, hc⟩ := ifo_some hc
    cases hc
    simp only [Bool.and_eq_true] at h5
    have hu : P.underlying t = some (.slice e) := by
      unfold elemT at h1
      split at h1
      · cases h1; assumption
      · cases h1
    exact (op_bslice hs hG hop hu h2 h3 h4 (by simpa using h5.1.2) (Nat.le_of_ble_eq_true h5.2) h).wp hk
  | load t x =>
    rw [hop] at hc
    obtain ⟨s, h1, hc⟩ := o2_some hc
    obtain ⟨x', h2, hc⟩ := o2_some hc
    obtain ⟨h3, hc⟩ := ifo_some hc
    cases hc
    exact (op_load hs hG hop h1 h3 h2 h).wp hk
  | store t x y =>
    rw [hop] at hc
    obtain ⟨s, h1, hc⟩ := o2_some hc
    obtain ⟨x', h2, hc⟩ := o2_some hc
    obtain ⟨y', h3, hc⟩ := o2_some hc
    cases hc
    exact (op_store hs hG hop h1 h2 h3 h).wp hk
  | nilCheck x =>
    rw [hop] at hc
    obtain ⟨x', h2, hc⟩ := o2_some hc
    cases hc
    exact (op_nilc hs hG hop h2 h).wp hk
  | binOp op t x y u =>
    rw [hop] at hc
    obtain ⟨x', h1, hc⟩ := o2_some hc
    obtain ⟨y', h2, hc⟩ := o2_some hc
    split at hc
    · cases hc; exact (op_bin hs hG hop h1 h2 h).wp hk
    · cases hc; exact (op_bin hs hG hop h1 h2 h).wp hk
    · rename_i hu
      split at hc
      · cases hc; exact (op_beq hs hG (neg := false) hop rfl hu h1 h2 h).wp hk
      · cases hc; exact (op_beq hs hG (neg := true) hop rfl hu h1 h2 h).wp hk
      · cases hc
    · obtain ⟨s, h3, hc⟩ := o2_some hc
      obtain ⟨h4, hc⟩ := ifo_some hc
      simp only [Bool.and_eq_true, Bool.not_eq_true'] at h4
      split at hc
      · cases hc; exact (op_eqa hs hG (neg := false) hop rfl h3 h4.1 h4.2 h1 h2 h).wp hk
      · cases hc; exact (op_eqa hs hG (neg := true) hop rfl h3 h4.1 h4.2 h1 h2 h).wp hk
      · cases hc
    · obtain ⟨s, h3, hc⟩ := o2_some hc
      obtain ⟨h4, hc⟩ := ifo_some hc
      simp only [Bool.and_eq_true, Bool.not_eq_true'] at h4
      split at hc
      · cases hc; exact (op_eqa hs hG (neg := false) hop rfl h3 h4.1 h4.2 h1 h2 h).wp hk
      · cases hc; exact (op_eqa hs hG (neg := true) hop rfl h3 h4.1 h4.2 h1 h2 h).wp hk
      · cases hc
    · rename_i hu
      split at hc
      · cases hc; exact (op_eqnil hs hG (neg := false) hop rfl hu h1 h2 h).wp hk
      · cases hc; exact (op_eqnil hs hG (neg := true) hop rfl hu h1 h2 h).wp hk
      · cases hc
    · rename_i hu
      split at hc
      · cases hc; exact (op_eqsn hs hG (neg := false) hop rfl hu h1 h2 h).wp hk
      · cases hc; exact (op_eqsn hs hG (neg := true) hop rfl hu h1 h2 h).wp hk
      · cases hc
    · cases hc
  | sliceToArrayPointer t x =>
    rw [hop] at hc
    simp only [cOp0] at hc
    split at hc
    · rename_i m e hu
      obtain ⟨s, h1, hc⟩ := o2_some hc
      obtain ⟨x', h2, hc⟩ := o2_some hc
      cases hc
      exact (op_s2a hs hG hop hu h2 h).wp hk
    · cases hc
  | unOp op t x =>
    rw [hop] at hc
    obtain ⟨x', h2, hc⟩ := o2_some hc
    cases hc
    exact (op_un hs hG hop h2 h).wp hk
  | convert s t x =>
    rw [hop] at hc
    obtain ⟨x', h1, hc⟩ := o2_some hc
    split at hc
    · rename_i hu1 hu2; cases hc; exact (op_conv hs hG hop hu1 hu2 h1 h).wp hk
    · rename_i hu1 hu2; cases hc; exact (op_convS hs hG hop hu1 hu2 h1 h).wp hk
    · rename_i hu1 hu2
      split at hc
      · rename_i hu3; cases hc; exact (op_s2b hs hG hop hu1 hu2 hu3 h1 h).wp hk
      · cases hc
    · rename_i hu1 hu2
      split at hc
      · rename_i hu3; cases hc; exact (op_b2s hs hG hop hu1 hu3 hu2 h1 h).wp hk
      · cases hc
    · rename_i hu1 hu2
      obtain ⟨hst, hc⟩ := ifo_some hc
      obtain ⟨s', h2, hc⟩ := o2_some hc
      obtain ⟨hs8, hc⟩ := ifo_some hc
      have hst' : s = t := by simpa using hst
      split at hc
      · rename_i hu3
        cases hc
        rw [hst'] at hop
        exact (op_frzb hs hG hop hu2 hu3 h1 h).wp hk
      · cases hc
    · cases hc
  | makeSlice t l c =>
    rw [hop] at hc
    obtain ⟨e, h1, hc⟩ := o2_some hc
    obtain ⟨s, h2, hc⟩ := o2_some hc
    obtain ⟨z, h3, hc⟩ := o2_some hc
    obtain ⟨l', h4, hc⟩ := o2_some hc
    obtain ⟨c', h5, hc⟩ := o2_some hc
    obtain ⟨h6, hc⟩ := ifo_some hc
    cases hc
    have hu : P.underlying t = some (.slice e) := by
      unfold elemT at h1
      split at h1
      · cases h1; assumption
      · cases h1
    exact (op_mks hs hG hop hu h2 h3 h4 h5 h).wp hk
  | fieldAddr t x i =>
    rw [hop] at hc
    obtain ⟨s, h1, hc⟩ := o2_some hc
    obtain ⟨x', h2, hc⟩ := o2_some hc
    split at hc
    · rename_i fs hu
      split at hc
      · rename_i f e hf he
        obtain ⟨h3, hc⟩ := ifo_some hc
        cases hc
        simp only [Bool.and_eq_true, beq_iff_eq] at h3
        obtain ⟨⟨h4, h5⟩, h6⟩ := h3
        split at h5
        · rename_i inf hi
          exact (op_faddr hs hG hop hu hf he h4 hi (by simpa using h5) (by simpa using h6) h2 h).wp hk
        · cases h5
      · cases hc
    · cases hc
  | field t x i =>
    rw [hop] at hc
    obtain ⟨s, h1, hc⟩ := o2_some hc
    obtain ⟨x', h2, hc⟩ := o2_some hc
    split at hc
    · rename_i fs hu
      split at hc
      · rename_i f e hf he
        obtain ⟨h3, hc⟩ := ifo_some hc
        cases hc
        simp only [Bool.and_eq_true, beq_iff_eq] at h3
        exact (op_field hs hG hop hu hf he h3.1.1 h3.1.2 h3.2 h2 h).wp hk
      · cases hc
    · cases hc
  | indexAddr t x i =>
    rw [hop] at hc
    obtain ⟨x', h1, hc⟩ := o2_some hc
    obtain ⟨i', h2, hc⟩ := o2_some hc
    split at hc
    · rename_i m e hu
      obtain ⟨s, h3, hc⟩ := o2_some hc
      cases hc
      exact (op_iaddrA hs hG hop hu h3 h1 h2 h).wp hk
    · rename_i e hu
      obtain ⟨s, h3, hc⟩ := o2_some hc
      cases hc
      exact (op_iaddrS hs hG hop hu h3 h1 h2 h).wp hk
    · cases hc
  | index t x i =>
    rw [hop] at hc
    obtain ⟨x', h1, hc⟩ := o2_some hc
    obtain ⟨i', h2, hc⟩ := o2_some hc
    split at hc
    · rename_i m e hu
      obtain ⟨s, h3, hc⟩ := o2_some hc
      obtain ⟨h4, hc⟩ := ifo_some hc
      cases hc
      exact (op_index hs hG hop hu h3 h4 h1 h2 h).wp hk
    · rename_i hu
      cases hc
      exact (op_sindex hs hG hop hu h1 h2 h).wp hk
    · cases hc
  | slice t x lo hi mx =>
    rw [hop] at hc
    obtain ⟨x', h1, hc⟩ := o2_some hc
    obtain ⟨lo', h2, hc⟩ := o2_some hc
    obtain ⟨hi', h3, hc⟩ := o2_some hc
    obtain ⟨mx', h4, hc⟩ := o2_some hc
    have hmn : (mx'.isNone || hi'.isSome) = true → (mx.isSome = true → hi.isSome = true) := by
      intro hq hm
      cases mx with
      | none => simp at hm
      | some m =>
        cases hi with
        | some _ => rfl
        | none =>
          simp [cXo] at h3
          subst h3
          simp only [cXo] at h4
          split at h4
          · cases h4; simp at hq
          · cases h4
    split at hc
    · rename_i m e hu
      obtain ⟨s, h5, hc⟩ := o2_some hc
      obtain ⟨h6, hc⟩ := ifo_some hc
      cases hc
      exact (op_slicea hs hG hop hu h5 h1 h2 h3 h4 (hmn h6) h).wp hk
    · rename_i e hu
      obtain ⟨s, h5, hc⟩ := o2_some hc
      obtain ⟨h6, hc⟩ := ifo_some hc
      cases hc
      exact (op_slice hs hG hop hu h5 h1 h2 h3 h4 (hmn h6) h).wp hk
    · rename_i hu
      obtain ⟨h6, hc⟩ := ifo_some hc
      cases hc
      have : mx = none := by
        cases mx with
        | none => rfl
        | some m =>
          simp only [cXo] at h4
          split at h4
          · cases h4; simp at h6
          · cases h4
      subst this
      exact (op_sslice hs hG hop hu h1 h2 h3 h).wp hk
    · cases hc
  | extract x i =>
    rw [hop] at hc
    obtain ⟨x', h2, hc⟩ := o2_some hc
    cases hc
    exact (op_ext hs hG hop h2 h).wp hk
  | call c =>
    rw [hop] at hc
    have hc' : cCall P c = some ao := hc
    unfold cCall at hc'
    split at hc'
    · rename_i f hcal
      obtain ⟨fn, h1, hc'⟩ := o2_some hc'
      cases hbs : fn.body.isSome with
      | true =>
        rw [hbs] at hc'
        obtain ⟨h2, hc'⟩ := ifo_some hc'
        obtain ⟨l, h3, hc'⟩ := o2_some hc'
        cases hc'
        exact op_call hs hG hG0 hC hop hcal h1 hbs h2 h3 h hk
      | false =>
        rw [hbs] at hc'
        obtain ⟨h2, hc'⟩ := ifo_some hc'
        simp only [Bool.and_eq_true, beq_iff_eq] at h2
        split at hc'
        · rename_i x t hx ht
          split at hc'
          · rename_i e hu
            obtain ⟨h3, hc'⟩ := ifo_some hc'
            obtain ⟨x', h4, hc'⟩ := o2_some hc'
            cases hc'
            exact (op_mnz hs hG hop hcal h1 hbs h2.1 h2.2 hx ht hu (by simpa using h3) h4 h).wp hk
          · cases hc'
        · cases hc'
    · rename_i t hcal
      obtain ⟨l, h1, hc'⟩ := o2_some hc'
      cases hc'
      exact op_callv hs hG hG0 hC hop hcal h1 h hk
    · rename_i hcal
      split at hc'
      · rename_i x t ts hx ht
        obtain ⟨x', h1, hc'⟩ := o2_some hc'
        split at hc'
        · rename_i e hu; cases hc'; exact (op_len hs hG hop hcal hx ht hu h1 h).wp hk
        · rename_i hu; cases hc'; exact (op_strlen hs hG hop hcal hx ht hu h1 h).wp hk
        · rename_i m e hu; cases hc'; exact (op_lena hs hop hcal hx ht hu h).wp hk
        · cases hc'
      · cases hc'
    · rename_i hcal
      split at hc'
      · rename_i x y t u hx ht
        obtain ⟨x', h1, hc'⟩ := o2_some hc'
        obtain ⟨y', h2, hc'⟩ := o2_some hc'
        obtain ⟨e, h3, hc'⟩ := o2_some hc'
        obtain ⟨s, h4, hc'⟩ := o2_some hc'
        obtain ⟨z, h5, hc'⟩ := o2_some hc'
        obtain ⟨h6, hc'⟩ := ifo_some hc'
        simp only [Bool.and_eq_true] at h6
        have hu : P.underlying t = some (.slice e) := by
          unfold elemT at h3
          split at h3
          · cases h3; assumption
          · cases h3
        split at hc'
        · rename_i e' hu1
          obtain ⟨_, hc'⟩ := ifo_some hc'
          cases hc'
          exact (op_append hs hG hop hcal hx ht hu (.inl ⟨e', hu1⟩) h4 h5 h1 h2 h).wp hk
        · rename_i hu1
          obtain ⟨_, hc'⟩ := ifo_some hc'
          cases hc'
          exact (op_append hs hG hop hcal hx ht hu (.inr hu1) h4 h5 h1 h2 h).wp hk
        · rename_i kd hu1
          cases hc'
          exact (op_appendz hs hG hop hcal hx ht hu hu1 h4 h5 (by simpa using h6.1) h1 h2 h).wp hk
        · cases hc'
      · cases hc'
    · rename_i hcal
      split at hc'
      · rename_i x y t u hx ht
        obtain ⟨x', h1, hc'⟩ := o2_some hc'
        obtain ⟨y', h2, hc'⟩ := o2_some hc'
        obtain ⟨e, h3, hc'⟩ := o2_some hc'
        obtain ⟨s, h4, hc'⟩ := o2_some hc'
        obtain ⟨h6, hc'⟩ := ifo_some hc'
        have hu : P.underlying t = some (.slice e) := by
          unfold elemT at h3
          split at h3
          · cases h3; assumption
          · cases h3
        split at hc'
        · obtain ⟨_, hc'⟩ := ifo_some hc'
          cases hc'
          exact (op_copy hs hG hop hcal hx ht hu h4 h1 h2 h).wp hk
        · obtain ⟨_, hc'⟩ := ifo_some hc'
          cases hc'
          exact (op_copy hs hG hop hcal hx ht hu h4 h1 h2 h).wp hk
        · cases hc'
      · cases hc'
    · rename_i hcal
      obtain ⟨l, h1, hc'⟩ := o2_some hc'
      cases hc'
      exact (op_minmax hs hG (mx := false) hop hcal h1 h).wp hk
    · rename_i hcal
      obtain ⟨l, h1, hc'⟩ := o2_some hc'
      cases hc'
      exact (op_minmax hs hG (mx := true) hop hcal h1 h).wp hk
    · cases hc'
  | _ => rw [hop] at hc; cases hc

end Go.Am
