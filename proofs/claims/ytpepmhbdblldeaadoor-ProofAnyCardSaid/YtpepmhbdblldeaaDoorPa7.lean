import Derived.Test.YtpepmhbdblldeaaDoorPa6
import Derived.Orders
namespace Go.Am
set_option linter.unusedVariables false
set_option linter.unusedSimpArgs false
variable {C : Ctx} {P : Program} {n : Nat} {ρ : Pl} {T : Nat → Prop} {env : Env} {rows : Rows} {a : Act} {w : World}
theorem shiftRows_len (k : Nat) : ∀ (l : Rows), (shiftRows k l).length = l.length
 | [] => rfl
 | some ⟨s, els⟩ :: l => by simp [shiftRows, shiftRows_len k l]
 | none :: l => by simp [shiftRows, shiftRows_len k l]
theorem live_shift (k : Nat) : ∀ (l : Rows) (r : Nat) (row : Row), live (shiftRows k l) r = some row → ∃ row', live l r = some row' ∧ row = ⟨row'.sh, bif row'.sh.pure then row'.els else shiftL k row'.els⟩
 | [], r, row, h => by simp [shiftRows, live] at h
 | some ⟨s, els⟩ :: l, 0, row, h => by
  simp [shiftRows, live] at h
  exact ⟨⟨s, els⟩, by simp [live], h.symm⟩
 | some ⟨s, els⟩ :: l, r + 1, row, h => by
  have := live_shift k l r row (by simpa [shiftRows, live] using h)
  simpa [live] using this
 | none :: l, 0, row, h => by simp [shiftRows, live] at h
 | none :: l, r + 1, row, h => by
  have := live_shift k l r row (by simpa [shiftRows, live] using h)
  simpa [live] using this
theorem call_join (hs : Sim n ρ T env rows a w) {ρ' : Pl} {T0 T' T'' : Nat → Prop} {rows' : Rows} {w' : World} (hst : Step noPl T0 [] w ρ' T' rows' w') (hdom : ∀ r, rows'.length ≤ r → ρ' r = none)
  (hdist : ∀ r r' row row' L L', live rows' r = some row → live rows' r' = some row' → ρ' r = some L → ρ' r' = some L' → r ≠ r' → L.b ≠ L'.b)
  (t1 : ∀ b, T b → T'' b) (t2 : ∀ b, T'' b → T b ∨ w.heap.size ≤ b) (t3 : ∀ b, T'' b → b < w'.heap.size)
  (hnew : ∀ r row L, live rows' r = some row → ρ' r = some L → RowOK (joinPl rows.length ρ ρ') ⟨row.sh, bif row.sh.pure then row.els else shiftL rows.length row.els⟩ L w' T'') :
  Sim n (joinPl rows.length ρ ρ') T'' env (rows ++ shiftRows rows.length rows') a w' ∧ Step ρ T rows w (joinPl rows.length ρ ρ') T'' (rows ++ shiftRows rows.length rows') w' := by
 have hkeep : ∀ b, b < w.heap.size → w'.heap[b]? = w.heap[b]? := fun b hb => hst.keep b hb (by intro r row L hl; simp [live] at hl)
 have hTw : ∀ b, T b → w'.heap[b]? = w.heap[b]? := fun b hb => hkeep b (hs.tlt b hb)
 have hpl : ∀ r L, ρ r = some L → joinPl rows.length ρ ρ' r = some L := by
  intro r L hL
  have : r < rows.length := by
   rcases Nat.lt_or_ge r rows.length with h | h
   ·exact h
   ·rw [hs.dom r h] at hL; cases hL
  simp [joinPl, this, hL]
 have hnb : ∀ r row L, live rows' r = some row → ρ' r = some L → w.heap.size ≤ L.b := by
  intro r row L h1 h2
  rcases hst.fresh r row L h1 h2 with ⟨r0, row0, L0, h3, _⟩ | h3
  ·simp [live] at h3
  ·exact h3
 have hsplit : ∀ r row L, live (rows ++ shiftRows rows.length rows') r = some row → joinPl rows.length ρ ρ' r = some L →
   (r < rows.length ∧ live rows r = some row ∧ ρ r = some L) ∨ (rows.length ≤ r ∧ ∃ row', live rows' (r - rows.length) = some row' ∧ ρ' (r - rows.length) = some L ∧ row = ⟨row'.sh, bif row'.sh.pure then row'.els else shiftL rows.length row'.els⟩) := by
  intro r row L h1 h2
  by_cases hr : r < rows.length
  ·left
   refine ⟨hr, ?_, by simpa [joinPl, hr] using h2⟩
   unfold live at h1 ⊢
   rwa [List.getElem?_append_left hr] at h1
  ·right
   have h1' : live (shiftRows rows.length rows') (r - rows.length) = some row := by
    unfold live at h1 ⊢
    rwa [List.getElem?_append_right (by omega)] at h1
   obtain ⟨row', h3, h4⟩ := live_shift _ _ _ _ h1'
   exact ⟨by omega, row', h3, by simpa [joinPl, hr] using h2, h4⟩
 refine ⟨⟨⟨?_, ?_⟩, hs.env.mono hpl hTw t1, hs.size, t3, ?_, hs.defers⟩, ⟨hpl, t1, fun b hb => (t2 b hb).imp_right .inl, hst.size, fun b hb _ => hkeep b hb, ?_, hst.os, hst.tape, hst.output, by simp, fun r hr => by simp [joinPl, hr]⟩⟩
 ·intro r row L h1 h2
  rcases hsplit r row L h1 h2 with ⟨h3, h4, h5⟩ | ⟨h3, row', h4, h5, rfl⟩
  ·have hr := hs.rowsOK.row r row L h4 h5
   refine hr.mono hpl hTw t1 (hkeep _ hr.lt) (fun h => ?_)
   rcases t2 _ h with h | h
   ·exact hr.notT h
   ·have := hr.lt; omega
  ·exact hnew _ row' L h4 h5
 ·intro r r' row row' L L' h1 h2 h3 h4 hne
  rcases hsplit r row L h1 h3 with ⟨g1, g2, g3⟩ | ⟨g1, q1, g2, g3, _⟩
  ·rcases hsplit r' row' L' h2 h4 with ⟨k1, k2, k3⟩ | ⟨k1, q2, k2, k3, _⟩
   ·exact hs.rowsOK.dist r r' row row' L L' g2 k2 g3 k3 hne
   ·have := (hs.rowsOK.row r row L g2 g3).lt
    have := hnb _ _ _ k2 k3
    omega
  ·rcases hsplit r' row' L' h2 h4 with ⟨k1, k2, k3⟩ | ⟨k1, q2, k2, k3, _⟩
   ·have := (hs.rowsOK.row r' row' L' k2 k3).lt
    have := hnb _ _ _ g2 g3
    omega
   ·exact hdist _ _ q1 q2 L L' g2 k2 g3 k3 (by omega)
 ·intro r hr
  rw [List.length_append, shiftRows_len] at hr
  simp only [joinPl, show ¬ r < rows.length by omega, if_false]
  exact hdom _ (by omega)
 ·intro r row L h1 h2
  rcases hsplit r row L h1 h2 with ⟨h3, h4, h5⟩ | ⟨h3, row', h4, h5, rfl⟩
  ·exact .inl ⟨r, row, L, h4, h5, rfl⟩
  ·exact .inr (hnb _ _ _ h4 h5)
theorem noLstRows_pure : ∀ {l : Rows} {r : Nat} {row : Row}, noLstRows l = true → live l r = some row → row.sh.pure = true
 | [], r, row, _, h => by simp [live] at h
 | some ⟨s, els⟩ :: l, 0, row, hn, h => by
  simp [live] at h
  subst h
  simp [noLstRows] at hn
  exact hn.1
 | some ⟨s, els⟩ :: l, r + 1, row, hn, h => by
  simp [noLstRows] at hn
  exact noLstRows_pure (r := r) hn.2 (by simpa [live] using h)
 | none :: l, 0, row, hn, h => by simp [live] at h
 | none :: l, r + 1, row, hn, h => noLstRows_pure (l := l) (r := r) (by simpa [noLstRows] using hn) (by simpa [live] using h)
def Cont (C : Ctx) (n : Nat) (ρ : Pl) (T : Nat → Prop) (env : Env) (rows : Rows) (a : Act) (w : World) (o : Oper) (k : D → Rows → Prop) (next : Act → World → Prop) : Prop :=
 ∀ d rows' ρ' T' v w', k d rows' → Sim n ρ' T' env rows' a w' → Step ρ T rows w ρ' T' rows' w' → VR ρ' w' T' d v → ((∀ f, C.fnr f = none) → quietOp o.op = true → QH ρ rows w w' ∧ ∀ b, T' b → T b ∨ w.heap.size ≤ b) → next (a.put o.dst v) w'
theorem OpGoal.wp {o : Oper} {k : D → Rows → Prop} {next : Act → World → Prop} {Q : Exit → Act → World → Prop} (h : OpGoal P n o ρ T env rows a w k) (hc : Cont C n ρ T env rows a w o k next) : o.wp P a w next Q := by
 obtain ⟨d, rows', ρ', T', v, w', h1, h2, h3, h4, h5, h6⟩ := h
 unfold Oper.wp
 rcases h5 with h5 | ⟨h5, rfl⟩
 ·rw [h5]; exact hc d rows' ρ' T' v w' h1 h2 h3 h4 (fun _ => h6)
 ·rw [h5]; exact hc d rows' ρ' T' undef w' h1 h2 h3 h4 (fun _ => h6)
theorem mapO_view (hr : RowsOK ρ rows w T) {k : Nat} : ∀ {ds ds' : List D} {vs : List Value}, mapO (view rows k) ds = some ds' → All2 (VR ρ w T) ds vs → All2 (VR noPl w (Blk ρ T rows)) ds' vs := by
 intro ds ds' vs h hv
 obtain ⟨g1, g2⟩ := mapO_get h
 refine ⟨by rw [g1, hv.len], fun i x y hx hy => ?_⟩
 have hi : i < ds.length := by have := lt_of_get hx; omega
 have hd := List.getElem?_eq_getElem hi
 exact view_VR hr (g2 i _ x hd hx) (hv.at_ i _ y hd hy)
theorem op_callD (hs : Sim n ρ T env rows a w) (hG0 : ∀ g d, C.glob g = some d → LR noPl w T (.cptr d) (.pointer (some ⟨g, 0, none⟩))) (hC : CtxOK C P) {o : Oper} {k : D → Rows → Prop} {next : Act → World → Prop} {Q : Exit → Act → World → Prop}
  {f : FuncId} {ds : List D} {vs : Array Value} (hvl : All2 (VR ρ w T) ds vs.toList) (hrun : (execOp a.eval o).run P w = .ok (.enter f vs) w) (k2 : aCall C rows f ds k) (hk : Cont C n ρ T env rows a w o k next) : o.wp P a w next Q := by
 unfold Oper.wp
 rw [hrun, Oper.upon_enter]
 unfold aCall at k2
 cases hA : C.fn f with
 | none =>
  rw [hA] at k2
  obtain ⟨A, hAr, k3⟩ := bnd_some k2
  have hold : ∀ {ρ' T' rows' w'}, Step ρ T rows w ρ' T' rows' w' → ∀ b, T b → w'.heap[b]? = w.heap[b]? := fun hst b hb =>
   hst.keep b (hs.tlt b hb) (fun r row L g1 g2 e => (hs.rowsOK.row r row L g1 g2).notT (e ▸ hb))
  unfold Ctx.fnrq at hAr
  cases hr : C.fnr f with
  | some A' =>
   rw [hr] at hAr
   cases hAr
   refine (hC.2.1 f A hr ds rows k k3 ρ w T vs hs.rowsOK hs.dom hs.tlt hvl hG0).mono ?_
   rintro e w' ⟨v, d, rows', ρ', T', rfl, hkd, hrows, hdom, htlt, hst, hvr⟩
   exact hk d rows' ρ' T' v w' hkd ⟨hrows, hs.env.mono hst.pl (hold hst) hst.tt, hs.size, htlt, hdom, hs.defers⟩ hst hvr (fun hn => by rw [hn] at hr; cases hr)
  | none =>
   rw [hr] at hAr
   cases hq : C.fnq f with
   | none => rw [hq] at hAr; cases hAr
   | some q =>
    rw [hq] at hAr
    cases hAr
    refine (hC.2.2 f q hq ds rows k k3 ρ w T vs hs.rowsOK hs.dom hs.tlt hvl hG0).mono ?_
    rintro e w' ⟨v, d, rows', ρ', T', rfl, hkd, hrows, hdom, htlt, hst, hvr, hqh, htn⟩
    exact hk d rows' ρ' T' v w' hkd ⟨hrows, hs.env.mono hst.pl (hold hst) hst.tt, hs.size, htlt, hdom, hs.defers⟩ hst hvr (fun _ _ => ⟨hqh, htn⟩)
 | some A =>
 rw [hA] at k2
 simp only at k2
 have hM := hC.1 f A hA
 cases hh : hasRefL ds with
 | true =>
  obtain ⟨ds', hview, hA'⟩ := bnd_some (k2.1 hh)
  have hkeep : ∀ {ρ' T' rows' w'} {T0 : Nat → Prop}, Step noPl T0 [] w ρ' T' rows' w' → ∀ b, b < w.heap.size → w'.heap[b]? = w.heap[b]? := fun hst b hb => hst.keep b hb (by intro r row L hl; simp [live] at hl)
  have hargs := mapO_view hs.rowsOK hview hvl
  refine (hM ds' [] (fun d rows' => (noLst d && noLstRows rows') = true ∧ k (shift rows.length d) (rows ++ shiftRows rows.length rows')) hA' noPl w (Blk ρ T rows) _ ⟨by intro r row L hl; simp [live] at hl, by intro r r' row row' L L' hl; simp [live] at hl⟩ (fun _ _ => rfl) ?_ hargs ?_).mono ?_
  ·rintro b (h | ⟨r, row, L, g1, g2, rfl⟩)
   ·exact hs.tlt b h
   ·exact (hs.rowsOK.row r row L g1 g2).lt
  ·intro g d hd
   exact (hG0 g d hd).mono (fun _ _ h => h) (fun _ _ => rfl) (fun b hb => .inl hb)
  ·rintro e w' ⟨v, d, rows', ρ', T', rfl, ⟨hno, hkd⟩, hrows, hdom, htlt, hst, hvr⟩
   simp only [Bool.and_eq_true] at hno
   have hnew : ∀ r row L, live rows' r = some row → ρ' r = some L → RowOK (joinPl rows.length ρ ρ') ⟨row.sh, bif row.sh.pure then row.els else shiftL rows.length row.els⟩ L w' T := by
    intro r row L g1 g2
    have hr := hrows.row r row L g1 g2
    have hp := noLstRows_pure hno.2 g1
    rw [hp]
    refine ⟨hr.sh, fun hT => ?_, hr.els, fun hm => ?_, hr.mcells⟩
    rotate_left
    ·obtain ⟨cur, t, q1, q2, q3, q4⟩ := hr.cells hm
     exact ⟨cur, t, q1, q2, q3, q4.ofRaw (pure_flatL hr.els hp)⟩
    rcases hst.fresh r row L g1 g2 with ⟨r0, row0, L0, h3, _⟩ | h3
    ·simp [live] at h3
    ·have := hs.tlt _ hT; omega
   obtain ⟨g1, g2⟩ := call_join hs hst hdom hrows.dist (fun _ h => h) (fun _ h => .inl h) (fun b hb => Nat.lt_of_lt_of_le (hs.tlt b hb) hst.size) hnew
   refine hk _ _ _ _ v w' hkd g1 g2 ?_ (fun _ _ => ⟨fun b hb => .inl (hkeep hst b hb), fun _ h => .inl h⟩)
   exact ((hvr.noLst (T' := T) (w' := w') hno.1).shift rows.length ρ)
 | false =>
  have hA' := k2.2 hh
  have hkeep : ∀ {ρ' T' rows' w'} {T0 : Nat → Prop}, Step noPl T0 [] w ρ' T' rows' w' → ∀ b, b < w.heap.size → w'.heap[b]? = w.heap[b]? := fun hst b hb => hst.keep b hb (by intro r row L hl; simp [live] at hl)
  have hargs : All2 (VR noPl w T) ds vs.toList := ⟨hvl.len, fun i x y hx hy => (hvl.at_ i x y hx hy).closed (hasRefL_mem hh x (mem_of_get hx))⟩
  refine (hM ds [] (fun d rows' => k (shift rows.length d) (rows ++ shiftRows rows.length rows')) hA' noPl w T _ ⟨by intro r row L hl; simp [live] at hl, by intro r r' row row' L L' hl; simp [live] at hl⟩ (fun _ _ => rfl) hs.tlt hargs hG0).mono ?_
  rintro e w' ⟨v, d, rows', ρ', T', rfl, hkd, hrows, hdom, htlt, hst, hvr⟩
  have hnew : ∀ r row L, live rows' r = some row → ρ' r = some L → RowOK (joinPl rows.length ρ ρ') ⟨row.sh, bif row.sh.pure then row.els else shiftL rows.length row.els⟩ L w' T' := by
   intro r row L g1 g2
   have hr := hrows.row r row L g1 g2
   cases hp : row.sh.pure with
   | true =>
    refine ⟨hr.sh, hr.notT, hr.els, fun hm => ?_, hr.mcells⟩
    obtain ⟨cur, t, q1, q2, q3, q4⟩ := hr.cells hm
    exact ⟨cur, t, q1, q2, q3, q4.ofRaw (pure_flatL hr.els hp)⟩
   | false =>
    simp only [cond_false]
    obtain ⟨z1, z2⟩ := shift_shL (k := rows.length) hr.els
    refine ⟨hr.sh, hr.notT, z1, fun hm => ?_, fun hm => ?_⟩
    ·obtain ⟨cur, t, q1, q2, q3, q4⟩ := hr.cells hm
     have q5 := q4.shift rows.length ρ
     have zl : (flatL (shiftL rows.length row.els)).length = (flatL row.els).length := by rw [z2, List.length_map]
     exact ⟨cur, t, q1, q2, by rw [zl]; exact q3, by simp only [zl]; rw [z2]; exact q5⟩
    ·obtain ⟨es, clock, h1, h2⟩ := hr.mcells hm
     rw [h2.pure] at hp
     cases hp
  obtain ⟨g1, g2⟩ := call_join hs hst hdom hrows.dist hst.tt hst.tnew0 htlt hnew
  exact hk _ _ _ _ v w' hkd g1 g2 (hvr.shift rows.length ρ) (fun _ _ => ⟨fun b hb => .inl (hkeep hst b hb), hst.tnew0⟩)
theorem run_enter {f : FuncId} {fn : Func} {o : Oper} {c : Call} (ho : o.op = .call c) (hf : P.funcs[f]? = some fn) (hb : fn.body.isSome = true) (hn : (fn.name != "runtime.NumGoroutine") = true)
  (hc : c.callee = .value (.func f) ∨ ∃ t, c.callee = .value (.tmp t) ∧ a.eval (.tmp t) = .func (.func f) #[] #[]) : (execOp a.eval o).run P w = .ok (.enter f (c.args.map a.eval)) w := by
 have hn' : ¬ fn.name = "runtime.NumGoroutine" := by simpa using hn
 cases hq : fn.body with
 | none => simp [hq] at hb
 | some b =>
  rcases hc with hc | ⟨t, hc, ht⟩
  ·simp [execOp, ho, resolve, hc, Act.eval, Deferred.ofValue, invoke, callFunc, hf, hn', hq]
  ·simp [execOp, ho, resolve, hc, ht, Deferred.ofValue, invoke, callFunc, hf, hn', hq]
theorem op_call (hs : Sim n ρ T env rows a w) (hG : Glob C ρ w T) (hG0 : ∀ g d, C.glob g = some d → LR noPl w T (.cptr d) (.pointer (some ⟨g, 0, none⟩))) (hC : CtxOK C P) {o : Oper} {k : D → Rows → Prop} {next : Act → World → Prop} {Q : Exit → Act → World → Prop}
  {c : Call} {f : FuncId} {fn : Func} {l' : List X} (ho : o.op = .call c) (hc : c.callee = .value (.func f)) (hf : P.funcs[f]? = some fn) (hb : fn.body.isSome = true) (hn : (fn.name != "runtime.NumGoroutine") = true)
  (h1 : cXs c.args.toList = some l') (h : aop C env rows (.call f l') k) (hk : Cont C n ρ T env rows a w o k next) : o.wp P a w next Q := by
 obtain ⟨ds, hds, k2⟩ := bnd_some h
 have hv := evs_sound hs hG h1 hds
 exact op_callD hs hG0 hC (by simpa using hv) (run_enter ho hf hb hn (.inl hc)) k2 hk
theorem memB_mem {f : Nat} : ∀ {l : List Nat}, memB f l = true → f ∈ l
 | [], h => by cases h
 | x :: l, h => by
  unfold memB at h
  cases hb : (x == f) with
  | true =>
   have : x = f := by simpa using hb
   subst this; exact List.mem_cons_self ..
  | false => rw [hb] at h; exact List.mem_cons_of_mem _ (memB_mem h)
theorem closF_mem {c : Call} {f : Nat} (h : f ∈ closF P c) : ∃ fn, P.funcs[f]? = some fn ∧ fn.body.isSome = true ∧ (fn.name != "runtime.NumGoroutine") = true := by
 unfold closF at h
 have h2 := (List.mem_filter.1 h).2
 split at h2
 ·rename_i fn hf
  simp only [Bool.and_eq_true] at h2
  exact ⟨fn, hf, h2.1.2, h2.2⟩
 ·cases h2
theorem op_callv (hs : Sim n ρ T env rows a w) (hG : Glob C ρ w T) (hG0 : ∀ g d, C.glob g = some d → LR noPl w T (.cptr d) (.pointer (some ⟨g, 0, none⟩))) (hC : CtxOK C P) {o : Oper} {k : D → Rows → Prop} {next : Act → World → Prop} {Q : Exit → Act → World → Prop}
  {c : Call} {t : Nat} {l' : List X} (ho : o.op = .call c) (hc : c.callee = .value (.tmp t)) (h1 : cXs c.args.toList = some l') (h : aop C env rows (.callv (closF P c) (.tmp t) l') k) (hk : Cont C n ρ T env rows a w o k next) : o.wp P a w next Q := by
 obtain ⟨d, hd, h2⟩ := bnd_some h
 have hv0 := ev_sound (x := .tmp t) rfl hd hs hG
 split at h2
 ·rename_i f c1 c2
  obtain ⟨rfl, rfl, hf, h3⟩ := h2
  obtain ⟨ds, hds, k2⟩ := bnd_some h3
  have hv := evs_sound hs hG h1 hds
  obtain ⟨fn, g1, g2, g3⟩ := closF_mem (memB_mem hf)
  exact op_callD hs hG0 hC (by simpa using hv) (run_enter ho g1 g2 g3 (.inr ⟨t, hc, hv0.ofRaw⟩)) k2 hk
 ·exact h2.elim
theorem op_lena (hs : Sim n ρ T env rows a w) {o : Oper} {k : D → Rows → Prop} {c : Call} {x : Operand} {t e : TypeId} {m : Nat} {ts : List TypeId} (ho : o.op = .call c) (hc : c.callee = .builtin .len) (ha : c.args.toList = [x])
  (hts : c.argTypes.toList = t :: ts) (hu : P.underlying t = some (.array m e)) (h : aop C env rows (.mv (.const (.int .i64 m))) k) : OpGoal P n o ρ T env rows a w k := by
 have hk : k (.raw (.int .i64 m)) rows := h
 have hargs : c.args = #[x] := by apply Array.ext'; simpa using ha
 have hat0 : c.argTypes[0]? = some t := by
  have : c.argTypes.toList[0]? = some t := by rw [hts]; rfl
  simpa using this
 refine .here hs hk (VR.raw rfl) ?_
 rw [exec_builtin ho hc]
 simp [builtin, Builtin.len_, hargs, hat0, run_underlying hu, goInt]
theorem op_sound (hs : Sim n ρ T env rows a w) (hG0 : ∀ g d, C.glob g = some d → LR noPl w T (.cptr d) (.pointer (some ⟨g, 0, none⟩))) (hC : CtxOK C P) {o : Oper} {ao : AOp} {k : D → Rows → Prop} {next : Act → World → Prop} {Q : Exit → Act → World → Prop}
  (hc : cOp P o.op = some ao) (h : aop C env rows ao k) (hk : Cont C n ρ T env rows a w o k next) : o.wp P a w next Q := by
 unfold cOp at hc
 split at hc
 case h_2 => cases hc; exact h.elim
 rename_i a0 hc0
 cases hc
 replace hc := hc0
 clear hc0
 have hG : Glob C ρ w T := fun g d hd => (hG0 g d hd).mono (by intro r L h; cases h) (fun _ _ => rfl) (fun _ h => h)
 cases hop : o.op with
 | move x =>
  rw [hop] at hc
  obtain ⟨x', h1, h2⟩ := o2_some hc
  cases h2
  exact (op_mv hs hG (.inl hop) h1 h).wp hk
 | assign x =>
  rw [hop] at hc
  obtain ⟨x', h1, h2⟩ := o2_some hc
  cases h2
  exact (op_mv hs hG (.inr hop) h1 h).wp hk
 | pick x y z =>
  rw [hop] at hc
  obtain ⟨x', h1, hc⟩ := o2_some hc
  obtain ⟨y', h2, hc⟩ := o2_some hc
  obtain ⟨z', h3, hc⟩ := o2_some hc
  cases hc
  exact (op_pick hs hG hop h1 h2 h3 h).wp hk
 | alloc t =>
  rw [hop] at hc
  obtain ⟨s, h1, hc⟩ := o2_some hc
  obtain ⟨z, h2, hc⟩ := o2_some hc
  obtain ⟨_, hc⟩ := ifo_some hc
  cases hc
  exact (op_alloc hs hop h1 h2 h).wp hk
 | box t x =>
  rw [hop] at hc
  obtain ⟨s, h1, hc⟩ := o2_some hc
  obtain ⟨x', h2, hc⟩ := o2_some hc
  cases hc
  exact (op_box hs hG hop h2 h).wp hk
 | build t parts =>
  rw [hop] at hc
  obtain ⟨s, h1, hc⟩ := o2_some hc
  obtain ⟨z, h2, hc⟩ := o2_some hc
  obtain ⟨ps, h3, hc⟩ := o2_some hc
  split at hc
  ·rename_i fs hu
   obtain ⟨h4, hc⟩ := ifo_some hc
   cases hc
   simp only [Bool.and_eq_true, beq_iff_eq] at h4
   obtain ⟨⟨⟨⟨_, h5⟩, h6⟩, h7⟩, h8⟩ := h4
   exact (op_buildS hs hG hop h1 h2 hu h3 h5 h6 h7 h8 h).wp hk
  ·rename_i m e hu
   obtain ⟨se, h4, hc⟩ := o2_some hc
   obtain ⟨h5, hc⟩ := ifo_some hc
   cases hc
   simp only [Bool.and_eq_true, beq_iff_eq] at h5
   exact (op_buildA hs hG hop h1 h2 hu h3 h5.1.2 h4 h5.2 h).wp hk
  ·cases hc
 | buildSlice t m parts =>
  rw [hop] at hc
  obtain ⟨e, h1, hc⟩ := o2_some hc
  obtain ⟨s, h2, hc⟩ := o2_some hc
  obtain ⟨z, h3, hc⟩ := o2_some hc
  obtain ⟨ps, h4, hc⟩ := o2_some hc
  obtain ⟨h5, hc⟩ := ifo_some hc
  cases hc
  simp only [Bool.and_eq_true] at h5
  have hu : P.underlying t = some (.slice e) := by
   unfold elemT at h1
   split at h1
   ·cases h1; assumption
   ·cases h1
  exact (op_bslice hs hG hop hu h2 h3 h4 (by simpa using h5.1.2) (Nat.le_of_ble_eq_true h5.2) h).wp hk
 | load t x =>
  rw [hop] at hc
  obtain ⟨s, h1, hc⟩ := o2_some hc
  obtain ⟨x', h2, hc⟩ := o2_some hc
  obtain ⟨h3, hc⟩ := ifo_some hc
  cases hc
  exact (op_load hs hG hop h1 h3 h2 h).wp hk
 | store t x y =>
  rw [hop] at hc
  obtain ⟨s, h1, hc⟩ := o2_some hc
  obtain ⟨x', h2, hc⟩ := o2_some hc
  obtain ⟨y', h3, hc⟩ := o2_some hc
  cases hc
  exact (op_store hs hG hop h1 h2 h3 h).wp hk
 | nilCheck x =>
  rw [hop] at hc
  obtain ⟨x', h2, hc⟩ := o2_some hc
  cases hc
  exact (op_nilc hs hG hop h2 h).wp hk
 | binOp op t x y u =>
  rw [hop] at hc
  obtain ⟨x', h1, hc⟩ := o2_some hc
  obtain ⟨y', h2, hc⟩ := o2_some hc
  split at hc
  ·cases hc; exact (op_bin hs hG hop h1 h2 h).wp hk
  ·cases hc; exact (op_bin hs hG hop h1 h2 h).wp hk
  ·rename_i hu
   split at hc
   ·cases hc; exact (op_beq hs hG (neg := false) hop rfl hu h1 h2 h).wp hk
   ·cases hc; exact (op_beq hs hG (neg := true) hop rfl hu h1 h2 h).wp hk
   ·cases hc
  ·obtain ⟨s, h3, hc⟩ := o2_some hc
   obtain ⟨h4, hc⟩ := ifo_some hc
   simp only [Bool.and_eq_true, Bool.not_eq_true'] at h4
   split at hc
   ·cases hc; exact (op_eqa hs hG (neg := false) hop rfl h3 h4.1 h4.2 h1 h2 h).wp hk
   ·cases hc; exact (op_eqa hs hG (neg := true) hop rfl h3 h4.1 h4.2 h1 h2 h).wp hk
   ·cases hc
  ·obtain ⟨s, h3, hc⟩ := o2_some hc
   obtain ⟨h4, hc⟩ := ifo_some hc
   simp only [Bool.and_eq_true, Bool.not_eq_true'] at h4
   split at hc
   ·cases hc; exact (op_eqa hs hG (neg := false) hop rfl h3 h4.1 h4.2 h1 h2 h).wp hk
   ·cases hc; exact (op_eqa hs hG (neg := true) hop rfl h3 h4.1 h4.2 h1 h2 h).wp hk
   ·cases hc
  ·rename_i hu
   split at hc
   ·cases hc; exact (op_eqnil hs hG (neg := false) hop rfl hu h1 h2 h).wp hk
   ·cases hc; exact (op_eqnil hs hG (neg := true) hop rfl hu h1 h2 h).wp hk
   ·cases hc
  ·rename_i hu
   split at hc
   ·cases hc; exact (op_eqsn hs hG (neg := false) hop rfl hu h1 h2 h).wp hk
   ·cases hc; exact (op_eqsn hs hG (neg := true) hop rfl hu h1 h2 h).wp hk
   ·cases hc
  ·cases hc
 | sliceToArrayPointer t x =>
  rw [hop] at hc
  simp only [cOp0] at hc
  split at hc
  ·rename_i m e hu
   obtain ⟨s, h1, hc⟩ := o2_some hc
   obtain ⟨x', h2, hc⟩ := o2_some hc
   cases hc
   exact (op_s2a hs hG hop hu h2 h).wp hk
  ·cases hc
 | unOp op t x =>
  rw [hop] at hc
  obtain ⟨x', h2, hc⟩ := o2_some hc
  cases hc
  exact (op_un hs hG hop h2 h).wp hk
 | convert s t x =>
  rw [hop] at hc
  obtain ⟨x', h1, hc⟩ := o2_some hc
  split at hc
  ·rename_i hu1 hu2; cases hc; exact (op_conv hs hG hop hu1 hu2 h1 h).wp hk
  ·rename_i hu1 hu2; cases hc; exact (op_convS hs hG hop hu1 hu2 h1 h).wp hk
  ·rename_i hu1 hu2
   split at hc
   ·rename_i hu3; cases hc; exact (op_s2b hs hG hop hu1 hu2 hu3 h1 h).wp hk
   ·cases hc
  ·rename_i hu1 hu2
   split at hc
   ·rename_i hu3; cases hc; exact (op_b2s hs hG hop hu1 hu3 hu2 h1 h).wp hk
   ·cases hc
  ·rename_i hu1 hu2
   obtain ⟨hst, hc⟩ := ifo_some hc
   obtain ⟨s', h2, hc⟩ := o2_some hc
   obtain ⟨hs8, hc⟩ := ifo_some hc
   have hst' : s = t := by simpa using hst
   split at hc
   ·rename_i hu3
    cases hc
    rw [hst'] at hop
    exact (op_frzb hs hG hop hu2 hu3 h1 h).wp hk
   ·cases hc
  ·cases hc
 | makeSlice t l c =>
  rw [hop] at hc
  obtain ⟨e, h1, hc⟩ := o2_some hc
  obtain ⟨s, h2, hc⟩ := o2_some hc
  obtain ⟨z, h3, hc⟩ := o2_some hc
  obtain ⟨l', h4, hc⟩ := o2_some hc
  obtain ⟨c', h5, hc⟩ := o2_some hc
  obtain ⟨h6, hc⟩ := ifo_some hc
  cases hc
  have hu : P.underlying t = some (.slice e) := by
   unfold elemT at h1
   split at h1
   ·cases h1; assumption
   ·cases h1
  exact (op_mks hs hG hop hu h2 h3 h4 h5 h).wp hk
 | makeMap t r =>
  rw [hop] at hc
  cases r with
  | none =>
   obtain ⟨⟨ks, vs⟩, h1, hc⟩ := o2_some hc
   cases hc
   obtain ⟨kt, et, hu, h2, h3, h4, h5⟩ := mapSh_some h1
   exact (op_mkm hs hop h4 h5 h).wp hk
  | some _ => cases hc
 | mapUpdate t m x v =>
  rw [hop] at hc
  obtain ⟨⟨ks, vs⟩, h1, hc⟩ := o2_some hc
  obtain ⟨m', h6, hc⟩ := o2_some hc
  obtain ⟨x', h7, hc⟩ := o2_some hc
  obtain ⟨v', h8, hc⟩ := o2_some hc
  cases hc
  obtain ⟨kt, et, hu, h2, h3, h4, h5⟩ := mapSh_some h1
  exact (op_mset hs hG hop hu h4 h6 h7 h8 h).wp hk
 | lookup t m x ok =>
  rw [hop] at hc
  obtain ⟨⟨kt0, et0⟩, h0, hc⟩ := o2_some hc
  obtain ⟨⟨ks, vs⟩, h1, hc⟩ := o2_some hc
  obtain ⟨z, h5', hc⟩ := o2_some hc
  obtain ⟨m', h6, hc⟩ := o2_some hc
  obtain ⟨x', h7, hc⟩ := o2_some hc
  obtain ⟨hz, hc⟩ := ifo_some hc
  cases hc
  obtain ⟨kt, et, hu, h2, h3, h4, h5⟩ := mapSh_some h1
  have e0 : et0 = et := by
   unfold mapT at h0
   rw [hu] at h0
   cases h0
   rfl
  subst e0
  exact (op_mget hs hG hop hu h4 h3 h5' hz h5 h6 h7 h).wp hk
 | fieldAddr t x i =>
  rw [hop] at hc
  obtain ⟨s, h1, hc⟩ := o2_some hc
  obtain ⟨x', h2, hc⟩ := o2_some hc
  split at hc
  ·rename_i fs hu
   split at hc
   ·rename_i f e hf he
    obtain ⟨h3, hc⟩ := ifo_some hc
    cases hc
    simp only [Bool.and_eq_true, beq_iff_eq] at h3
    obtain ⟨⟨h4, h5⟩, h6⟩ := h3
    split at h5
    ·rename_i inf hi
     exact (op_faddr hs hG hop hu hf he h4 hi (by simpa using h5) (by simpa using h6) h2 h).wp hk
    ·cases h5
   ·cases hc
  ·cases hc
 | field t x i =>
  rw [hop] at hc
  obtain ⟨s, h1, hc⟩ := o2_some hc
  obtain ⟨x', h2, hc⟩ := o2_some hc
  split at hc
  ·rename_i fs hu
   split at hc
   ·rename_i f e hf he
    obtain ⟨h3, hc⟩ := ifo_some hc
    cases hc
    simp only [Bool.and_eq_true, beq_iff_eq] at h3
    exact (op_field hs hG hop hu hf he h3.1.1 h3.1.2 h3.2 h2 h).wp hk
   ·cases hc
  ·cases hc
 | indexAddr t x i =>
  rw [hop] at hc
  obtain ⟨x', h1, hc⟩ := o2_some hc
  obtain ⟨i', h2, hc⟩ := o2_some hc
  split at hc
  ·rename_i m e hu
   obtain ⟨s, h3, hc⟩ := o2_some hc
   cases hc
   exact (op_iaddrA hs hG hop hu h3 h1 h2 h).wp hk
  ·rename_i e hu
   obtain ⟨s, h3, hc⟩ := o2_some hc
   cases hc
   exact (op_iaddrS hs hG hop hu h3 h1 h2 h).wp hk
  ·cases hc
 | index t x i =>
  rw [hop] at hc
  obtain ⟨x', h1, hc⟩ := o2_some hc
  obtain ⟨i', h2, hc⟩ := o2_some hc
  split at hc
  ·rename_i m e hu
   obtain ⟨s, h3, hc⟩ := o2_some hc
   obtain ⟨h4, hc⟩ := ifo_some hc
   cases hc
   exact (op_index hs hG hop hu h3 h4 h1 h2 h).wp hk
  ·rename_i hu
   cases hc
   exact (op_sindex hs hG hop hu h1 h2 h).wp hk
  ·cases hc
 | slice t x lo hi mx =>
  rw [hop] at hc
  obtain ⟨x', h1, hc⟩ := o2_some hc
  obtain ⟨lo', h2, hc⟩ := o2_some hc
  obtain ⟨hi', h3, hc⟩ := o2_some hc
  obtain ⟨mx', h4, hc⟩ := o2_some hc
  have hmn : (mx'.isNone || hi'.isSome) = true → (mx.isSome = true → hi.isSome = true) := by
   intro hq hm
   cases mx with
   | none => simp at hm
   | some m =>
    cases hi with
    | some _ => rfl
    | none =>
     simp [cXo] at h3
     subst h3
     simp only [cXo] at h4
     split at h4
     ·cases h4; simp at hq
     ·cases h4
  split at hc
  ·rename_i m e hu
   obtain ⟨s, h5, hc⟩ := o2_some hc
   obtain ⟨h6, hc⟩ := ifo_some hc
   cases hc
   exact (op_slicea hs hG hop hu h5 h1 h2 h3 h4 (hmn h6) h).wp hk
  ·rename_i e hu
   obtain ⟨s, h5, hc⟩ := o2_some hc
   obtain ⟨h6, hc⟩ := ifo_some hc
   cases hc
   exact (op_slice hs hG hop hu h5 h1 h2 h3 h4 (hmn h6) h).wp hk
  ·rename_i hu
   obtain ⟨h6, hc⟩ := ifo_some hc
   cases hc
   have : mx = none := by
    cases mx with
    | none => rfl
    | some m =>
     simp only [cXo] at h4
     split at h4
     ·cases h4; simp at h6
     ·cases h4
   subst this
   exact (op_sslice hs hG hop hu h1 h2 h3 h).wp hk
  ·cases hc
 | extract x i =>
  rw [hop] at hc
  obtain ⟨x', h2, hc⟩ := o2_some hc
  cases hc
  exact (op_ext hs hG hop h2 h).wp hk
 | call c =>
  rw [hop] at hc
  have hc' : cCall P c = some ao := hc
  unfold cCall at hc'
  split at hc'
  ·rename_i f hcal
   obtain ⟨fn, h1, hc'⟩ := o2_some hc'
   cases hbs : fn.body.isSome with
   | true =>
    rw [hbs] at hc'
    obtain ⟨h2, hc'⟩ := ifo_some hc'
    obtain ⟨l, h3, hc'⟩ := o2_some hc'
    cases hc'
    exact op_call hs hG hG0 hC hop hcal h1 hbs h2 h3 h hk
   | false =>
    rw [hbs] at hc'
    obtain ⟨h2, hc'⟩ := ifo_some hc'
    simp only [Bool.and_eq_true, beq_iff_eq] at h2
    split at hc'
    ·rename_i x t hx ht
     split at hc'
     ·rename_i e hu
      obtain ⟨h3, hc'⟩ := ifo_some hc'
      obtain ⟨x', h4, hc'⟩ := o2_some hc'
      cases hc'
      exact (op_mnz hs hG hop hcal h1 hbs h2.1 h2.2 hx ht hu (by simpa using h3) h4 h).wp hk
     ·cases hc'
    ·cases hc'
  ·rename_i t hcal
   obtain ⟨l, h1, hc'⟩ := o2_some hc'
   cases hc'
   exact op_callv hs hG hG0 hC hop hcal h1 h hk
  ·rename_i hcal
   split at hc'
   ·rename_i x t ts hx ht
    obtain ⟨x', h1, hc'⟩ := o2_some hc'
    split at hc'
    ·rename_i e hu; cases hc'; exact (op_len hs hG hop hcal hx ht hu h1 h).wp hk
    ·rename_i hu; cases hc'; exact (op_strlen hs hG hop hcal hx ht hu h1 h).wp hk
    ·rename_i m e hu; cases hc'; exact (op_lena hs hop hcal hx ht hu h).wp hk
    ·cases hc'
   ·cases hc'
  ·rename_i hcal
   split at hc'
   ·rename_i x y t u hx ht
    obtain ⟨x', h1, hc'⟩ := o2_some hc'
    obtain ⟨y', h2, hc'⟩ := o2_some hc'
    obtain ⟨e, h3, hc'⟩ := o2_some hc'
    obtain ⟨s, h4, hc'⟩ := o2_some hc'
    obtain ⟨z, h5, hc'⟩ := o2_some hc'
    obtain ⟨h6, hc'⟩ := ifo_some hc'
    simp only [Bool.and_eq_true] at h6
    have hu : P.underlying t = some (.slice e) := by
     unfold elemT at h3
     split at h3
     ·cases h3; assumption
     ·cases h3
    split at hc'
    ·rename_i e' hu1
     obtain ⟨_, hc'⟩ := ifo_some hc'
     cases hc'
     exact (op_append hs hG hop hcal hx ht hu (.inl ⟨e', hu1⟩) h4 h5 h1 h2 h).wp hk
    ·rename_i hu1
     obtain ⟨_, hc'⟩ := ifo_some hc'
     cases hc'
     exact (op_append hs hG hop hcal hx ht hu (.inr hu1) h4 h5 h1 h2 h).wp hk
    ·rename_i kd hu1
     cases hc'
     exact (op_appendz hs hG hop hcal hx ht hu hu1 h4 h5 (by simpa using h6.1) h1 h2 h).wp hk
    ·cases hc'
   ·cases hc'
  ·rename_i hcal
   split at hc'
   ·rename_i x y t u hx ht
    obtain ⟨x', h1, hc'⟩ := o2_some hc'
    obtain ⟨y', h2, hc'⟩ := o2_some hc'
    obtain ⟨e, h3, hc'⟩ := o2_some hc'
    obtain ⟨s, h4, hc'⟩ := o2_some hc'
    obtain ⟨h6, hc'⟩ := ifo_some hc'
    have hu : P.underlying t = some (.slice e) := by
     unfold elemT at h3
     split at h3
     ·cases h3; assumption
     ·cases h3
    split at hc'
    ·obtain ⟨_, hc'⟩ := ifo_some hc'
     cases hc'
     exact (op_copy hs hG hop hcal hx ht hu h4 h1 h2 h).wp hk
    ·obtain ⟨_, hc'⟩ := ifo_some hc'
     cases hc'
     exact (op_copy hs hG hop hcal hx ht hu h4 h1 h2 h).wp hk
    ·cases hc'
   ·cases hc'
  ·rename_i hcal
   obtain ⟨l, h1, hc'⟩ := o2_some hc'
   cases hc'
   exact (op_minmax hs hG (mx := false) hop hcal h1 h).wp hk
  ·rename_i hcal
   obtain ⟨l, h1, hc'⟩ := o2_some hc'
   cases hc'
   exact (op_minmax hs hG (mx := true) hop hcal h1 h).wp hk
  ·cases hc'
 | _ => rw [hop] at hc; cases hc
end Go.Am
namespace Go.Am
set_option linter.unusedVariables false
set_option linter.unusedSimpArgs false
variable {C : Ctx} {P : Program} {n : Nat} {ρ : Pl} {T : Nat → Prop} {env : Env} {rows : Rows} {a : Act} {w : World}
def GlobOK (C : Ctx) (w : World) (T : Nat → Prop) : Prop := ∀ g d, C.glob g = some d → LR noPl w T (.cptr d) (.pointer (some ⟨g, 0, none⟩))
theorem Step.stable (hr : RowsOK ρ rows w T) (ht : ∀ b, T b → b < w.heap.size) {ρ' : Pl} {T' : Nat → Prop} {rows' : Rows} {w' : World} (h : Step ρ T rows w ρ' T' rows' w') : ∀ b, T b → w'.heap[b]? = w.heap[b]? := by
 intro b hb
 refine h.keep b (ht b hb) ?_
 rintro r row L h1 h2 rfl
 exact (hr.row r row L h1 h2).notT hb
theorem GlobOK.step (hg : GlobOK C w T) (hs : Sim n ρ T env rows a w) {ρ' : Pl} {T' : Nat → Prop} {rows' : Rows} {w' : World} (h : Step ρ T rows w ρ' T' rows' w') : GlobOK C w' T' :=
 fun g d hd => (hg g d hd).mono (fun _ _ h => h) (h.stable hs.rowsOK hs.tlt) h.tt
theorem cOps_cons {all : List Oper} {o : Oper} {l : List Oper} {al : List AOper} (h : cOps P n all (o :: l) = some al) :
  ∃ ao g r, cDst n o.dst = true ∧ cOp P o.op = some ao ∧ cGuard all o.guard = some g ∧ cOps P n all l = some r ∧ al = ⟨o.dst, ao, g⟩ :: r := by
 simp only [cOps] at h
 obtain ⟨h0, h⟩ := ifo_some h
 obtain ⟨ao, h1, h⟩ := o2_some h
 obtain ⟨g, h2, h⟩ := o2_some h
 obtain ⟨r, h3, h⟩ := o2_some h
 cases h
 exact ⟨ao, g, r, h0, h1, h2, h3, rfl⟩
theorem cDst_lt {dst : Option Nat} (h : cDst n dst = true) : ∀ t, dst = some t → t < n := by
 intro t ht
 subst ht
 simp only [cDst] at h
 exact Nat.blt_eq.mp h
theorem ops_sound (hC : CtxOK C P) (ops : Array Oper) {Q' : Exit → Act → World → Prop} : ∀ (l : List Oper) (i : Nat), ops.toList.drop i = l → ∀ (al : List AOper), cOps P n ops.toList l = some al →
  ∀ (env : Env) (rows : Rows) (ρ : Pl) (T : Nat → Prop) (a : Act) (w : World) (K : Env → Rows → Prop), aops C al env rows K → Sim n ρ T env rows a w → GlobOK C w T →
  (∀ env' rows' ρ' T' a' w', K env' rows' → Sim n ρ' T' env' rows' a' w' → Step ρ T rows w ρ' T' rows' w' → Q' .normal a' w') → wpOps P ops Q' (List.range' i l.length) a w := by
 intro l
 induction l with
 | nil =>
  intro i _ al hc env rows ρ T a w K h hs hg hK
  simp [cOps] at hc
  subst hc
  exact hK env rows ρ T a w h hs (Step.refl _ _ _ _)
 | cons o l ih =>
  intro i hi al hc env rows ρ T a w K h hs hg hK
  obtain ⟨ao, g, r, h0, h1, h2, h3, rfl⟩ := cOps_cons hc
  have ho : ops[i]? = some o := by
   have := congrArg (fun q => q[0]?) hi
   simpa using this
  have hnext : ops.toList.drop (i + 1) = l := by
   have := congrArg List.tail hi
   simpa using this
  have hd := cDst_lt h0
  simp only [List.length_cons, List.range'_succ, wpOps, ho]
  have go : ∀ (h : aop C env rows ao (fun d rows => aops C r (put o.dst d env) rows K)), o.wp P a w (wpOps P ops Q' (List.range' (i + 1) l.length)) Q' := by
   intro h
   refine op_sound hs hg hC h1 h ?_
   intro d rows' ρ' T' v w' hk hs' hst hv _
   exact ih (i + 1) hnext r h3 _ rows' ρ' T' _ w' K hk (hs'.put hv hd) (hg.step hs hst) (fun env2 rows2 ρ2 T2 a2 w2 hk2 hs2 hst2 => hK env2 rows2 ρ2 T2 a2 w2 hk2 hs2 (hst.trans hst2))
  have skip : ∀ (h : aops C r (put o.dst (.tup []) env) rows K), wpOps P ops Q' (List.range' (i + 1) l.length) (a.put o.dst undef) w := by
   intro h
   have hv : VR ρ w T (.tup []) undef := ⟨#[], rfl, .nil⟩
   exact ih (i + 1) hnext r h3 _ rows ρ T _ w K h (hs.put hv hd) hg hK
  cases hgd : o.guard with
  | none =>
   rw [hgd] at h2
   simp [cGuard] at h2
   subst h2
   have hw : Region.wanted o (yielded ops a.tmps) = true := by simp [Region.wanted, hgd]
   rw [if_pos hw]
   exact .inl (go h)
  | some jw =>
   obtain ⟨j, want⟩ := jw
   rw [hgd] at h2
   simp only [cGuard] at h2
   split at h2
   ·rename_i oj hj
    split at h2
    ·rename_i t ht
     cases h2
     have hj' : ops[j]? = some oj := by simpa using hj
     obtain ⟨d, hlk, h⟩ := bnd_some h
     have hv := hs.env t d hlk
     split at h
     ·rename_i b
      have hb := VR.ofRaw hv
      have ht' : a.tmps[t]? = some (.bool b) := by
       unfold Array.getD at hb
       split at hb
       ·rename_i hlt
        rw [Array.getElem?_eq_getElem hlt]
        simpa using hb
       ·cases hb
      have hy : yielded ops a.tmps j = some b := by simp [yielded, hj', ht, ht']
      have hw : Region.wanted o (yielded ops a.tmps) = (b == want) := by
       simp only [Region.wanted, hgd, hy]
       cases b <;> cases want <;> rfl
      rw [hw]
      by_cases hbw : b = want
      ·subst hbw
       rw [if_pos (by simp)]
       exact .inl (go (h.1 rfl))
      ·rw [if_neg (by simpa using hbw)]
       exact skip (h.2 (by cases b <;> cases want <;> simp_all))
     ·obtain ⟨vs, hvs, hall⟩ := hv
      have hvs0 : vs = #[] := by
       have := hall.len
       apply Array.ext'
       exact List.eq_nil_of_length_eq_zero (by simpa using this.symm)
      subst hvs0
      have hy : yielded ops a.tmps j = none := by
       simp only [yielded, hj', Option.bind_some, ht]
       unfold Array.getD at hvs
       split at hvs
       ·rename_i hlt
        rw [Array.getElem?_eq_getElem hlt]
        have : a.tmps[t] = .tuple #[] := by simpa using hvs
        rw [this]
       ·rename_i hlt
        rw [Array.getElem?_eq_none (by omega)]
      have hw : Region.wanted o (yielded ops a.tmps) = false := by
       simp only [Region.wanted, hgd, hy]
       rfl
      rw [if_neg (by rw [hw]; simp)]
      exact skip h
     ·exact h.elim
    ·cases h2
   ·cases h2
def exitOf : AExit → Exit
 | .normal => .normal
 | .exit i => .exit i
 | .ret => .ret
def Post (n : Nat) (ρ : Pl) (T : Nat → Prop) (rows : Rows) (w : World) (Q : AExit → Env → Rows → Prop) (Q' : Exit → Act → World → Prop) : Prop :=
 ∀ e env' rows' ρ' T' a' w', Q e env' rows' → Sim n ρ' T' env' rows' a' w' → Step ρ T rows w ρ' T' rows' w' → Q' (exitOf e) a' w'
end Go.Am
namespace Go.Am
set_option linter.unusedVariables false
set_option linter.unusedSimpArgs false
variable {C : Ctx} {P : Program} {n : Nat} {ρ : Pl} {T : Nat → Prop} {env : Env} {rows : Rows} {a : Act} {w : World}
def Det (rows : Rows) (f : (D → Rows → Prop) → Prop) : Prop := ∀ k, f k → ∃ d new, k d (rows ++ new) ∧ f (fun d2 r2 => d2 = d ∧ r2 = rows ++ new)
theorem det_leaf (rows : Rows) (d : D) : Det rows (fun k => k d rows) := fun k h => ⟨d, [], by simpa using h, rfl, by simp⟩
theorem det_new (rows new : Rows) (d : D) : Det rows (fun k => k d (rows ++ new)) := fun k h => ⟨d, new, h, rfl, rfl⟩
theorem det_false (rows : Rows) : Det rows (fun _ => False) := fun _ h => h.elim
theorem det_and {rows : Rows} {f : (D → Rows → Prop) → Prop} (p : Prop) (h : Det rows f) : Det rows (fun k => p ∧ f k) := by
 intro k ⟨hp, hf⟩
 obtain ⟨d, new, h1, h2⟩ := h k hf
 exact ⟨d, new, h1, hp, h2⟩
theorem det_bnd {α : Type} {rows : Rows} {x : Option α} {f : α → (D → Rows → Prop) → Prop} (h : ∀ a, Det rows (f a)) : Det rows (fun k => bnd x (fun a => f a k)) := by
 intro k hk
 cases x with
 | none => exact hk.elim
 | some a => exact h a k hk
theorem det_if {rows : Rows} {f g : (D → Rows → Prop) → Prop} (b : Bool) (hf : Det rows f) (hg : Det rows g) : Det rows (fun k => (b = true → f k) ∧ (b = false → g k)) := by
 intro k hk
 cases b with
 | true =>
  obtain ⟨d, new, h1, h2⟩ := hf k (hk.1 rfl)
  refine ⟨d, new, h1, fun _ => h2, fun h => ?_⟩
  cases h
 | false =>
  obtain ⟨d, new, h1, h2⟩ := hg k (hk.2 rfl)
  refine ⟨d, new, h1, fun h => ?_, fun _ => h2⟩
  cases h
theorem det_bounds {rows : Rows} {f : Nat → Nat → Nat → (D → Rows → Prop) → Prop} (l h m : Int) (n : Nat) (hf : ∀ a b c, Det rows (f a b c)) : Det rows (fun k => aBounds l h m n fun a b c => f a b c k) :=
 det_and _ (det_and _ (det_and _ (det_and _ (hf _ _ _))))
theorem det_aBin (rows : Rows) (op : BinOp) (x y : Value) : Det rows (fun k => aBin op x y fun d => k d rows) := by
 unfold aBin
 intro k h
 split at h
 all_goals first
  | exact h.elim
  | exact det_leaf rows _ k h
  | exact det_and _ (det_leaf rows _) k h
  | exact det_and _ (det_and _ (det_leaf rows _)) k h
theorem det_aUn (rows : Rows) (op : UnOp) (x : Value) : Det rows (fun k => aUn op x fun d => k d rows) := by
 unfold aUn
 intro k h
 split at h
 all_goals first
  | exact h.elim
  | exact det_leaf rows _ k h
theorem aop_det (hN : ∀ f, C.fnr f = none) (o : AOp) (hq : quietA o = true) : Det rows (aop C env rows o) := by
 cases o with
 | mv x => exact det_bnd fun d => det_leaf rows d
 | pick c x y =>
  refine det_bnd fun d => ?_
  cases d with
  | raw v =>
   cases v with
   | bool t => exact det_bnd fun d => det_leaf rows d
   | _ => exact det_false rows
  | _ => exact det_false rows
 | bin op x y =>
  refine det_bnd fun d => ?_
  cases d with
  | raw v =>
   refine det_bnd fun d2 => ?_
   cases d2 with
   | raw u => exact det_aBin rows op v u
   | _ => exact det_false rows
  | _ => exact det_false rows
 | eqa s neg x y =>
  refine det_bnd fun d => ?_
  cases d with
  | agg s1 l =>
   refine det_bnd fun d2 => ?_
   cases d2 with
   | agg s2 l' => exact det_and _ (det_and _ (det_bnd fun b => det_leaf rows _))
   | _ => exact det_false rows
  | _ => exact det_false rows
 | beq neg x y =>
  refine det_bnd fun d => ?_
  cases d with
  | raw v =>
   cases v with
   | bool t =>
    refine det_bnd fun d2 => ?_
    cases d2 with
    | raw u =>
     cases u with
     | bool t2 => exact det_leaf rows _
     | _ => exact det_false rows
    | _ => exact det_false rows
   | _ => exact det_false rows
  | _ => exact det_false rows
 | un op x =>
  refine det_bnd fun d => ?_
  cases d with
  | raw v => exact det_aUn rows op v
  | _ => exact det_false rows
 | conv kd x =>
  refine det_bnd fun d => ?_
  cases d with
  | raw v =>
   cases v with
   | int k n => exact det_leaf rows _
   | _ => exact det_false rows
  | _ => exact det_false rows
 | convs x =>
  refine det_bnd fun d => ?_
  cases d with
  | raw v =>
   cases v with
   | string b => exact det_leaf rows _
   | _ => exact det_false rows
  | _ => exact det_false rows
 | alloc s z => exact det_new rows _ _
 | mkm ks vs => exact det_new rows _ _
 | mget ks vs ok z m x => exact det_bnd fun d => det_bnd fun d2 => det_and _ (det_bnd fun l => det_bnd fun o => det_leaf rows _)
 | box s x => exact det_bnd fun d => det_and _ (det_new rows _ _)
 | build s z ps => exact det_bnd fun l => det_leaf rows _
 | bslice s m z ps => exact det_bnd fun l => det_new rows _ _
 | load s x =>
  refine det_bnd fun d => ?_
  cases d with
  | ptr s' r p => exact det_and _ (det_bnd fun row => det_bnd fun d => det_leaf rows d)
  | cptr d => exact det_and _ (det_leaf rows _)
  | aptr m t r p off => exact det_and _ (det_bnd fun l => det_and _ (det_leaf rows _))
  | _ => exact det_false rows
 | nilc x =>
  refine det_bnd fun d => ?_
  cases d with
  | ptr s' r p => exact det_leaf rows _
  | cptr d => exact det_leaf rows _
  | _ => exact det_false rows
 | faddr s x i =>
  refine det_bnd fun d => ?_
  cases d with
  | ptr s' r p => exact det_and _ (det_bnd fun e => det_leaf rows _)
  | cptr d =>
   cases d with
   | agg s' l => exact det_and _ (det_bnd fun e => det_leaf rows _)
   | _ => exact det_false rows
  | _ => exact det_false rows
 | field s x i =>
  refine det_bnd fun d => ?_
  cases d with
  | agg s' l => exact det_and _ (det_bnd fun e => det_leaf rows _)
  | _ => exact det_false rows
 | iaddra m s x i =>
  refine det_bnd fun d => det_bnd fun d2 => ?_
  cases d2 with
  | raw v =>
   cases v with
   | int kd j =>
    cases d with
    | ptr s' r p => exact det_and _ (det_and _ (det_and _ (det_leaf rows _)))
    | cptr d =>
     cases d with
     | agg s' l => exact det_and _ (det_and _ (det_and _ (det_bnd fun d => det_leaf rows _)))
     | _ => exact det_false rows
    | _ => exact det_false rows
   | _ => exact det_false rows
  | _ => exact det_false rows
 | iaddrs s x i =>
  refine det_bnd fun d => det_bnd fun d2 => ?_
  cases d2 with
  | raw v =>
   cases v with
   | int kd j =>
    cases d with
    | sl t r p off len ex => exact det_and _ (det_and _ (det_and _ (det_leaf rows _)))
    | lst t l ex => exact det_and _ (det_and _ (det_and _ (det_bnd fun d => det_leaf rows _)))
    | _ => exact det_false rows
   | _ => exact det_false rows
  | _ => exact det_false rows
 | index m s x i =>
  refine det_bnd fun d => ?_
  cases d with
  | agg t l =>
   refine det_bnd fun d2 => ?_
   cases d2 with
   | raw v =>
    cases v with
    | int kd j => exact det_and _ (det_and _ (det_and _ (det_bnd fun d => det_leaf rows _)))
    | _ => exact det_false rows
   | _ => exact det_false rows
  | _ => exact det_false rows
 | sindex x i =>
  refine det_bnd fun d => ?_
  cases d with
  | raw v =>
   cases v with
   | string b =>
    refine det_bnd fun d2 => ?_
    cases d2 with
    | raw u =>
     cases u with
     | int kd j => exact det_and _ (det_bnd fun c => det_leaf rows _)
     | _ => exact det_false rows
    | _ => exact det_false rows
   | _ => exact det_false rows
  | _ => exact det_false rows
 | slicea m s x lo hi mx =>
  refine det_bnd fun d => det_bnd fun l => det_bnd fun h => det_bnd fun c => det_bounds _ _ _ _ fun a b e => ?_
  cases d with
  | ptr t r p => exact det_and _ (det_leaf rows _)
  | cptr d =>
   cases d with
   | agg s' l => exact det_and _ (det_leaf rows _)
   | _ => exact det_false rows
  | _ => exact det_false rows
 | slice s x lo hi mx =>
  refine det_bnd fun d => det_bnd fun l => det_bnd fun h => det_bnd fun c => det_bnd fun N => det_bounds _ _ _ _ fun a b e => ?_
  cases d with
  | raw v =>
   cases v with
   | slice ad len cap =>
    cases ad with
    | none =>
     cases len with
     | zero => cases cap with
      | zero => exact det_leaf rows _
      | succ _ => exact det_false rows
     | succ _ => exact det_false rows
    | some _ => exact det_false rows
   | _ => exact det_false rows
  | sl t r p off len ex => exact det_and _ (det_leaf rows _)
  | lst t l ex => exact det_and _ (det_leaf rows _)
  | _ => exact det_false rows
 | sslice x lo hi =>
  refine det_bnd fun d => ?_
  cases d with
  | raw v =>
   cases v with
   | string b => exact det_bnd fun l => det_bnd fun h => det_bounds _ _ _ _ fun a b e => det_leaf rows _
   | _ => exact det_false rows
  | _ => exact det_false rows
 | mks s b z l c =>
  refine det_bnd fun d => ?_
  cases d with
  | raw v =>
   cases v with
   | int kd j =>
    refine det_bnd fun d2 => ?_
    cases d2 with
    | raw u =>
     cases u with
     | int kd j => exact det_and _ (det_and _ (det_and _ (det_and _ (det_new rows _ _))))
     | _ => exact det_false rows
    | _ => exact det_false rows
   | _ => exact det_false rows
  | _ => exact det_false rows
 | ext x i =>
  refine det_bnd fun d => ?_
  cases d with
  | tup l => exact det_bnd fun d => det_leaf rows d
  | _ => exact det_false rows
 | len x => exact det_bnd fun d => det_bnd fun m => det_leaf rows _
 | strlen x =>
  refine det_bnd fun d => ?_
  cases d with
  | raw v =>
   cases v with
   | string b => exact det_leaf rows _
   | _ => exact det_false rows
  | _ => exact det_false rows
 | minmax mx l => exact det_bnd fun ds => det_bnd fun r => det_leaf rows _
 | b2s x => exact det_bnd fun d => det_and _ (det_bnd fun l => det_bnd fun m => det_and _ (det_bnd fun bs => det_leaf rows _))
 | s2b x =>
  refine det_bnd fun d => ?_
  cases d with
  | raw v =>
   cases v with
   | string b => exact det_leaf rows _
   | _ => exact det_false rows
  | _ => exact det_false rows
 | call f args =>
  refine det_bnd fun ds => ?_
  show Det rows (aCall C rows f ds)
  unfold aCall
  cases C.fn f with
  | some F => exact det_if _ (det_bnd fun ds' => det_bnd fun r => det_and _ (det_new rows _ _)) (det_bnd fun r => det_new rows _ _)
  | none =>
   have e : C.fnrq f = (C.fnq f).map qrun := by unfold Ctx.fnrq; rw [hN f]
   rw [e]
   cases C.fnq f with
   | none => exact det_false rows
   | some q =>
    show Det rows (fun k => bnd (q ds rows) fun r => k r.1 (rows ++ r.2))
    exact det_bnd fun r => det_new rows _ _
 | fail => exact det_false rows
 | frzb s x =>
  refine det_bnd fun d => ?_
  cases d with
  | sl t r p off len ex =>
   cases p with
   | nil => exact det_and _ (det_and _ (det_bnd fun row => det_and _ (det_leaf rows _)))
   | cons _ _ => exact det_false rows
  | _ => exact det_false rows
 | eqnil neg x y =>
  refine det_bnd fun d => det_bnd fun d2 => ?_
  cases d2 with
  | raw v =>
   cases v with
   | pointer ad =>
    cases ad with
    | none =>
     cases d with
     | raw v =>
      cases v with
      | pointer ad =>
       cases ad with
       | none => exact det_leaf rows _
       | some _ => exact det_false rows
      | _ => exact det_false rows
     | ptr _ _ _ => exact det_leaf rows _
     | cptr _ => exact det_leaf rows _
     | _ => exact det_false rows
    | some _ => exact det_false rows
   | _ => exact det_false rows
  | _ => exact det_false rows
 | s2a m s x =>
  refine det_bnd fun d => ?_
  cases d with
  | sl t r p off len ex => exact det_and _ (det_and _ (det_and _ (det_leaf rows _)))
  | lst t l ex => exact det_and _ (det_and _ (det_and _ (det_leaf rows _)))
  | _ => exact det_false rows
 | _ => cases hq
theorem evs_congr {env' : Env} : ∀ {l : List X}, (∀ x ∈ l, ev C env x = ev C env' x) → evs C env l = evs C env' l
 | [], _ => rfl
 | x :: l, h => by simp only [evs, h x (by simp), evs_congr (l := l) (fun y hy => h y (by simp [hy]))]
theorem evo_congr {env' : Env} {o : Option X} (h : ∀ x ∈ o.toList, ev C env x = ev C env' x) : evo C env o = evo C env' o := by
 cases o with
 | none => rfl
 | some x => simp only [evo, h x (by simp)]
theorem fillP_congr {env' : Env} {sub : Nat → Option Sh} : ∀ {ps : List (Nat × X)} {z : List D}, (∀ x ∈ ps.map (·.2), ev C env x = ev C env' x) → fillP C env sub ps z = fillP C env' sub ps z
 | [], z, _ => rfl
 | (i, x) :: ps, z, h => by
  have hx := h x (by simp)
  have ih := fun z => fillP_congr (sub := sub) (ps := ps) (z := z) (fun y hy => h y (List.mem_cons_of_mem _ hy))
  simp only [fillP, hx, ih]
theorem aop_congr {env' : Env} {o : AOp} (h : ∀ x ∈ o.xs, ev C env x = ev C env' x) (k : D → Rows → Prop) : aop C env rows o k = aop C env' rows o k := by
 cases o with
 | alloc s z => rfl
 | mkm ks vs => rfl
 | mset ks vs m x v => simp only [aop, h m (by simp [AOp.xs]), h x (by simp [AOp.xs]), h v (by simp [AOp.xs])]
 | mget ks vs ok z m x => simp only [aop, h m (by simp [AOp.xs]), h x (by simp [AOp.xs])]
 | pick c x y => simp only [aop, h c (by simp [AOp.xs]), h x (by simp [AOp.xs]), h y (by simp [AOp.xs])]
 | build s z ps => simp only [aop, fillP_congr (ps := ps) h]
 | bslice s m z ps => simp only [aop, fillP_congr (ps := ps) h]
 | slicea m s x lo hi mx =>
  simp only [aop, h x (by simp [AOp.xs]), evo_congr (o := lo) (fun y hy => h y (by simp only [AOp.xs, List.mem_cons, List.mem_append]; exact .inr (.inl (.inl hy)))), evo_congr (o := hi) (fun y hy => h y (by simp only [AOp.xs, List.mem_cons, List.mem_append]; exact .inr (.inl (.inr hy)))), evo_congr (o := mx) (fun y hy => h y (by simp only [AOp.xs, List.mem_cons, List.mem_append]; exact .inr (.inr hy)))]
 | slice s x lo hi mx =>
  simp only [aop, h x (by simp [AOp.xs]), evo_congr (o := lo) (fun y hy => h y (by simp only [AOp.xs, List.mem_cons, List.mem_append]; exact .inr (.inl (.inl hy)))), evo_congr (o := hi) (fun y hy => h y (by simp only [AOp.xs, List.mem_cons, List.mem_append]; exact .inr (.inl (.inr hy)))), evo_congr (o := mx) (fun y hy => h y (by simp only [AOp.xs, List.mem_cons, List.mem_append]; exact .inr (.inr hy)))]
 | sslice x lo hi =>
  simp only [aop, h x (by simp [AOp.xs]), evo_congr (o := lo) (fun y hy => h y (by simp only [AOp.xs, List.mem_cons, List.mem_append]; exact .inr (.inl hy))), evo_congr (o := hi) (fun y hy => h y (by simp only [AOp.xs, List.mem_cons, List.mem_append]; exact .inr (.inr hy)))]
 | minmax mx l => simp only [aop, evs_congr (l := l) h]
 | call f l => simp only [aop, evs_congr (l := l) h]
 | callv fs x l => simp only [aop, h x (by simp [AOp.xs]), evs_congr (l := l) (fun y hy => h y (by simp [AOp.xs, hy]))]
 | fail => rfl
 | s2a _ _ x | frzb _ x | mnz x => simp only [aop, h x (by simp [AOp.xs])]
 | eqnil neg x y | eqsn neg x y => simp only [aop, h x (by simp [AOp.xs]), h y (by simp [AOp.xs])]
 | mv x | un op x | conv kd x | convs x | box s x | load s x | nilc x | faddr s x i | field s x i | ext x i | len x | strlen x | b2s x | s2b x => simp only [aop, h x (by simp [AOp.xs])]
 | bin op x y | eqa s neg x y | beq neg x y | store s x y | iaddra m s x y | iaddrs s x y | index m s x y | sindex x y | append s b x y | appendz s b z x y | copy s x y | mks s b z x y => simp only [aop, h x (by simp [AOp.xs]), h y (by simp [AOp.xs])]
end Go.Am
namespace Go.Am
set_option linter.unusedVariables false
set_option linter.unusedSimpArgs false
variable {C : Ctx} {P : Program} {n : Nat}
structure DOK0 (ops : List Oper) (al : List AOper) (m : Nat) : Prop where
 le : m ≤ ops.length
 back : ∀ i j, dep ops i j = true → j < i
 quiet : ∀ i, i < m → ∃ x o, al[i]? = some x ∧ ops[i]? = some o ∧ quietA x.op = true ∧ quietOp o.op = true ∧ (∀ j, j < m → j ≠ i → ∀ t, x.dst = some t → dstOf al j ≠ some t) ∧ (∀ t, t ∈ uses x → ∀ j, j < m → dstOf al j = some t → dep ops i j = true)
structure DOK (ops : List Oper) (al : List AOper) (m : Nat) : Prop extends DOK0 ops al m where
 tail : ∀ i, i < ops.length → m ≤ i → ∀ j, j < i → dep ops i j = true ∨ ∃ k, k < i ∧ j < k ∧ dep ops k j = true
structure DOK2 (ops : List Oper) (al : List AOper) (m : Nat) : Prop extends DOK0 ops al m where
 tail : ∀ i, i < ops.length → m ≤ i → ∃ x, al[i]? = some x ∧ ∀ j, j < i → anc ops 2 i j = true ∨ (j < m ∧ ∃ y t, al[j]? = some y ∧ y.guard = none ∧ y.dst = some t ∧ x.dst ≠ some t ∧ t ∉ uses x)
theorem dOK0_spec {ops : List Oper} {al : List AOper} {m : Nat} (h1 : Nat.ble m ops.length = true) (h2 : ((List.range ops.length).all (fun i => match ops[i]? with
  | some o => o.after.toList.all fun e => !Region.binds .any e || Nat.blt e.on i
  | none => true)) = true) (h3 : ((List.range m).all (fun i => match al[i]?, ops[i]? with
  | some x, some o => quietA x.op && quietOp o.op &&
   (List.range m).all (fun j => j == i || x.dst.isNone || dstOf al j != x.dst) &&
   (uses x).all fun t => (List.range m).all fun j => dstOf al j != some t || dep ops i j
  | _, _ => false)) = true) : DOK0 ops al m := by
 refine ⟨Nat.le_of_ble_eq_true h1, fun i j hd => ?_, fun i hi => ?_⟩
 ·unfold dep at hd
  split at hd
  ·rename_i o ho
   have hi : i < ops.length := lt_of_get ho
   have := List.all_eq_true.1 h2 i (by simpa using hi)
   simp only [ho] at this
   obtain ⟨e, he, hb⟩ := List.any_eq_true.1 hd
   simp only [Bool.and_eq_true, beq_iff_eq] at hb
   have := List.all_eq_true.1 this e he
   simp only [hb.1, Bool.not_true, Bool.false_or] at this
   rw [← hb.2]
   exact Nat.blt_eq.mp this
  ·cases hd
 ·have := List.all_eq_true.1 h3 i (by simpa using hi)
  split at this
  ·rename_i x o hx ho
   simp only [Bool.and_eq_true] at this
   obtain ⟨⟨⟨q1, q2⟩, q3⟩, q4⟩ := this
   refine ⟨x, o, hx, ho, q1, q2, fun j hj hne t ht hdj => ?_, fun t ht j hj hdj => ?_⟩
   ·have := List.all_eq_true.1 q3 j (by simpa using hj)
    simp [hne, ht, hdj] at this
   ·have := List.all_eq_true.1 (List.all_eq_true.1 q4 t ht) j (by simpa using hj)
    simpa [hdj] using this
  ·cases this
theorem dOK_spec {ops : List Oper} {al : List AOper} {m : Nat} (h : dOK ops al m = true) : DOK ops al m := by
 simp only [dOK, Bool.and_eq_true] at h
 obtain ⟨⟨⟨h1, h2⟩, h3⟩, h4⟩ := h
 refine ⟨dOK0_spec h1 h2 h3, fun i hi hm j hj => ?_⟩
 ·have := List.all_eq_true.1 h4 i (by simpa using hi)
  have hb : Nat.blt i m = false := by
   cases hb : Nat.blt i m with
   | false => rfl
   | true => have := Nat.blt_eq.mp hb; omega
  rw [hb, Bool.false_or] at this
  have := List.all_eq_true.1 this j (by simpa using hj)
  rcases Bool.or_eq_true_iff.1 this with h | h
  ·exact .inl h
  ·obtain ⟨k, hk, hb⟩ := List.any_eq_true.1 h
   simp only [Bool.and_eq_true] at hb
   exact .inr ⟨k, by simpa using hk, Nat.blt_eq.mp hb.1, hb.2⟩
theorem dOK2_spec {ops : List Oper} {al : List AOper} {m : Nat} (h : dOK2 ops al m = true) : DOK2 ops al m := by
 simp only [dOK2, Bool.and_eq_true] at h
 obtain ⟨⟨⟨h1, h2⟩, h3⟩, h4⟩ := h
 refine ⟨dOK0_spec h1 h2 h3, fun i hi hm => ?_⟩
 have := List.all_eq_true.1 h4 i (by simpa using hi)
 have hb : Nat.blt i m = false := by
  cases hb : Nat.blt i m with
  | false => rfl
  | true => have := Nat.blt_eq.mp hb; omega
 rw [hb, Bool.false_or] at this
 split at this
 ·rename_i x hx
  refine ⟨x, hx, fun j hj => ?_⟩
  have := List.all_eq_true.1 this j (by simpa using hj)
  rcases Bool.or_eq_true_iff.1 this with h | h
  ·exact .inl h
  ·right
   simp only [Bool.and_eq_true] at h
   obtain ⟨q1, q2⟩ := h
   refine ⟨Nat.blt_eq.mp q1, ?_⟩
   split at q2
   ·rename_i y hy
    simp only [Bool.and_eq_true] at q2
    obtain ⟨q2, q3⟩ := q2
    split at q3
    ·rename_i t ht
     simp only [Bool.and_eq_true] at q3
     exact ⟨y, t, hy, by simpa using q2, ht, by simpa using q3.1, by simpa using q3.2⟩
    ·cases q3
   ·cases q2
 ·cases this
def Ex (C : Ctx) (env : Env) (rows : Rows) (x : AOper) (d : D) (rows' : Rows) : Prop :=
 match x.guard with
 | none => aop C env rows x.op fun d2 r2 => d2 = d ∧ r2 = rows'
 | some (s, want) => (∃ b, look env s = some (.raw (.bool b)) ∧ (b = want → aop C env rows x.op fun d2 r2 => d2 = d ∧ r2 = rows') ∧ (b = !want → d = .tup [] ∧ rows' = rows)) ∨
   (look env s = some (.tup []) ∧ d = .tup [] ∧ rows' = rows)
theorem ex_of (hN : ∀ f, C.fnr f = none) {x : AOper} {l : List AOper} {env : Env} {rows : Rows} {K : Env → Rows → Prop} (h : aops C (x :: l) env rows K) (hq : quietA x.op = true) :
  ∃ d new, Ex C env rows x d (rows ++ new) ∧ aops C l (put x.dst d env) (rows ++ new) K := by
 obtain ⟨dst, o, g⟩ := x
 cases g with
 | none =>
  obtain ⟨d, new, h1, h2⟩ := aop_det hN o hq _ h
  exact ⟨d, new, h2, h1⟩
 | some sw =>
  obtain ⟨s, want⟩ := sw
  obtain ⟨v, hv, h⟩ := bnd_some h
  split at h
  ·rename_i b
   by_cases hb : b = want
   ·obtain ⟨d, new, h1, h2⟩ := aop_det hN o hq _ (h.1 hb)
    refine ⟨d, new, .inl ⟨b, hv, fun _ => h2, fun h3 => ?_⟩, h1⟩
    rw [hb] at h3
    cases want <;> cases h3
   ·have hb' : b = !want := by cases b <;> cases want <;> simp_all
    refine ⟨.tup [], [], .inl ⟨b, hv, fun h3 => absurd h3 hb, fun _ => ⟨rfl, by simp⟩⟩, ?_⟩
    simpa using h.2 hb'
  ·exact ⟨.tup [], [], .inr ⟨hv, rfl, by simp⟩, by simpa using h⟩
  ·exact h.elim
def evAt (al : List AOper) (Dd : Nat → D) (env : Env) : Nat → Env
 | 0 => env
 | i + 1 => put (dstOf al i) (Dd i) (evAt al Dd env i)
theorem evAt_congr (al : List AOper) (env : Env) {D1 D2 : Nat → D} : ∀ (i : Nat), (∀ j, j < i → D1 j = D2 j) → evAt al D1 env i = evAt al D2 env i
 | 0, _ => rfl
 | i + 1, h => by simp only [evAt, h i (by omega), evAt_congr al env i (fun j hj => h j (by omega))]
theorem trace (hN : ∀ f, C.fnr f = none) {al : List AOper} {env : Env} {rows : Rows} {K : Env → Rows → Prop} : ∀ (m : Nat), m ≤ al.length → (∀ i, i < m → ∃ x, al[i]? = some x ∧ quietA x.op = true) → aops C al env rows K →
  ∃ (Dd : Nat → D) (R : Nat → Rows), R 0 = rows ∧ (∀ i, i < m → ∃ x new, al[i]? = some x ∧ R (i + 1) = R i ++ new ∧ Ex C (evAt al Dd env i) (R i) x (Dd i) (R (i + 1))) ∧ aops C (al.drop m) (evAt al Dd env m) (R m) K
 | 0, _, _, h => ⟨fun _ => default, fun _ => rows, rfl, fun i hi => by omega, by simpa [evAt] using h⟩
 | m + 1, hm, hq, h => by
  obtain ⟨Dd, R, h1, h2, h3⟩   := trace hN m (by omega) (fun i hi => hq i (by omega)) h
  obtain ⟨x, hx, hqx⟩ := hq m (by omega)
  have hdrop : al.drop m = x :: al.drop (m + 1) := by
   have hlt : m < al.length := by omega
   rw [List.drop_eq_getElem_cons hlt]
   congr 1
   rw [List.getElem?_eq_getElem hlt] at hx
   exact Option.some.inj hx
  rw [hdrop] at h3
  obtain ⟨d, new, g1, g2⟩ := ex_of hN h3 hqx
  have hdst : dstOf al m = x.dst := by simp [dstOf, hx]
  let Dd' : Nat → D := fun j => if j = m then d else Dd j
  let R' : Nat → Rows := fun j => if j = m + 1 then R m ++ new else R j
  have hev : ∀ i, i ≤ m → evAt al Dd' env i = evAt al Dd env i := fun i hi => evAt_congr al env i (fun j hj => by simp only [Dd']; rw [if_neg (by omega)])
  have hR : ∀ i, i ≤ m → R' i = R i := fun i hi => by simp only [R']; rw [if_neg (by omega)]
  have hRm : R' (m + 1) = R m ++ new := by simp [R']
  have hDm : Dd' m = d := by simp [Dd']
  refine ⟨Dd', R', by rw [hR 0 (by omega)]; exact h1, fun i hi => ?_, ?_⟩
  ·by_cases him : i = m
   ·subst him
    refine ⟨x, new, hx, by rw [hRm, hR i (by omega)], ?_⟩
    rw [hev i (by omega), hR i (by omega), hRm, hDm]
    exact g1
   ·obtain ⟨x', new', q1, q2, q3⟩ := h2 i (by omega)
    refine ⟨x', new', q1, by rw [hR (i + 1) (by omega), hR i (by omega)]; exact q2, ?_⟩
    have : Dd' i = Dd i := by simp only [Dd']; rw [if_neg him]
    rw [hev i (by omega), hR i (by omega), hR (i + 1) (by omega), this]
    exact q3
  ·simp only [evAt]
   rw [hev m (by omega), hRm, hDm, hdst]
   exact g2
theorem look_evAt_none {al : List AOper} {Dd : Nat → D} {env : Env} {t : Nat} : ∀ (i : Nat), (∀ j, j < i → dstOf al j ≠ some t) → look (evAt al Dd env i) t = look env t
 | 0, _ => rfl
 | i + 1, h => by
  have h1 := h i (by omega)
  have ih := look_evAt_none (Dd := Dd) (env := env) i (fun j hj => h j (by omega))
  simp only [evAt]
  cases hd : dstOf al i with
  | none => exact ih
  | some s =>
   simp only [put, look]
   have : (s == t) = false := by
    have : s ≠ t := fun e => h1 (by rw [hd, e])
    simpa using this
   rw [this]
   exact ih
theorem look_evAt_some {al : List AOper} {Dd : Nat → D} {env : Env} {t k : Nat} (hk : dstOf al k = some t) : ∀ (i : Nat), k < i → (∀ j, j < i → j ≠ k → dstOf al j ≠ some t) → look (evAt al Dd env i) t = some (Dd k)
 | 0, h, _ => by omega
 | i + 1, h, hu => by
  by_cases hi : i = k
  ·subst hi
   simp [evAt, hk, put, look]
  ·have ih := look_evAt_some (Dd := Dd) (env := env) hk i (by omega) (fun j hj => hu j (by omega))
   have h1 := hu i (by omega) hi
   simp only [evAt]
   cases hd : dstOf al i with
   | none => exact ih
   | some s =>
    simp only [put, look]
    have : (s == t) = false := by
     have : s ≠ t := fun e => h1 (by rw [hd, e])
     simpa using this
    rw [this]
    exact ih
def res (ρ : Pl) (k : Nat) : Pl := fun r => if r < k then ρ r else none
theorem res_mono {ρ : Pl} {k k' : Nat} (h : k ≤ k') : ∀ r L, res ρ k r = some L → res ρ k' r = some L := by
 intro r L hr
 unfold res at hr ⊢
 split at hr
 ·rw [if_pos (by omega)]; exact hr
 ·cases hr
theorem res_sub {ρ : Pl} {k : Nat} : ∀ r L, res ρ k r = some L → ρ r = some L := by
 intro r L hr
 unfold res at hr
 split at hr
 ·exact hr
 ·cases hr
def small (env : Env) : List Nat → Env
 | [] => []
 | t :: l => match look env t with
  | some d => (t, d) :: small env l
  | none => small env l
theorem small_look {env : Env} : ∀ {l : List Nat} {t : Nat}, t ∈ l → look (small env l) t = look env t
 | s :: l, t, h => by
  simp only [small]
  by_cases hst : s = t
  ·subst hst
   cases hl : look env s with
   | some d => simp [look]
   | none =>
    simp only
    by_cases hm : s ∈ l
    ·rw [small_look hm]; exact hl
    ·have : ∀ (l : List Nat), s ∉ l → look (small env l) s = none := by
      intro l
      induction l with
      | nil => intro _; rfl
      | cons q l ih =>
       intro hq
       simp only [List.mem_cons, not_or] at hq
       simp only [small]
       cases hlq : look env q with
       | none => exact ih hq.2
       | some d =>
        simp only [look]
        have : (q == s) = false := by simpa using fun e => hq.1 (Eq.symm e)
        rw [this]
        exact ih hq.2
     exact this l hm
  ·have ht : t ∈ l := by
    rcases List.mem_cons.1 h with h | h
    ·exact absurd h.symm hst
    ·exact h
   cases hl : look env s with
   | none => exact small_look ht
   | some d =>
    simp only [look]
    have : (s == t) = false := by simpa using hst
    rw [this]
    exact small_look ht
theorem small_sub {env : Env} : ∀ {l : List Nat} {t : Nat} {d : D}, look (small env l) t = some d → t ∈ l ∧ look env t = some d
 | [], t, d, h => by simp [small, look] at h
 | s :: l, t, d, h => by
  simp only [small] at h
  cases hl : look env s with
  | none =>
   rw [hl] at h
   obtain ⟨h1, h2⟩ := small_sub h
   exact ⟨by simp [h1], h2⟩
  | some x =>
   rw [hl] at h
   simp only [look] at h
   cases hb : (s == t) with
   | true =>
    have : s = t := by simpa using hb
    subst this
    rw [hb] at h
    simp at h
    exact ⟨by simp, by rw [hl, h]⟩
   | false =>
    rw [hb] at h
    obtain ⟨h1, h2⟩ := small_sub (by simpa using h)
    exact ⟨by simp [h1], h2⟩
theorem mem_xslots : ∀ {l : List X} {t : Nat}, .tmp t ∈ l → t ∈ xslots l
 | x :: l, t, h => by
  rcases List.mem_cons.1 h with h' | h'
  ·subst h'; simp [xslots]
  ·have ih := mem_xslots h'
   cases x with
   | tmp s => simp [xslots, ih]
   | const _ => simpa [xslots] using ih
   | glob _ => simpa [xslots] using ih
theorem live_prefix {R R' new : Rows} {r : Nat} (h : R' = R ++ new) (hr : r < R.length) : live R' r = live R r := by
 subst h
 unfold live
 rw [List.getElem?_append_left hr]
end Go.Am
