/- New variables, and writing. -/
import Derived.Test.YtloclegkilgglaaAm8
namespace Go.Am
set_option linter.unusedVariables false
set_option linter.unusedSimpArgs false

variable {C : Ctx} {P : Program} {n : Nat} {ρ : Pl} {T : Nat → Prop} {env : Env} {rows : Rows} {a : Act} {w : World}

theorem sameZ_eq {a b : Value} (h : sameZ a b = true) : b = a ∧ a.oneCell' = true := by
  unfold sameZ at h
  split at h <;> first
    | (simp at h; obtain ⟨rfl, rfl⟩ := h; exact ⟨rfl, rfl⟩)
    | (simp at h; subst h; exact ⟨rfl, rfl⟩)
    | (rename_i x y
       have e : x.data.toList = y.data.toList := by simpa using h
       have e2 : x.data = y.data := Array.ext' e
       have e3 : x = y := ByteArray.ext e2
       subst e3
       exact ⟨rfl, rfl⟩)
    | exact ⟨rfl, rfl⟩
    | cases h
theorem sameZs_all2 {l : List D} {vs : List Value} (h : sameZs l vs = true) (ρ : Pl) (w : World) (T : Nat → Prop) : All2 (LR ρ w T) l vs := by
  induction l generalizing vs with
  | nil => cases vs with
    | nil => exact .nil
    | cons v vs => simp [sameZs] at h
  | cons d l ih => cases vs with
    | nil => simp [sameZs] at h
    | cons v vs =>
      cases d with
      | raw x =>
        simp [sameZs] at h
        obtain ⟨rfl, h2⟩ := sameZ_eq h.1
        exact .cons (.raw _ h2) (ih h.2)
      | _ => simp [sameZs] at h

theorem zL_spec {f : TypeId → Option D} {g : TypeId → Option Sh} (hfg : ∀ t d e, f t = some d → g t = some e → HasSh e d) : ∀ (fs : List Field) {l : List D} {s : Sh}, zL f fs = some l → shL g fs = some s →
    s.isAgg = true ∧ l.length = s.count ∧ ∀ i e d, s.sub i = some e → l[i]? = some d → HasSh e d
  | [], l, s, h1, h2 => by
    simp [zL] at h1
    simp [shL] at h2
    subst h1; subst h2
    simp [Sh.isAgg, Sh.count, Sh.sub]
  | x :: fs, l, s, h1, h2 => by
    simp only [zL] at h1
    simp only [shL] at h2
    split at h1
    · rename_i d hd
      split at h1
      · rename_i l' hl'
        cases h1
        split at h2
        · rename_i e he
          split at h2
          · rename_i s' hs'
            cases h2
            obtain ⟨g1, g2, g3⟩ := zL_spec hfg fs hl' hs'
            refine ⟨g1, by simp [Sh.count, g2], fun i e' d' hi hd' => ?_⟩
            cases i with
            | zero =>
              simp [Sh.sub] at hi hd'
              subst hi; subst hd'
              exact hfg _ _ _ hd he
            | succ i => exact g3 i e' d' (by simpa [Sh.sub] using hi) (by simpa using hd')
          · cases h2
        · cases h2
      · cases h1
    · cases h1

theorem zT_spec (P : Program) : ∀ (n : Nat) (t : TypeId) (d : D) (s : Sh), zT P n t = some d → shT P n t = some s → HasSh s d
  | 0, t, d, s, h1, h2 => by simp [zT] at h1
  | n + 1, t, d, s, h1, h2 => by
    have h2' := h2
    simp only [zT] at h1
    simp only [shT] at h2
    cases hu : P.underlying t with
    | none => simp [hu] at h1
    | some u =>
      cases u with
      | struct fs =>
        simp only [hu] at h1 h2
        rw [h2'] at h1
        simp only at h1
        split at h1
        · rename_i l hl
          cases h1
          obtain ⟨g1, g2, g3⟩ := zL_spec (fun t d e hd he => zT_spec P n t d e hd he) fs.toList hl h2
          exact .agg s l g1 g2 g3
        · cases h1
      | array m e =>
        simp only [hu] at h1 h2
        rw [h2'] at h1
        simp only at h1
        split at h1
        · rename_i d' hd'
          cases h1
          split at h2
          · rename_i s' hs'
            cases h2
            refine .agg _ _ rfl (by simp [Sh.count]) fun i e' d'' hi hd'' => ?_
            simp only [Sh.sub] at hi
            split at hi
            · cases hi
              rw [List.eq_of_mem_replicate (List.mem_of_getElem? hd'')]
              exact zT_spec P n e d' s' hd' hs'
            · cases hi
          · cases h2
        · cases h1
      | bool => simp [hu] at h1 h2; subst h1; subst h2; exact .leaf _ _ rfl
      | int k => simp [hu] at h1 h2; subst h1; subst h2; exact .leaf _ _ (by simp [isSc])
      | string => simp [hu] at h1 h2; subst h1; subst h2; exact .leaf _ _ rfl
      | pointer _ => simp [hu] at h1 h2; subst h1; subst h2; exact .ref _ rfl
      | slice _ => simp [hu] at h1 h2; subst h1; subst h2; exact .ref _ rfl
      | map _ _ => simp [hu] at h1 h2; subst h1; subst h2; exact .ref _ rfl
      | func _ _ _ => simp [hu] at h1 h2; subst h1; subst h2; exact .ref _ rfl
      | interface _ => simp [hu] at h1 h2; subst h1; subst h2; exact .ref _ rfl
      | _ => simp [hu] at h1

theorem sh_shT {t : TypeId} {s : Sh} (h : sh P t = some s) : shT P 40 t = some s := by
  unfold sh at h
  split at h
  · rename_i s' hs'
    split at h
    · rename_i i hi
      cases hb : (i.size == s'.size) with
      | false => rw [hb] at h; simp at h
      | true => rw [hb] at h; simp at h; subst h; exact hs'
    · cases h
  · cases h

theorem push_old {w : World} {o : Obj} {b : Nat} (h : b < w.heap.size) : ({ w with heap := w.heap.push o } : World).heap[b]? = w.heap[b]? := by
  rw [Array.getElem?_push, if_neg (by omega)]

theorem bif_some {α : Type} {c : Bool} {x y : α} (h : (bif c then some x else none) = some y) : c = true ∧ x = y := by
  cases c with
  | false => simp at h
  | true => exact ⟨rfl, by simpa using h⟩

theorem zero_spec {t : TypeId} {s : Sh} {z : D} (hs : sh P t = some s) (hz : zero P t = some z) :
    HasSh s z ∧ ∃ v, (∀ w, (zeroValue t).run P w = .ok v w) ∧ v.cells.size = s.size ∧ ∀ ρ w T, All2 (LR ρ w T) z.flat v.cells.toList := by
  unfold zero at hz
  split at hz
  · rename_i d hd
    split at hz
    · rename_i i hi
      split at hz
      · rename_i v hv
        obtain ⟨hb', hdz⟩ := bif_some hz
        have hb := (Bool.and_eq_true_iff.1 hb').1
        · subst hdz
          have hsh := zT_spec P 40 t d s hd (sh_shT hs)
          refine ⟨hsh, v, fun w => by simp [zeroValue, typeInfo, hi, hv], ?_, fun ρ w T => sameZs_all2 hb ρ w T⟩
          have := (sameZs_all2 hb (fun _ => none) default (fun _ => False)).len
          rw [hsh.len] at this
          simpa using this.symm
      · cases hz
    · cases hz
  · cases hz

theorem Sim.pushRun (hs : Sim n ρ T env rows a w) (row : Row) (cur : Array Value) (t : TypeId) (w' : World) (hw' : w' = { w with heap := w.heap.push (.cells cur t) })
    (hels : ∀ d ∈ row.els, HasSh row.sh d) (hlen : (flatL row.els).length ≤ cur.size) (hc : All2 (LR ρ w T) (flatL row.els) (cur.toList.take (flatL row.els).length)) :
    Sim n (upd ρ rows.length ⟨w.heap.size, row.sh, cur.size⟩) T env (rows ++ [some row]) a w' ∧ Step ρ T rows w (upd ρ rows.length ⟨w.heap.size, row.sh, cur.size⟩) T (rows ++ [some row]) w' := by
  subst hw'
  exact hs.push row cur t rfl rfl rfl rfl hels hlen hc

theorem All2.takeLen {α β : Type} {R : α → β → Prop} {l : List α} {m : List β} (h : All2 R l m) : All2 R l (m.take l.length) := by
  rw [h.len, List.take_length]
  exact h

/-- laying values over cells -/
theorem foldl_cells (off : Nat) : ∀ (vs : List Value) (k : Nat) (cells : Array Value), off + k + vs.length ≤ cells.size →
    ((vs.zipIdx k).foldl (fun (cs : Array Value) (x : Value × Nat) => cs.setIfInBounds (off + x.2) x.1) cells).toList = cells.toList.take (off + k) ++ (vs ++ cells.toList.drop (off + k + vs.length))
  | [], k, cells, _ => by simp
  | v :: vs, k, cells, h => by
    simp only [List.zipIdx_cons, List.foldl_cons]
    rw [foldl_cells off vs (k + 1) _ (by simp at h ⊢; omega)]
    simp only [List.length_cons] at h
    have h1 : (cells.setIfInBounds (off + k) v).toList = cells.toList.set (off + k) v := by simp
    rw [h1]
    apply List.ext_getElem?
    intro i
    simp only [List.getElem?_append, List.length_take, List.length_set, Array.length_toList, List.getElem?_take, List.getElem?_set, List.getElem?_drop, List.length_cons, List.getElem?_cons]
    have hsz : off + k < cells.size := by omega
    rcases Nat.lt_trichotomy i (off + k) with h2 | h2 | h2
    · simp [show i < min (off + (k + 1)) cells.size by omega, show i < min (off + k) cells.size by omega, show i < off + (k + 1) by omega, show i < off + k by omega, show ¬ (off + k = i) by omega]
    · subst h2
      simp [show off + k < min (off + (k + 1)) cells.size by omega, show ¬ (off + k < min (off + k) cells.size) by omega, show min (off + k) cells.size = off + k by omega, hsz, show off + k < off + (k + 1) by omega]
    · have e1 : min (off + (k + 1)) cells.size = off + (k + 1) := by omega
      have e2 : min (off + k) cells.size = off + k := by omega
      simp only [e1, e2, show ¬ (i < off + (k + 1)) by omega, show ¬ (i < off + k) by omega, if_false]
      have e3 : i - (off + k) ≠ 0 := by omega
      by_cases h3 : i - (off + (k + 1)) < vs.length
      · simp only [h3, if_true, show i - (off + k) < vs.length + 1 by omega, e3, if_false]
        congr 1
      · simp only [h3, if_false, show ¬ (i - (off + k) < vs.length + 1) by omega]
        rw [if_neg (by omega)]
        congr 1
        omega

theorem cX_parts {l : List (Nat × Operand)} {ps : List (Nat × X)} (h : cParts l = some ps) : (l = [] ∧ ps = []) ∨ ∃ i x r y q, l = (i, x) :: r ∧ ps = (i, y) :: q ∧ cX x = some y ∧ cParts r = some q := by
  cases l with
  | nil => simp [cParts] at h; exact .inl ⟨rfl, h⟩
  | cons p r =>
    obtain ⟨i, x⟩ := p
    simp only [cParts] at h
    split at h
    · rename_i y hy
      split at h
      · rename_i q hq
        cases h
        exact .inr ⟨i, x, r, y, q, rfl, rfl, hy, hq⟩
      · cases h
    · cases h

theorem fill_sound (hs : Sim n ρ T env rows a w) (hG : Glob C ρ w T) {s : Sh} {place : Nat → Option (Nat × Nat)} (hplace : ∀ i e, s.sub i = some e → place i = some (s.offs i, e.size)) (ha : s.isAgg = true) :
    ∀ (parts : List (Nat × Operand)) (ps : List (Nat × X)) (l l' : List D) (cells : Array Value), cParts parts = some ps → fillP C env s.sub ps l = some l' → HasSh s (.agg s l) → All2 (LR ρ w T) (flatL l) cells.toList →
    ∃ cells', Instr.fill place cells (parts.map fun x => (x.1, a.eval x.2)) = some cells' ∧ HasSh s (.agg s l') ∧ All2 (LR ρ w T) (flatL l') cells'.toList := by
  intro parts
  induction parts with
  | nil =>
    intro ps l l' cells hc hf hsh hall
    simp [cParts] at hc
    subst hc
    simp [fillP] at hf
    subst hf
    exact ⟨cells, rfl, hsh, hall⟩
  | cons p parts ih =>
    intro ps l l' cells hc hf hsh hall
    rcases cX_parts hc with ⟨h, _⟩ | ⟨i, x, r, y, q, h1, h2, h3, h4⟩
    · cases h
    · cases h1
      subst h2
      simp only [fillP] at hf
      split at hf
      · rename_i d hd
        split at hf
        · rename_i e he
          cases hfit : d.fits e with
          | false => rw [hfit] at hf; simp at hf
          | true =>
            rw [hfit] at hf
            simp at hf
            obtain ⟨g1, g2, _⟩ := (ev_sound h3 hd hs hG).cells hfit
            obtain ⟨d0, hd0, hs0, hoff⟩ := hsh.part ha he
            have hall' := hall
            rw [flatL_get hd0] at hall
            have hseg := All2.seg (N := cells.toList.length) (by rw [List.take_length]; exact hall)
            have hlen0 : d0.flat.length = e.size := hs0.len
            have hvs : (a.eval x).cells.size = e.size := by rw [← g1.len]; simpa using g2.len.symm
            have hfold := foldl_cells (s.offs i) (a.eval x).cells.toList 0 cells (by rw [hoff] at hseg; simp [hvs]; simp [hlen0] at hseg; omega)
            have hset := hsh.setPart ha he g1
            have hnew : All2 (LR ρ w T) (flatL (l.set i d)) ((a.eval x).cells.zipIdx.foldl (fun cs (c, j) => cs.setIfInBounds (s.offs i + j) c) cells).toList := by
              rw [← Array.foldl_toList, Array.toList_zipIdx, hfold, flatL_set (lt_of_get hd0)]
              have q1 := hall.take (flatL (l.take i)).length
              rw [List.take_left] at q1
              have q2 := hall.drop ((flatL (l.take i)).length + d0.flat.length)
              rw [← List.drop_drop, List.drop_left, List.drop_left] at q2
              have e1 : s.offs i + 0 = (flatL (l.take i)).length := by rw [hoff]; rfl
              have e2 : s.offs i + 0 + (a.eval x).cells.toList.length = (flatL (l.take i)).length + d0.flat.length := by rw [hoff, hlen0]; simp [hvs]
              rw [e2, e1]
              exact q1.append (g2.append q2)
            obtain ⟨cells', k1, k2, k3⟩ := ih q (l.set i d) l' _ h4 hf hset hnew
            refine ⟨cells', ?_, k2, k3⟩
            simp only [List.map_cons, Instr.fill, hplace i e he]
            rw [if_neg]
            · exact k1
            · have := hseg.2
              rw [hoff, hlen0] at this
              simp [hvs]
              simp at this
              omega
        · cases hf
      · cases hf

theorem flat_replicate {s : Sh} {z : D} (hz : HasSh s z) : ∀ (m i : Nat), (flatL (List.replicate m z))[i]? = if i < m * s.size then z.flat[i % s.size]? else none
  | 0, i => by simp [flatL]
  | m + 1, i => by
    simp only [List.replicate_succ, flatL]
    rw [List.getElem?_append, hz.len]
    by_cases h : i < s.size
    · rw [if_pos h, if_pos (by rw [Nat.succ_mul]; omega), Nat.mod_eq_of_lt h]
    · rw [if_neg h, flat_replicate hz m (i - s.size)]
      have h0 : 0 < s.size ∨ s.size = 0 := by omega
      rcases h0 with h0 | h0
      · have e : i % s.size = (i - s.size) % s.size := by
          rw [← Nat.mod_eq_sub_mod (by omega)]
        rw [e]
        by_cases h1 : i - s.size < m * s.size
        · rw [if_pos h1, if_pos (by rw [Nat.succ_mul]; omega)]
        · rw [if_neg h1, if_neg (by rw [Nat.succ_mul]; omega)]
      · simp [h0]

theorem zeros_all2 {s : Sh} {z : D} {v : Value} (hz : HasSh s z) (hv : v.cells.size = s.size) (hc : All2 (LR ρ w T) z.flat v.cells.toList) (m : Nat) :
    All2 (LR ρ w T) (flatL (List.replicate m z)) ((Array.range (m * s.size)).map (v.cells[· % v.cells.size]!)).toList := by
  refine ⟨?_, fun i x y hx hy => ?_⟩
  · rw [flatL_len_all (s := s) (fun d hd => (List.eq_of_mem_replicate hd) ▸ hz)]
    simp
  · rw [flat_replicate hz] at hx
    split at hx
    · rename_i hi
      simp only [Array.toList_map, Array.toList_range, List.getElem?_map, List.getElem?_range hi, Option.map_some, Option.some.injEq] at hy
      obtain ⟨u, hu, hr⟩ := hc.some hx
      have hlt : i % v.cells.size < v.cells.size := by
        rw [hv]
        apply Nat.mod_lt
        rcases Nat.eq_zero_or_pos s.size with h0 | h0
        · rw [h0] at hi; simp at hi
        · exact h0
      have e : v.cells[i % v.cells.size]! = u := by
        have h1 : v.cells[i % s.size]? = some u := by simpa using hu
        rw [hv]
        rw [hv] at hlt
        have h2 : i % s.size < v.cells.size := by omega
        rw [getElem!_pos v.cells (i % s.size) h2]
        rw [Array.getElem?_eq_getElem h2] at h1
        exact Option.some.inj h1
      rw [← hy, e]
      exact hr
    · cases hx

section ops
variable (hs : Sim n ρ T env rows a w) (hG : Glob C ρ w T) {o : Oper} {k : D → Rows → Prop}
include hs hG

omit hG in
theorem op_alloc {t : TypeId} {s : Sh} {z : D} (ho : o.op = .alloc t) (hsh : sh P t = some s) (hz : zero P t = some z) (h : aop C env rows (.alloc s z) k) : OpGoal P n o ρ T env rows a w k := by
  obtain ⟨h1, v, h2, h3, h4⟩ := zero_spec hsh hz
  have hc : All2 (LR ρ w T) (flatL [z]) v.cells.toList := by simpa [flatL] using h4 ρ w T
  obtain ⟨g1, g2⟩ := hs.pushRun ⟨s, [z]⟩ v.cells t _ rfl (by simpa using h1) (by simp [flatL, h1.len, h3]) hc.takeLen
  refine ⟨_, _, _, _, .pointer (some ⟨w.heap.size, 0, none⟩), _, h, g1, g2, ?_, .inl ?_, fun _ => ⟨fun b hb => .inl (push_old hb), fun _ h => .inl h⟩⟩
  · have := LR.ptr (ρ := upd ρ rows.length ⟨w.heap.size, s, v.cells.size⟩) (w := { w with heap := w.heap.push (.cells v.cells t) }) (T := T) s rows.length [0] ⟨w.heap.size, s, v.cells.size⟩ (by simp [upd]) rfl
    simpa [Loc.off, Sh.off] using VR.ofLeaf this
  · simp [execOp, ho, Instr.alloc, h2, newVar, newRow]

theorem op_box {t : TypeId} {x : Operand} {x' : X} {s : Sh} (ho : o.op = .box t x) (h1 : cX x = some x') (h : aop C env rows (.box s x') k) : OpGoal P n o ρ T env rows a w k := by
  obtain ⟨d, he, hf, hk⟩ := bnd_some h
  obtain ⟨g1, g2, _⟩ := (ev_sound h1 he hs hG).cells hf
  have hc : All2 (LR ρ w T) (flatL [d]) (a.eval x).cells.toList := by simpa [flatL] using g2
  obtain ⟨q1, q2⟩ := hs.pushRun ⟨s, [d]⟩ (a.eval x).cells t _ rfl (by simpa using g1) (by have := hc.len; simp at this ⊢; omega) hc.takeLen
  refine ⟨_, _, _, _, .pointer (some ⟨w.heap.size, 0, none⟩), _, hk, q1, q2, ?_, .inl ?_, fun _ => ⟨fun b hb => .inl (push_old hb), fun _ h => .inl h⟩⟩
  · have := LR.ptr (ρ := upd ρ rows.length ⟨w.heap.size, s, (a.eval x).cells.size⟩) (w := { w with heap := w.heap.push (.cells (a.eval x).cells t) }) (T := T) s rows.length [0] ⟨w.heap.size, s, (a.eval x).cells.size⟩ (by simp [upd]) rfl
    simpa [Loc.off, Sh.off] using VR.ofLeaf this
  · simp [execOp, ho, Instr.box, newVar, newRow]

theorem op_store {t : TypeId} {x y : Operand} {x' y' : X} {s : Sh} (ho : o.op = .store t x y) (hsh : sh P t = some s) (h1 : cX x = some x') (h2 : cX y = some y') (h : aop C env rows (.store s x' y') k) : OpGoal P n o ρ T env rows a w k := by
  obtain ⟨d, he, hk⟩ := bnd_some h
  have hv := ev_sound h1 he hs hG
  split at hk
  · rename_i s' r p
    obtain ⟨d, he2, k1⟩ := bnd_some hk
    obtain ⟨hf, hss, k2⟩ := k1
    subst hss
    obtain ⟨row, hlive, k3⟩ := bnd_some k2
    obtain ⟨els, hset, k4⟩ := bnd_some k3
    clear hk k2 k3
    obtain ⟨g1, g2, _⟩ := (ev_sound h2 he2 hs hG).cells hf
    have hl : LR ρ w T _ _ := hv
    generalize hx : a.eval x = v at hl
    cases hl with
    | ptr _ _ _ L hL hp =>
      have hr := hs.rowsOK.row r row L hlive hL
      obtain ⟨cur, t', q1, q2, q3, q4⟩ := hr.cells
      cases p with
      | nil => simp [Loc.at] at hp
      | cons i p =>
        simp only [Loc.at, hr.sh] at hp
        obtain ⟨m1, m2, m3, pre, old, post, m4, m5, m6, m7⟩ := rowSet_spec hr.els hp g1 hset
        rw [m4] at q4
        have hseg := q4.seg
        have hoff : L.off (i :: p) = pre.length := by simp [Loc.off, hr.sh, m6]
        have hvl : (a.eval y).cells.toList.length = d.flat.length := g2.len.symm
        have hfit : L.off (i :: p) + 0 + (a.eval y).cells.toList.length ≤ cur.size := by rw [hoff, hvl, ← m7]; simpa using hseg.2
        have hone : ∀ v ∈ (a.eval y).cells.toList, v.oneCell' = true := by
          intro v hv
          obtain ⟨j, hj, rfl⟩ := List.mem_iff_getElem.1 hv
          exact (g2.at_ j _ _ (List.getElem?_eq_getElem (by omega)) (List.getElem?_eq_getElem hj)).one
        have hst := run_storeCells_row P L.b (L.off (i :: p)) t' (a.eval y).cells.toList 0 cur w q1 hfit hone
        have hfl : (flatL els).length = (pre ++ (old ++ post)).length := by rw [m5]; simp [m7]
        have hnew : All2 (LR ρ w T) (flatL els) ((cur.toList.take (L.off (i :: p) + 0) ++ (a.eval y).cells.toList ++ cur.toList.drop (L.off (i :: p) + 0 + (a.eval y).cells.toList.length)).take (flatL els).length) := by
          rw [hoff, hvl, ← m7]
          have z1 := q4.take pre.length
          rw [List.take_left, List.take_take] at z1
          have z2 := q4.drop (pre.length + old.length)
          rw [← List.drop_drop, List.drop_left, List.drop_left, List.drop_take] at z2
          have hle : pre.length + old.length ≤ cur.toList.length := hseg.2
          have : ((cur.toList.take (pre.length + 0) ++ (a.eval y).cells.toList ++ cur.toList.drop (pre.length + 0 + old.length)).take (flatL els).length) =
              cur.toList.take (min pre.length (pre ++ (old ++ post)).length) ++ ((a.eval y).cells.toList ++ ((cur.toList.drop (pre.length + old.length)).take ((pre ++ (old ++ post)).length - (pre.length + old.length)))) := by
            rw [List.append_assoc, hfl, List.take_append, List.take_append]
            simp only [Nat.add_zero, List.length_take]
            have e1 : min pre.length cur.toList.length = pre.length := by omega
            rw [e1]
            simp only [List.length_append]
            rw [List.take_take]
            have e2 : min (pre.length + (old.length + post.length)) pre.length = min pre.length (pre.length + (old.length + post.length)) := by omega
            rw [e2]
            congr 1
            have e3 : (a.eval y).cells.toList.length = old.length := by omega
            rw [e3]
            congr 1
            · rw [List.take_of_length_le]
              omega
            · congr 1
              omega
          rw [this, m5]
          exact z1.append (g2.append z2)
        obtain ⟨u1, u2⟩ := hs.write hlive hL els cur _ t' q1 (by have hf2 := hfit; simp only [Array.length_toList] at hf2; simp only [List.size_toArray, List.length_append, List.length_take, List.length_drop, Array.length_toList]; omega) m1
          (by rw [hfl]; rw [m4] at q3; exact q3) hnew
        refine ⟨_, _, ρ, T, undef, _, k4, u1, u2, ?_, .inr ⟨?_, rfl⟩, fun hq => by rw [ho] at hq; cases hq⟩
        · exact ⟨#[], rfl, .nil⟩
        · obtain ⟨inf, hi, hsz⟩ := sh_info hsh
          have hcs : (a.eval y).cells.size = s'.size := by rw [← g1.len]; simpa using g2.len.symm
          simp [execOp, ho, hx, Instr.storeAt, Instr.sureAddr, storeVar, sizeOf, typeInfo, hi, hsz, hcs, hst]
  · exact hk.elim
end ops

end Go.Am
