/- The operations that read memory, and addresses. -/
import Derived.Test.YtloclegkilgglaaAm6
namespace Go.Am
set_option linter.unusedVariables false
set_option linter.unusedSimpArgs false

variable {C : Ctx} {P : Program} {n : Nat} {ρ : Pl} {T : Nat → Prop} {env : Env} {rows : Rows} {a : Act} {w : World}

theorem sh_info {t : TypeId} {s : Sh} (h : sh P t = some s) : ∃ i, P.info? t = some i ∧ i.size = s.size := by
  unfold sh at h
  split at h
  · split at h
    · rename_i i hi
      cases hb : (i.size == _) with
      | false => rw [hb] at h; simp at h
      | true =>
        rw [hb] at h
        simp at h
        subst h
        exact ⟨i, hi, by simpa using hb⟩
    · cases h
  · cases h
theorem run_sizeOf {t : TypeId} {s : Sh} (h : sh P t = some s) (w : World) : (sizeOf t).run P w = .ok s.size w := by
  obtain ⟨i, hi, hs⟩ := sh_info h
  simp [sizeOf, typeInfo, hi, hs]
theorem leafOk_spec {t : TypeId} {s : Sh} (h : leafOk P t s = true) : ∃ d, P.underlying t = some d ∧ isAggD d = s.isAgg := by
  unfold leafOk at h
  split at h
  · rename_i d hd
    exact ⟨d, hd, by simpa using h⟩
  · cases h
theorem run_isAgg {t : TypeId} {s : Sh} (h : leafOk P t s = true) (w : World) : (isAgg t).run P w = .ok s.isAgg w := by
  obtain ⟨d, hd, he⟩ := leafOk_spec h
  rw [← he]
  cases d <;> simp [isAgg, run_underlying hd, isAggD]

def ofCells (s : Sh) (cs : List Value) : Value := if s.isAgg then .agg cs.toArray else cs.headD undef

theorem run_loadVar_at {t : TypeId} {s : Sh} (h : sh P t = some s) (hl : leafOk P t s = true) {b o : Nat} {cs : List Value} (hat : At w b o cs) (hlen : cs.length = s.size) (hone : s.isAgg = false → cs.length = 1) :
    (loadVar t ⟨b, o, none⟩).run P w = .ok (ofCells s cs) w := by
  cases hs : s.isAgg with
  | true =>
    have hc := run_loadCells_list (P := P) w ⟨b, o, none⟩ cs (fun j v hv => by rw [addr_add]; exact hat j v hv)
    rw [hlen] at hc
    simp [loadVar, run_isAgg hl, run_sizeOf h, hs, ofCells, hc]
  | false =>
    have h1 := hone hs
    match cs, h1 with
    | [x], _ =>
      have := hat 0 x rfl
      simp at this
      simp [loadVar, run_isAgg hl, hs, ofCells, this]

theorem VR.ofCells {s : Sh} {d : D} {cs : List Value} (h : HasSh s d) (hc : All2 (LR ρ w T) d.flat cs) : VR ρ w T d (Am.ofCells s cs) := by
  unfold Am.ofCells
  cases hs : s.isAgg with
  | true => exact VR.ofVR1 (VR1.ofAgg h hs (by simpa using hc))
  | false =>
    have hl := h.leafOf hs
    rw [leaf_flat hl] at hc
    have := hc.len
    match cs, this with
    | [x], _ => exact VR.ofLeaf hc.head
theorem leaf_one {s : Sh} {d : D} {cs : List Value} (h : HasSh s d) (hc : All2 (LR ρ w T) d.flat cs) : s.isAgg = false → cs.length = 1 := by
  intro hs
  rw [← hc.len, leaf_flat (h.leafOf hs)]
  rfl

theorem agg_sh {s t : Sh} {l : List D} (h : HasSh s (.agg t l)) : s = t ∧ s.isAgg = true := by
  cases h with
  | ref _ h => simp [D.isLeaf] at h
  | agg _ _ h _ _ => exact ⟨rfl, h⟩
theorem fits_sh {s t : Sh} {d : D} (h : HasSh t d) (hf : d.fits s = true) : HasSh s d := by
  cases d with
  | agg u l =>
    simp [D.fits] at hf
    subst hf
    obtain ⟨rfl, _⟩ := agg_sh h
    exact h
  | tup l => cases s <;> simp [D.fits] at hf
  | raw v =>
    cases s <;> simp [D.fits] at hf
    · exact .leaf _ v hf
    · exact .ref _ hf
  | _ => cases s <;> simp [D.fits] at hf; exact .ref _ hf

theorem Loc.at_snoc {L : Loc} {p : List Nat} {s : Sh} (h : L.at p = some s) (i : Nat) : L.at (p ++ [i]) = s.sub i ∧ L.off (p ++ [i]) = L.off p + s.offs i := by
  cases p with
  | nil => simp [Loc.at] at h
  | cons j p =>
    simp only [Loc.at] at h
    refine ⟨by simp only [List.cons_append, Loc.at]; exact Am.at_snoc p i h, ?_⟩
    simp only [List.cons_append, Loc.off]
    rw [off_snoc p i h]
    omega

/-- a part of immutable data -/
theorem cptr_part {s e : Sh} {l : List D} {i : Nat} {d : D} {v : Value} (hv : LR ρ w T (.cptr (.agg s l)) v) (hsub : s.sub i = some e) (hd : l[i]? = some d) :
    ∃ b o', v = .pointer (some ⟨b, o', none⟩) ∧ LR ρ w T (.cptr d) (.pointer (some ⟨b, o' + s.offs i, none⟩)) := by
  obtain ⟨b, o', cs, s', hx, g1, hT, g2, g3⟩ := LR.readCptr hv
  obtain ⟨rfl, ha⟩ := agg_sh g1
  obtain ⟨d', hd', hsd, hoff⟩ := g1.part ha hsub
  rw [hd] at hd'
  cases hd'
  simp only [D.flat] at g2
  rw [flatL_get hd] at g2
  refine ⟨b, o', hx, .mkCptr (cs := (cs.drop (flatL (l.take i)).length).take d.flat.length) hsd hT ?_ ?_⟩
  · have := (g2.drop (flatL (l.take i)).length).take d.flat.length
    rwa [List.drop_left, List.take_left] at this
  · rw [← hoff]
    exact (g3.drop _).take _

theorem run_part {t : TypeId} {s : Sh} {cs : Array Value} {o' : Nat} {ms : List Value} (hsh : sh P t = some s) (hl : leafOk P t s = true) (hlen : ms.length = s.size) (hone : s.isAgg = false → ms.length = 1)
    (hms : (cs.toList.drop o').take ms.length = ms) : (part t cs o').run P w = .ok (Am.ofCells s ms) w := by
  cases hsa : s.isAgg with
  | true =>
    have : cs.extract o' (o' + s.size) = ms.toArray := by
      apply Array.ext'
      rw [Array.toList_extract]
      simp only [List.extract]
      rw [show o' + s.size - o' = ms.length by omega, hms]
    simp [part, run_isAgg hl, hsa, run_sizeOf hsh, ofCells, this]
  | false =>
    have h1 := hone hsa
    match ms, h1 with
    | [x], _ =>
      have hx : cs[o']? = some x := by
        have := congrArg (fun l => l[0]?) hms
        simpa [List.getElem?_take] using this
      simp [part, run_isAgg hl, hsa, ofCells, hx]

theorem exec_builtin {o : Oper} {c : Call} {b : Builtin} (ho : o.op = .call c) (hc : c.callee = .builtin b) :
    execOp a.eval o = builtin b c.argTypes o.type (c.args.map fun | .const _ => true | _ => false) (c.args.map a.eval) := by
  simp only [execOp, ho, resolve, hc]
  rfl

section ops
variable (hs : Sim n ρ T env rows a w) (hG : Glob C ρ w T) {o : Oper} {k : D → Rows → Prop}
include hs hG

theorem op_load {t : TypeId} {x : Operand} {x' : X} {s : Sh} (ho : o.op = .load t x) (hsh : sh P t = some s) (hl : leafOk P t s = true) (h1 : cX x = some x') (h : aop C env rows (.load s x') k) : OpGoal P n o ρ T env rows a w k := by
  obtain ⟨d, he, hk⟩ := bnd_some h
  have hv := ev_sound h1 he hs hG
  split at hk
  · obtain ⟨rfl, hk⟩ := hk
    obtain ⟨row, hlive, hk⟩ := bnd_some hk
    obtain ⟨d, hg, hk⟩ := bnd_some hk
    obtain ⟨b, o', cs, hx, g1, g2, g3⟩ := hs.rowsOK.readPtr hv hlive hg
    refine .here hs hk (VR.ofCells g1 g2) ?_
    have hlen := g2.len
    rw [g1.len] at hlen
    simp [execOp, ho, hx, Instr.loadAt, Instr.sureAddr, run_loadVar_at hsh hl g3 hlen.symm (leaf_one g1 g2)]
  · obtain ⟨hf, hk⟩ := hk
    obtain ⟨b, o', cs, s', hx, g1, _, g2, g3⟩ := LR.readCptr hv
    have g1' := fits_sh g1 hf
    refine .here hs hk (VR.ofCells g1' g2) ?_
    have hlen : cs.length = Sh.size s := by rw [← g2.len, g1'.len]
    simp [execOp, ho, hx, Instr.loadAt, Instr.sureAddr, run_loadVar_at hsh hl g3 hlen (leaf_one g1' g2)]
  · rename_i m t r p off
    obtain ⟨rfl, hk⟩ := hk
    obtain ⟨l, hl', hk⟩ := bnd_some hk
    obtain ⟨hlen, hk⟩ := hk
    have hv' : LR ρ w T (.aptr m t r p off) _ := hv
    generalize hx : a.eval x = v at hv'
    cases hv' with
    | aptr _ _ _ _ _ L hL h2 =>
      have hsl : LR ρ w T (.sl t r p off m false) (.slice (some ⟨L.b, L.off p + off * t.size, none⟩) m m) := .sl t r p off m false L m hL (Nat.le_refl _) (by simp) h2
      obtain ⟨ad, cap, cs, hH⟩ := hs.rowsOK.holds (s := t) hsl hl' rfl hlen (by simp [sshape])
      have hat : At w L.b (L.off p + off * t.size) cs := by
        intro j y hy
        obtain ⟨b, o', e1, e2⟩ := hH.at_ j y hy
        have e3 := hH.hv
        rw [e1] at e3
        cases e3
        exact e2
      have hsh' : HasSh (.ar m t) (.agg (.ar m t) l) := .agg _ l rfl (by simp [Sh.count, hlen]) (fun i e d hi hd => by
        simp only [Sh.sub] at hi
        split at hi
        · cases hi; exact hH.els d (mem_of_get hd)
        · cases hi)
      have hg2 : All2 (LR ρ w T) (D.agg (.ar m t) l).flat cs := by simpa [D.flat] using hH.hcs
      have hcl : cs.length = Sh.size (.ar m t) := by rw [← hg2.len, hsh'.len]
      refine .here hs hk (VR.ofCells hsh' hg2) ?_
      simp [execOp, ho, hx, Instr.loadAt, Instr.sureAddr, run_loadVar_at hsh hl hat hcl (leaf_one hsh' hg2)]
  · exact hk.elim

theorem op_faddr {t : TypeId} {x : Operand} {x' : X} {s e : Sh} {i : Nat} {fs : Array Field} {f : Field} {inf : TypeInfo} (ho : o.op = .fieldAddr t x i) (hu : P.underlying t = some (.struct fs)) (hf : fs[i]? = some f)
    (he' : s.sub i = some e) (hoff : f.offset = s.offs i) (hinf : P.info? f.type = some inf) (hsz : inf.size = e.size) (hne : e.size ≠ 0) (h1 : cX x = some x') (h : aop C env rows (.faddr s x' i) k) : OpGoal P n o ρ T env rows a w k := by
  obtain ⟨d, he, hk⟩ := bnd_some h
  have hv := ev_sound h1 he hs hG
  have hplace : ∀ b o' : Nat, (Instr.fieldAt t (.pointer (some ⟨b, o', none⟩)) i).run P w = .ok (.pointer (some ⟨b, o' + s.offs i, none⟩)) w := by
    intro b o'
    simp [Instr.fieldAt, run_underlying hu, hf, Instr.sureAddr, fieldPlace, sizeOf, typeInfo, hinf, hsz, hne, hoff, addr_add]
  split at hk
  · obtain ⟨rfl, hk⟩ := hk
    obtain ⟨e2, he2, hk⟩ := bnd_some hk
    have hl : LR ρ w T _ _ := hv
    generalize hx : a.eval x = v at hl
    cases hl with
    | ptr _ _ _ L hL hp =>
      obtain ⟨g1, g2⟩ := L.at_snoc hp i
      refine .here hs hk (VR.ofLeaf (.ptr _ _ _ L hL (g1.trans he2))) ?_
      rw [g2]
      simp [execOp, ho, hx, hplace]
  · obtain ⟨rfl, hk⟩ := hk
    obtain ⟨d2, hd2, hk⟩ := bnd_some hk
    obtain ⟨b, o', hx, g1⟩ := cptr_part (show LR ρ w T _ _ from hv) he' hd2
    refine .here hs hk (VR.ofLeaf g1) ?_
    simp [execOp, ho, hx, hplace]
  · exact hk.elim

theorem op_field {t : TypeId} {x : Operand} {x' : X} {s e : Sh} {i : Nat} {fs : Array Field} {f : Field} (ho : o.op = .field t x i) (hu : P.underlying t = some (.struct fs)) (hf : fs[i]? = some f)
    (he' : s.sub i = some e) (hoff : f.offset = s.offs i) (hsh : sh P f.type = some e) (hl : leafOk P f.type e = true) (h1 : cX x = some x') (h : aop C env rows (.field s x' i) k) : OpGoal P n o ρ T env rows a w k := by
  obtain ⟨d, he, hk⟩ := bnd_some h
  have hv := ev_sound h1 he hs hG
  split at hk
  · rename_i u l
    obtain ⟨rfl, hk⟩ := hk
    obtain ⟨d2, hd2, hk⟩ := bnd_some hk
    obtain ⟨cs, hx, g1, g2⟩ := hv
    obtain ⟨_, ha⟩ := agg_sh g1
    obtain ⟨d', hd', hsd, hoff'⟩ := g1.part ha he'
    rw [hd2] at hd'
    cases hd'
    rw [flatL_get hd2] at g2
    have g3 := (g2.drop (flatL (List.take i l)).length).take d2.flat.length
    rw [List.drop_left, List.take_left, hoff'] at g3
    refine .here hs hk (VR.ofCells hsd g3) ?_
    have hlen := g3.len
    have := run_part (w := w) (o' := f.offset) (ms := (cs.toList.drop (Sh.offs u i)).take d2.flat.length) hsh hl (by rw [← hlen, hsd.len]) (leaf_one hsd g3) (by rw [← hlen, hoff])
    simp [execOp, ho, hx, Instr.field, run_underlying hu, hf, asAgg, this]
  · exact hk.elim

theorem op_iaddrA {t e : TypeId} {x i : Operand} {x' i' : X} {s : Sh} {m : Nat} (ho : o.op = .indexAddr t x i) (hu : P.underlying t = some (.array m e)) (hsh : sh P e = some s) (h1 : cX x = some x') (h2 : cX i = some i')
    (h : aop C env rows (.iaddra m s x' i') k) : OpGoal P n o ρ T env rows a w k := by
  obtain ⟨d, he, hk⟩ := bnd_some h
  obtain ⟨d2, he2, hk⟩ := bnd_some hk
  have hv := ev_sound h1 he hs hG
  split at hk
  · rename_i kd j
    have hi := ev_raw h2 he2 hs hG
    have hplace : ∀ b o' : Nat, 0 ≤ j → j < (m : Int) → (Instr.indexAt t (.pointer (some ⟨b, o', none⟩)) (.int kd j)).run P w = .ok (.pointer (some ⟨b, o' + j.toNat * s.size, none⟩)) w := by
      intro b o' g1 g2
      simp [Instr.indexAt, asIntOf, run_underlying hu, Instr.sureAddr, g1, g2, run_sizeOf hsh, addr_add]
    split at hk
    · rename_i t' r p
      obtain ⟨rfl, g1, g2, hk⟩ := hk
      have hl : LR ρ w T _ _ := hv
      generalize hx : a.eval x = v at hl
      cases hl with
      | ptr _ _ _ L hL hp =>
        obtain ⟨g3, g4⟩ := L.at_snoc hp j.toNat
        have g5 : (Sh.ar m s).sub j.toNat = some s := by simp [Sh.sub]; omega
        refine .here hs hk (VR.ofLeaf (.ptr _ _ _ L hL (g3.trans g5))) ?_
        rw [g4]
        simp only [Sh.offs]
        simp [execOp, ho, hx, hi, hplace _ _ g1 g2]
    · rename_i t' l
      obtain ⟨rfl, g1, g2, hk⟩ := hk
      obtain ⟨d3, hd3, hk⟩ := bnd_some hk
      have g5 : (Sh.ar m s).sub j.toNat = some s := by simp [Sh.sub]; omega
      obtain ⟨b, o', hx, g6⟩ := cptr_part (show LR ρ w T _ _ from hv) g5 hd3
      refine .here hs hk (VR.ofLeaf g6) ?_
      simp only [Sh.offs]
      simp [execOp, ho, hx, hi, hplace _ _ g1 g2]
    · exact hk.elim
  · exact hk.elim

theorem op_iaddrS {t e : TypeId} {x i : Operand} {x' i' : X} {s : Sh} (ho : o.op = .indexAddr t x i) (hu : P.underlying t = some (.slice e)) (hsh : sh P e = some s) (h1 : cX x = some x') (h2 : cX i = some i')
    (h : aop C env rows (.iaddrs s x' i') k) : OpGoal P n o ρ T env rows a w k := by
  obtain ⟨d, he, hk⟩ := bnd_some h
  obtain ⟨d2, he2, hk⟩ := bnd_some hk
  have hv := ev_sound h1 he hs hG
  split at hk
  · rename_i kd j
    have hi := ev_raw h2 he2 hs hG
    have hplace : ∀ b o' len cap : Nat, 0 ≤ j → j < (len : Int) → (Instr.indexAt t (.slice (some ⟨b, o', none⟩) len cap) (.int kd j)).run P w = .ok (.pointer (some ⟨b, o' + j.toNat * s.size, none⟩)) w := by
      intro b o' len cap g1 g2
      simp [Instr.indexAt, asIntOf, run_underlying hu, Instr.sureAddr, g1, g2, run_sizeOf hsh, addr_add]
    split at hk
    · rename_i t' r p off len ex hq
      obtain ⟨rfl, g1, g2, hk⟩ := hk
      have hl : LR ρ w T _ _ := hv
      generalize hx : a.eval x = v at hl
      cases hl with
      | slz => simp at g2; omega
      | sl _ _ _ _ _ _ L cap hL c1 c2 c3 =>
        have key : L.at (p ++ [off + j.toNat]) = some t' ∧ L.off (p ++ [off + j.toNat]) = L.off p + off * t'.size + j.toNat * t'.size := by
          rcases c3 with ⟨rfl, rfl, _⟩ | ⟨m, c3, c4⟩
          · refine ⟨by simp [Loc.at, Sh.at], ?_⟩
            simp [Loc.off, Sh.off, Nat.add_mul]
          · obtain ⟨g3, g4⟩ := L.at_snoc c3 (off + j.toNat)
            refine ⟨g3.trans (by simp [Sh.sub]; omega), ?_⟩
            rw [g4]
            simp [Sh.offs, Nat.add_mul]
            omega
        refine .here hs hk (VR.ofLeaf (.ptr _ _ _ L hL key.1)) ?_
        rw [key.2]
        simp [execOp, ho, hx, hi, hplace _ _ _ _ g1 g2]
    · rename_i t' l ex hq
      obtain ⟨rfl, g1, g2, hk⟩ := hk
      obtain ⟨d3, hd3, hk⟩ := bnd_some hk
      have hl : LR ρ w T _ _ := hv
      generalize hx : a.eval x = v at hl
      cases hl with
      | lst0 => simp at g2; omega
      | lst _ _ _ b o' cap f c1 hb c2 c3 c4 c5 =>
        obtain ⟨cs, c6, c7⟩ : ∃ cs, All2 (LR ρ w T) (flatL l) cs ∧ At w b o' cs := ⟨_, lr_at (d := default) c2 c3⟩
        rw [flatL_get hd3] at c6
        have c8 := (c6.drop (flatL (l.take j.toNat)).length).take d3.flat.length
        rw [List.drop_left, List.take_left] at c8
        have hoff : (flatL (l.take j.toNat)).length = j.toNat * t'.size := by
          rw [flatL_len_all (fun d hd => c1 d (List.mem_of_mem_take hd)), List.length_take, Nat.min_eq_left (Nat.le_of_lt (lt_of_get hd3))]
        refine .here hs hk (VR.ofLeaf (.mkCptr (c1 _ (mem_of_get hd3)) hb c8 ((c7.drop _).take _))) ?_
        rw [hoff]
        simp [execOp, ho, hx, hi, hplace _ _ _ _ g1 g2]
    · exact hk.elim
  · exact hk.elim

theorem op_index {t e : TypeId} {x i : Operand} {x' i' : X} {s : Sh} {m : Nat} (ho : o.op = .index t x i) (hu : P.underlying t = some (.array m e)) (hsh : sh P e = some s) (hlf : leafOk P e s = true) (h1 : cX x = some x') (h2 : cX i = some i')
    (h : aop C env rows (.index m s x' i') k) : OpGoal P n o ρ T env rows a w k := by
  obtain ⟨d, he, hk⟩ := bnd_some h
  have hv := ev_sound h1 he hs hG
  split at hk
  · rename_i t' l
    obtain ⟨d2, he2, hk⟩ := bnd_some hk
    split at hk
    · rename_i kd j
      have hi := ev_raw h2 he2 hs hG
      obtain ⟨rfl, g1, g2, hk⟩ := hk
      obtain ⟨d3, hd3, hk⟩ := bnd_some hk
      obtain ⟨cs, hx, q1, q2⟩ := hv
      have g5 : (Sh.ar m s).sub j.toNat = some s := by simp [Sh.sub]; omega
      obtain ⟨d', hd', hsd, hoff'⟩ := q1.part rfl g5
      rw [hd3] at hd'
      cases hd'
      rw [flatL_get hd3] at q2
      have g3 := (q2.drop (flatL (List.take j.toNat l)).length).take d3.flat.length
      rw [List.drop_left, List.take_left, hoff'] at g3
      refine .here hs hk (VR.ofCells hsd g3) ?_
      have hlen := g3.len
      have := run_part (w := w) (o' := j.toNat * s.size) (ms := (cs.toList.drop (Sh.offs (.ar m s) j.toNat)).take d3.flat.length) hsh hlf (by rw [← hlen, hsd.len]) (leaf_one hsd g3) (by rw [← hlen]; rfl)
      simp [execOp, ho, hx, hi, Instr.index, asIntOf, run_underlying hu, g1, g2, run_sizeOf hsh, this]
    · exact hk.elim
  · exact hk.elim

theorem op_sindex {t : TypeId} {x i : Operand} {x' i' : X} (ho : o.op = .index t x i) (hu : P.underlying t = some .string) (h1 : cX x = some x') (h2 : cX i = some i')
    (h : aop C env rows (.sindex x' i') k) : OpGoal P n o ρ T env rows a w k := by
  obtain ⟨d, he, hk⟩ := bnd_some h
  split at hk
  · rename_i b
    obtain ⟨d2, he2, hk⟩ := bnd_some hk
    split at hk
    · rename_i kd j
      have hx := ev_raw h1 he hs hG
      have hi := ev_raw h2 he2 hs hG
      obtain ⟨g1, hk⟩ := hk
      obtain ⟨c, hc, hk⟩ := bnd_some hk
      refine .here hs hk (VR.raw rfl) ?_
      have hc' : b[j.toNat]? = some c := by
        have hlt := lt_of_get hc
        have hlt' : j.toNat < b.size := by simpa using hlt
        rw [List.getElem?_eq_getElem hlt] at hc
        simp at hc
        rw [getElem?_pos b j.toNat hlt']
        simp [← hc]
        rfl
      simp [execOp, ho, hx, hi, Instr.index, asIntOf, run_underlying hu, g1, hc']
    · exact hk.elim
  · exact hk.elim

end ops

end Go.Am
