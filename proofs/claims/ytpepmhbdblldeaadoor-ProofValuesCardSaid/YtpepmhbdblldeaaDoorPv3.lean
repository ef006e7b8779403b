import Derived.Test.YtpepmhbdblldeaaDoorPv2
namespace Go.Am
set_option linter.unusedVariables false
set_option linter.unusedSimpArgs false
theorem bnd_some {α : Type} {x : Option α} {k : α → Prop} (h : bnd x k) : ∃ a, x = some a ∧ k a := by
 cases x with
 | none => exact h.elim
 | some a => exact ⟨a, rfl, h⟩
theorem o2_some {α β : Type} {x : Option α} {f : α → Option β} {y : β} (h : o2 x f = some y) : ∃ a, x = some a ∧ f a = some y := by
 cases x with
 | none => simp [o2] at h
 | some a => exact ⟨a, rfl, h⟩
theorem ifo_some {α : Type} {b : Bool} {x : Option α} {y : α} (h : ifo b x = some y) : b = true ∧ x = some y := by
 cases b with
 | false => simp [ifo] at h
 | true => exact ⟨rfl, h⟩
variable {C : Ctx} {P : Program} {n : Nat} {ρ : Pl} {T : Nat → Prop} {env : Env} {rows : Rows} {a : Act} {w : World}
def Glob (C : Ctx) (ρ : Pl) (w : World) (T : Nat → Prop) : Prop := ∀ g d, C.glob g = some d → LR ρ w T (.cptr d) (.pointer (some ⟨g, 0, none⟩))
def Runs (P : Program) (o : Oper) (a : Act) (w : World) (v : Value) (w' : World) : Prop :=
 (execOp a.eval o).run P w = .ok (.value v) w' ∨ ((execOp a.eval o).run P w = .ok .skip w' ∧ v = undef)
def OpGoal (P : Program) (n : Nat) (o : Oper) (ρ : Pl) (T : Nat → Prop) (env : Env) (rows : Rows) (a : Act) (w : World) (k : D → Rows → Prop) : Prop :=
 ∃ d rows' ρ' T' v w', k d rows' ∧ Sim n ρ' T' env rows' a w' ∧ Step ρ T rows w ρ' T' rows' w' ∧ VR ρ' w' T' d v ∧ Runs P o a w v w' ∧ (quietOp o.op = true → QH ρ rows w w' ∧ ∀ b, T' b → T b ∨ w.heap.size ≤ b)
theorem OpGoal.here {o : Oper} {k : D → Rows → Prop} (hs : Sim n ρ T env rows a w) {d : D} {v : Value} (hk : k d rows) (hv : VR ρ w T d v) (hr : (execOp a.eval o).run P w = .ok (.value v) w) :
  OpGoal P n o ρ T env rows a w k := ⟨d, rows, ρ, T, v, w, hk, hs, Step.refl _ _ _ _, hv, .inl hr, fun _ => ⟨fun _ _ => .inl rfl, fun _ h => .inl h⟩⟩
theorem ev_sound {x : Operand} {y : X} {d : D} (hc : cX x = some y) (he : ev C env y = some d) (hs : Sim n ρ T env rows a w) (hG : Glob C ρ w T) : VR ρ w T d (a.eval x) := by
 cases x with
 | tmp t =>
  simp [cX] at hc
  subst hc
  exact hs.env t d he
 | const v =>
  simp only [cX] at hc
  cases hv : v.oneCell' with
  | false => simp [hv] at hc
  | true =>
   simp [hv] at hc
   subst hc
   simp [ev] at he
   subst he
   exact VR.raw hv
 | global g =>
  simp [cX] at hc
  subst hc
  simp only [ev] at he
  cases hg : C.glob g with
  | none => simp [hg] at he
  | some d' =>
   simp [hg] at he
   subst he
   exact VR.ofLeaf (hG g d' hg)
 | func f =>
  simp [cX] at hc
  subst hc
  simp [ev] at he
  subst he
  exact VR.raw rfl
theorem ev_raw {x : Operand} {y : X} {v : Value} (hc : cX x = some y) (he : ev C env y = some (.raw v)) (hs : Sim n ρ T env rows a w) (hG : Glob C ρ w T) : a.eval x = v :=
 VR.ofRaw (ev_sound hc he hs hG)
theorem int_beq (x y : Int) : (x == y) = decide (x = y) := rfl
theorem run_equal_bool {t : TypeId} (ht : P.underlying t = some .bool) (x y : Bool) (w : World) : (Op.equal t (.bool x) (.bool y)).run P w = .ok (x == y) w := by
 have e : Op.maxDepth = 9999 + 1 := rfl
 rw [Op.equal, e, Op.equalIn]
 simp only [Sem.run_bind, run_underlying ht, Result.andThen_ok, Sem.run_pure]
section ops
variable (hs : Sim n ρ T env rows a w) (hG : Glob C ρ w T) {o : Oper} {k : D → Rows → Prop}
include hs hG
theorem op_mv {x : Operand} {y : X} (ho : o.op = .move x ∨ o.op = .assign x) (hc : cX x = some y) (h : aop C env rows (.mv y) k) : OpGoal P n o ρ T env rows a w k := by
 obtain ⟨d, he, hk⟩ := bnd_some h
 refine .here hs hk (ev_sound hc he hs hG) ?_
 rcases ho with ho | ho <;> simp [execOp, ho]
theorem op_pick {c x y : Operand} {c' x' y' : X} (ho : o.op = .pick c x y) (h1 : cX c = some c') (h2 : cX x = some x') (h3 : cX y = some y') (h : aop C env rows (.pick c' x' y') k) : OpGoal P n o ρ T env rows a w k := by
 obtain ⟨d, he, hk⟩ := bnd_some h
 split at hk
 ·rename_i t
  have hct := ev_raw h1 he hs hG
  obtain ⟨d, he, hk2⟩ := bnd_some hk
  cases t with
  | true =>
   simp at he
   refine .here hs hk2 (ev_sound h2 he hs hG) ?_
   simp [execOp, ho, hct, asBool]
  | false =>
   simp at he
   refine .here hs hk2 (ev_sound h3 he hs hG) ?_
   simp [execOp, ho, hct, asBool]
 ·exact hk.elim
theorem op_bin {op : BinOp} {t u : TypeId} {x y : Operand} {x' y' : X} (ho : o.op = .binOp op t x y u) (h1 : cX x = some x') (h2 : cX y = some y') (h : aop C env rows (.bin op x' y') k) : OpGoal P n o ρ T env rows a w k := by
  obtain ⟨d, he, hk⟩ := bnd_some h
  split at hk
  · rename_i av
    obtain ⟨d2, he2, hk⟩ := bnd_some hk
    split at hk
    · rename_i bv
      have hx := ev_raw h1 he hs hG
      have hy := ev_raw h2 he2 hs hG
      unfold aBin at hk
      split at hk
      all_goals first
        | exact hk.elim
        | (refine .here hs hk (VR.raw rfl) ?_
           simp [execOp, ho, hx, hy, eqGuard, binOp, Op.stringOp]
           done)
        | (obtain ⟨g1, hk⟩ := hk
           refine .here hs hk (VR.raw rfl) ?_
           subst g1
           simp [execOp, ho, hx, hy, eqGuard, binOp, Op.intArith, Op.intBits, Op.intCmp, bne, int_beq]
           done)
        | (obtain ⟨g1, hk⟩ := hk
           refine .here hs hk (VR.raw rfl) ?_
           simp [execOp, ho, hx, hy, eqGuard, binOp, Op.shift, Int.not_lt.2 g1]
           done)
        | (obtain ⟨g1, g2, hk⟩ := hk
           refine .here hs hk (VR.raw rfl) ?_
           subst g1
           simp [execOp, ho, hx, hy, eqGuard, binOp, Op.intDiv, g2]
           done)
        | (obtain ⟨g1, hk⟩ := hk
           refine .here hs hk (VR.raw rfl) ?_
           have e : IntKind.i64.max = 9223372036854775807 := by decide
           simp only [execOp, ho, hx, hy, eqGuard, binOp, Op.stringOp]
           simp
           omega)
    · exact hk.elim
  · exact hk.elim
theorem op_beq {neg : Bool} {op : BinOp} {t u : TypeId} {x y : Operand} {x' y' : X} (ho : o.op = .binOp op t x y u) (hop : op = bif neg then .neq else .eql) (ht : P.underlying t = some .bool) (h1 : cX x = some x') (h2 : cX y = some y')
  (h : aop C env rows (.beq neg x' y') k) : OpGoal P n o ρ T env rows a w k := by
 obtain ⟨d, he, hk⟩ := bnd_some h
 split at hk
 ·obtain ⟨d2, he2, hk⟩ := bnd_some hk
  split at hk
  ·have hx := ev_raw h1 he hs hG
   have hy := ev_raw h2 he2 hs hG
   refine .here hs hk (VR.raw rfl) ?_
   cases neg <;> simp at hop <;> subst hop <;> simp only [execOp, ho, hx, hy, binOp] <;> simp [eqGuard, run_equal_bool ht]
  ·exact hk.elim
 ·exact hk.elim
theorem op_un {op : UnOp} {t : TypeId} {x : Operand} {x' : X} (ho : o.op = .unOp op t x) (h1 : cX x = some x') (h : aop C env rows (.un op x') k) : OpGoal P n o ρ T env rows a w k := by
  obtain ⟨d, he, hk⟩ := bnd_some h
  split at hk
  · have hx := ev_raw h1 he hs hG
    unfold aUn at hk
    split at hk
    all_goals first
      | exact hk.elim
      | (refine .here hs hk (VR.raw rfl) ?_
         simp [execOp, ho, hx, Op.unary, Op.intArith, Op.intBits])
  · exact hk.elim
theorem op_conv {s t : TypeId} {x : Operand} {x' : X} {j kd : IntKind} (ho : o.op = .convert s t x) (hsrc : P.underlying s = some (.int j)) (ht : P.underlying t = some (.int kd)) (h1 : cX x = some x')
  (h : aop C env rows (.conv kd x') k) : OpGoal P n o ρ T env rows a w k := by
 obtain ⟨d, he, hk⟩ := bnd_some h
 split at hk
 ·have hx := ev_raw h1 he hs hG
  refine .here hs hk (VR.raw rfl) ?_
  simp [execOp, ho, hx, convert, run_underlying hsrc, run_underlying ht, Conv.intToInt]
 ·exact hk.elim
theorem op_convS {s t : TypeId} {x : Operand} {x' : X} (ho : o.op = .convert s t x) (hsrc : P.underlying s = some .string) (ht : P.underlying t = some .string) (h1 : cX x = some x')
  (h : aop C env rows (.convs x') k) : OpGoal P n o ρ T env rows a w k := by
 obtain ⟨d, he, hk⟩ := bnd_some h
 split at hk
 ·have hx := ev_raw h1 he hs hG
  refine .here hs hk (VR.raw rfl) ?_
  simp [execOp, ho, hx, convert, run_underlying hsrc, run_underlying ht]
 ·exact hk.elim
theorem op_nilc {x : Operand} {x' : X} (ho : o.op = .nilCheck x) (h1 : cX x = some x') (h : aop C env rows (.nilc x') k) : OpGoal P n o ρ T env rows a w k := by
 obtain ⟨d, he, hk⟩ := bnd_some h
 have hv := ev_sound h1 he hs hG
 split at hk
 ·have hv' := hv
  have hl : LR ρ w T _ _ := hv
  generalize hx : a.eval x = v at hl hv'
  cases hl with
  | ptr _ _ _ L hL hp =>
   refine .here hs hk hv' ?_
   simp [execOp, ho, hx]
 ·have hv' := hv
  obtain ⟨b, o', cs, s, hx, _⟩ := LR.readCptr (show LR ρ w T _ _ from hv)
  refine .here hs hk hv' ?_
  simp [execOp, ho, hx]
 ·exact hk.elim
theorem op_ext {x : Operand} {x' : X} {i : Nat} (ho : o.op = .extract x i) (h1 : cX x = some x') (h : aop C env rows (.ext x' i) k) : OpGoal P n o ρ T env rows a w k := by
 obtain ⟨d, he, hk⟩ := bnd_some h
 have hv := ev_sound h1 he hs hG
 split at hk
 ·obtain ⟨vs, hx, hall⟩ := hv
  obtain ⟨y, hy, hk⟩ := bnd_some hk
  obtain ⟨u, hu, hyu⟩ := hall.some hy
  have hu' : vs[i]? = some u := by simpa using hu
  refine .here hs hk (VR.ofVR1 hyu) ?_
  simp [execOp, ho, hx, Instr.extract, hu']
 ·exact hk.elim
end ops
end Go.Am
namespace Go.Am
set_option linter.unusedVariables false
set_option linter.unusedSimpArgs false
variable {C : Ctx} {P : Program} {n : Nat} {ρ : Pl} {T : Nat → Prop} {env : Env} {rows : Rows} {a : Act} {w : World}
theorem sh_info {t : TypeId} {s : Sh} (h : sh P t = some s) : ∃ i, P.info? t = some i ∧ i.size = s.size := by
 unfold sh at h
 split at h
 ·split at h
  ·rename_i i hi
   cases hb : (i.size == _) with
   | false => rw [hb] at h; simp at h
   | true =>
    rw [hb] at h
    simp at h
    subst h
    exact ⟨i, hi, by simpa using hb⟩
  ·cases h
 ·cases h
theorem run_sizeOf {t : TypeId} {s : Sh} (h : sh P t = some s) (w : World) : (sizeOf t).run P w = .ok s.size w := by
 obtain ⟨i, hi, hs⟩ := sh_info h
 simp [sizeOf, typeInfo, hi, hs]
theorem leafOk_spec {t : TypeId} {s : Sh} (h : leafOk P t s = true) : ∃ d, P.underlying t = some d ∧ isAggD d = s.isAgg := by
 unfold leafOk at h
 split at h
 ·rename_i d hd
  exact ⟨d, hd, by simpa using h⟩
 ·cases h
theorem run_isAgg {t : TypeId} {s : Sh} (h : leafOk P t s = true) (w : World) : (isAgg t).run P w = .ok s.isAgg w := by
 obtain ⟨d, hd, he⟩ := leafOk_spec h
 rw [← he]
 cases d <;> simp [isAgg, run_underlying hd, isAggD]
def ofCells (s : Sh) (cs : List Value) : Value := if s.isAgg then .agg cs.toArray else cs.headD undef
theorem run_loadVar_at {t : TypeId} {s : Sh} (h : sh P t = some s) (hl : leafOk P t s = true) {b o : Nat} {cs : List Value} (hat : At w b o cs) (hlen : cs.length = s.size) (hone : s.isAgg = false → cs.length = 1) :
  (loadVar t ⟨b, o, none⟩).run P w = .ok (ofCells s cs) w := by
 cases hs : s.isAgg with
 | true =>
  have hc := run_loadCells_list (P := P) w ⟨b, o, none⟩ cs (fun j v hv => by rw [addr_add]; exact hat j v hv)
  rw [hlen] at hc
  simp [loadVar, run_isAgg hl, run_sizeOf h, hs, ofCells, hc]
 | false =>
  have h1 := hone hs
  match cs, h1 with
  | [x], _ =>
   have := hat 0 x rfl
   simp at this
   simp [loadVar, run_isAgg hl, hs, ofCells, this]
theorem VR.ofCells {s : Sh} {d : D} {cs : List Value} (h : HasSh s d) (hc : All2 (LR ρ w T) d.flat cs) : VR ρ w T d (Am.ofCells s cs) := by
 unfold Am.ofCells
 cases hs : s.isAgg with
 | true => exact VR.ofVR1 (VR1.ofAgg h hs (by simpa using hc))
 | false =>
  have hl := h.leafOf hs
  rw [leaf_flat hl] at hc
  have := hc.len
  match cs, this with
  | [x], _ => exact VR.ofLeaf hc.head
theorem leaf_one {s : Sh} {d : D} {cs : List Value} (h : HasSh s d) (hc : All2 (LR ρ w T) d.flat cs) : s.isAgg = false → cs.length = 1 := by
 intro hs
 rw [← hc.len, leaf_flat (h.leafOf hs)]
 rfl
theorem agg_sh {s t : Sh} {l : List D} (h : HasSh s (.agg t l)) : s = t ∧ s.isAgg = true := by
 cases h with
 | ref _ h => simp [D.isLeaf] at h
 | agg _ _ h _ _ => exact ⟨rfl, h⟩
theorem fits_sh {s t : Sh} {d : D} (h : HasSh t d) (hf : d.fits s = true) : HasSh s d := by
 cases d with
 | agg u l =>
  simp [D.fits] at hf
  subst hf
  obtain ⟨rfl, _⟩ := agg_sh h
  exact h
 | tup l => cases s <;> simp [D.fits] at hf
 | raw v =>
  cases s <;> simp [D.fits] at hf
  ·exact .leaf _ v hf
  ·exact .ref _ hf
 | _ => cases s <;> simp [D.fits] at hf; exact .ref _ hf
theorem Loc.at_snoc {L : Loc} {p : List Nat} {s : Sh} (h : L.at p = some s) (i : Nat) : L.at (p ++ [i]) = s.sub i ∧ L.off (p ++ [i]) = L.off p + s.offs i := by
 cases p with
 | nil => simp [Loc.at] at h
 | cons j p =>
  have hm := Loc.at_mp h
  rw [Loc.at_cons hm] at h
  refine ⟨by simp only [List.cons_append, Loc.at_cons hm]; exact Am.at_snoc p i h, ?_⟩
  simp only [List.cons_append, Loc.off]
  rw [off_snoc p i h]
  omega
theorem cptr_part {s e : Sh} {l : List D} {i : Nat} {d : D} {v : Value} (hv : LR ρ w T (.cptr (.agg s l)) v) (hsub : s.sub i = some e) (hd : l[i]? = some d) :
  ∃ b o', v = .pointer (some ⟨b, o', none⟩) ∧ LR ρ w T (.cptr d) (.pointer (some ⟨b, o' + s.offs i, none⟩)) := by
 obtain ⟨b, o', cs, s', hx, g1, hT, g2, g3⟩ := LR.readCptr hv
 obtain ⟨rfl, ha⟩ := agg_sh g1
 obtain ⟨d', hd', hsd, hoff⟩ := g1.part ha hsub
 rw [hd] at hd'
 cases hd'
 simp only [D.flat] at g2
 rw [flatL_get hd] at g2
 refine ⟨b, o', hx, .mkCptr (cs := (cs.drop (flatL (l.take i)).length).take d.flat.length) hsd hT ?_ ?_⟩
 ·have := (g2.drop (flatL (l.take i)).length).take d.flat.length
  rwa [List.drop_left, List.take_left] at this
 ·rw [← hoff]
  exact (g3.drop _).take _
theorem run_part {t : TypeId} {s : Sh} {cs : Array Value} {o' : Nat} {ms : List Value} (hsh : sh P t = some s) (hl : leafOk P t s = true) (hlen : ms.length = s.size) (hone : s.isAgg = false → ms.length = 1)
  (hms : (cs.toList.drop o').take ms.length = ms) : (part t cs o').run P w = .ok (Am.ofCells s ms) w := by
 cases hsa : s.isAgg with
 | true =>
  have : cs.extract o' (o' + s.size) = ms.toArray := by
   apply Array.ext'
   rw [Array.toList_extract]
   simp only [List.extract]
   rw [show o' + s.size - o' = ms.length by omega, hms]
  simp [part, run_isAgg hl, hsa, run_sizeOf hsh, ofCells, this]
 | false =>
  have h1 := hone hsa
  match ms, h1 with
  | [x], _ =>
   have hx : cs[o']? = some x := by
    have := congrArg (fun l => l[0]?) hms
    simpa [List.getElem?_take] using this
   simp [part, run_isAgg hl, hsa, ofCells, hx]
theorem exec_builtin {o : Oper} {c : Call} {b : Builtin} (ho : o.op = .call c) (hc : c.callee = .builtin b) :
  execOp a.eval o = builtin b c.argTypes o.type (c.args.map fun | .const _ => true | _ => false) (c.args.map a.eval) := by
 simp only [execOp, ho, resolve, hc]
 rfl
section ops
variable (hs : Sim n ρ T env rows a w) (hG : Glob C ρ w T) {o : Oper} {k : D → Rows → Prop}
include hs hG
theorem op_load {t : TypeId} {x : Operand} {x' : X} {s : Sh} (ho : o.op = .load t x) (hsh : sh P t = some s) (hl : leafOk P t s = true) (h1 : cX x = some x') (h : aop C env rows (.load s x') k) : OpGoal P n o ρ T env rows a w k := by
 obtain ⟨d, he, hk⟩ := bnd_some h
 have hv := ev_sound h1 he hs hG
 split at hk
 ·obtain ⟨rfl, hk⟩ := hk
  obtain ⟨row, hlive, hk⟩ := bnd_some hk
  obtain ⟨d, hg, hk⟩ := bnd_some hk
  obtain ⟨b, o', cs, hx, g1, g2, g3⟩ := hs.rowsOK.readPtr hv hlive hg
  refine .here hs hk (VR.ofCells g1 g2) ?_
  have hlen := g2.len
  rw [g1.len] at hlen
  simp [execOp, ho, hx, Instr.loadAt, Instr.sureAddr, run_loadVar_at hsh hl g3 hlen.symm (leaf_one g1 g2)]
 ·obtain ⟨hf, hk⟩ := hk
  obtain ⟨b, o', cs, s', hx, g1, _, g2, g3⟩ := LR.readCptr hv
  have g1' := fits_sh g1 hf
  refine .here hs hk (VR.ofCells g1' g2) ?_
  have hlen : cs.length = Sh.size s := by rw [← g2.len, g1'.len]
  simp [execOp, ho, hx, Instr.loadAt, Instr.sureAddr, run_loadVar_at hsh hl g3 hlen (leaf_one g1' g2)]
 ·rename_i m t r p off
  obtain ⟨rfl, hk⟩ := hk
  obtain ⟨l, hl', hk⟩ := bnd_some hk
  obtain ⟨hlen, hk⟩ := hk
  have hv' : LR ρ w T (.aptr m t r p off) _ := hv
  generalize hx : a.eval x = v at hv'
  cases hv' with
  | aptr _ _ _ _ _ L hL h2 =>
   have hsl : LR ρ w T (.sl t r p off m false) (.slice (some ⟨L.b, L.off p + off * t.size, none⟩) m m) := .sl t r p off m false L m hL (Nat.le_refl _) (by simp) h2
   obtain ⟨ad, cap, cs, hH⟩ := hs.rowsOK.holds (s := t) hsl hl' rfl hlen (by simp [sshape])
   have hat : At w L.b (L.off p + off * t.size) cs := by
    intro j y hy
    obtain ⟨b, o', e1, e2⟩ := hH.at_ j y hy
    have e3 := hH.hv
    rw [e1] at e3
    cases e3
    exact e2
   have hsh' : HasSh (.ar m t) (.agg (.ar m t) l) := .agg _ l rfl (by simp [Sh.count, hlen]) (fun i e d hi hd => by
    simp only [Sh.sub] at hi
    split at hi
    ·cases hi; exact hH.els d (mem_of_get hd)
    ·cases hi)
   have hg2 : All2 (LR ρ w T) (D.agg (.ar m t) l).flat cs := by simpa [D.flat] using hH.hcs
   have hcl : cs.length = Sh.size (.ar m t) := by rw [← hg2.len, hsh'.len]
   refine .here hs hk (VR.ofCells hsh' hg2) ?_
   simp [execOp, ho, hx, Instr.loadAt, Instr.sureAddr, run_loadVar_at hsh hl hat hcl (leaf_one hsh' hg2)]
 ·exact hk.elim
theorem op_faddr {t : TypeId} {x : Operand} {x' : X} {s e : Sh} {i : Nat} {fs : Array Field} {f : Field} {inf : TypeInfo} (ho : o.op = .fieldAddr t x i) (hu : P.underlying t = some (.struct fs)) (hf : fs[i]? = some f)
  (he' : s.sub i = some e) (hoff : f.offset = s.offs i) (hinf : P.info? f.type = some inf) (hsz : inf.size = e.size) (hne : e.size ≠ 0) (h1 : cX x = some x') (h : aop C env rows (.faddr s x' i) k) : OpGoal P n o ρ T env rows a w k := by
 obtain ⟨d, he, hk⟩ := bnd_some h
 have hv := ev_sound h1 he hs hG
 have hplace : ∀ b o' : Nat, (Instr.fieldAt t (.pointer (some ⟨b, o', none⟩)) i).run P w = .ok (.pointer (some ⟨b, o' + s.offs i, none⟩)) w := by
  intro b o'
  simp [Instr.fieldAt, run_underlying hu, hf, Instr.sureAddr, fieldPlace, sizeOf, typeInfo, hinf, hsz, hne, hoff, addr_add]
 split at hk
 ·obtain ⟨rfl, hk⟩ := hk
  obtain ⟨e2, he2, hk⟩ := bnd_some hk
  have hl : LR ρ w T _ _ := hv
  generalize hx : a.eval x = v at hl
  cases hl with
  | ptr _ _ _ L hL hp =>
   obtain ⟨g1, g2⟩ := L.at_snoc hp i
   refine .here hs hk (VR.ofLeaf (.ptr _ _ _ L hL (g1.trans he2))) ?_
   rw [g2]
   simp [execOp, ho, hx, hplace]
 ·obtain ⟨rfl, hk⟩ := hk
  obtain ⟨d2, hd2, hk⟩ := bnd_some hk
  obtain ⟨b, o', hx, g1⟩ := cptr_part (show LR ρ w T _ _ from hv) he' hd2
  refine .here hs hk (VR.ofLeaf g1) ?_
  simp [execOp, ho, hx, hplace]
 ·exact hk.elim
theorem op_field {t : TypeId} {x : Operand} {x' : X} {s e : Sh} {i : Nat} {fs : Array Field} {f : Field} (ho : o.op = .field t x i) (hu : P.underlying t = some (.struct fs)) (hf : fs[i]? = some f)
  (he' : s.sub i = some e) (hoff : f.offset = s.offs i) (hsh : sh P f.type = some e) (hl : leafOk P f.type e = true) (h1 : cX x = some x') (h : aop C env rows (.field s x' i) k) : OpGoal P n o ρ T env rows a w k := by
 obtain ⟨d, he, hk⟩ := bnd_some h
 have hv := ev_sound h1 he hs hG
 split at hk
 ·rename_i u l
  obtain ⟨rfl, hk⟩ := hk
  obtain ⟨d2, hd2, hk⟩ := bnd_some hk
  obtain ⟨cs, hx, g1, g2⟩ := hv
  obtain ⟨_, ha⟩ := agg_sh g1
  obtain ⟨d', hd', hsd, hoff'⟩ := g1.part ha he'
  rw [hd2] at hd'
  cases hd'
  rw [flatL_get hd2] at g2
  have g3 := (g2.drop (flatL (List.take i l)).length).take d2.flat.length
  rw [List.drop_left, List.take_left, hoff'] at g3
  refine .here hs hk (VR.ofCells hsd g3) ?_
  have hlen := g3.len
  have := run_part (w := w) (o' := f.offset) (ms := (cs.toList.drop (Sh.offs u i)).take d2.flat.length) hsh hl (by rw [← hlen, hsd.len]) (leaf_one hsd g3) (by rw [← hlen, hoff])
  simp [execOp, ho, hx, Instr.field, run_underlying hu, hf, asAgg, this]
 ·exact hk.elim
theorem op_iaddrA {t e : TypeId} {x i : Operand} {x' i' : X} {s : Sh} {m : Nat} (ho : o.op = .indexAddr t x i) (hu : P.underlying t = some (.array m e)) (hsh : sh P e = some s) (h1 : cX x = some x') (h2 : cX i = some i')
  (h : aop C env rows (.iaddra m s x' i') k) : OpGoal P n o ρ T env rows a w k := by
 obtain ⟨d, he, hk⟩ := bnd_some h
 obtain ⟨d2, he2, hk⟩ := bnd_some hk
 have hv := ev_sound h1 he hs hG
 split at hk
 ·rename_i kd j
  have hi := ev_raw h2 he2 hs hG
  have hplace : ∀ b o' : Nat, 0 ≤ j → j < (m : Int) → (Instr.indexAt t (.pointer (some ⟨b, o', none⟩)) (.int kd j)).run P w = .ok (.pointer (some ⟨b, o' + j.toNat * s.size, none⟩)) w := by
   intro b o' g1 g2
   simp [Instr.indexAt, asIntOf, run_underlying hu, Instr.sureAddr, g1, g2, run_sizeOf hsh, addr_add]
  split at hk
  ·rename_i t' r p
   obtain ⟨rfl, g1, g2, hk⟩ := hk
   have hl : LR ρ w T _ _ := hv
   generalize hx : a.eval x = v at hl
   cases hl with
   | ptr _ _ _ L hL hp =>
    obtain ⟨g3, g4⟩ := L.at_snoc hp j.toNat
    have g5 : (Sh.ar m s).sub j.toNat = some s := by simp [Sh.sub]; omega
    refine .here hs hk (VR.ofLeaf (.ptr _ _ _ L hL (g3.trans g5))) ?_
    rw [g4]
    simp only [Sh.offs]
    simp [execOp, ho, hx, hi, hplace _ _ g1 g2]
  ·rename_i t' l
   obtain ⟨rfl, g1, g2, hk⟩ := hk
   obtain ⟨d3, hd3, hk⟩ := bnd_some hk
   have g5 : (Sh.ar m s).sub j.toNat = some s := by simp [Sh.sub]; omega
   obtain ⟨b, o', hx, g6⟩ := cptr_part (show LR ρ w T _ _ from hv) g5 hd3
   refine .here hs hk (VR.ofLeaf g6) ?_
   simp only [Sh.offs]
   simp [execOp, ho, hx, hi, hplace _ _ g1 g2]
  ·exact hk.elim
 ·exact hk.elim
theorem op_iaddrS {t e : TypeId} {x i : Operand} {x' i' : X} {s : Sh} (ho : o.op = .indexAddr t x i) (hu : P.underlying t = some (.slice e)) (hsh : sh P e = some s) (h1 : cX x = some x') (h2 : cX i = some i')
  (h : aop C env rows (.iaddrs s x' i') k) : OpGoal P n o ρ T env rows a w k := by
 obtain ⟨d, he, hk⟩ := bnd_some h
 obtain ⟨d2, he2, hk⟩ := bnd_some hk
 have hv := ev_sound h1 he hs hG
 split at hk
 ·rename_i kd j
  have hi := ev_raw h2 he2 hs hG
  have hplace : ∀ b o' len cap : Nat, 0 ≤ j → j < (len : Int) → (Instr.indexAt t (.slice (some ⟨b, o', none⟩) len cap) (.int kd j)).run P w = .ok (.pointer (some ⟨b, o' + j.toNat * s.size, none⟩)) w := by
   intro b o' len cap g1 g2
   simp [Instr.indexAt, asIntOf, run_underlying hu, Instr.sureAddr, g1, g2, run_sizeOf hsh, addr_add]
  split at hk
  ·rename_i t' r p off len ex hq
   obtain ⟨rfl, g1, g2, hk⟩ := hk
   have hl : LR ρ w T _ _ := hv
   generalize hx : a.eval x = v at hl
   cases hl with
   | slz => simp at g2; omega
   | sl _ _ _ _ _ _ L cap hL c1 c2 c3 =>
    have key : L.at (p ++ [off + j.toNat]) = some t' ∧ L.off (p ++ [off + j.toNat]) = L.off p + off * t'.size + j.toNat * t'.size := by
     rcases c3 with ⟨rfl, rfl, hm, _⟩ | ⟨m, c3, c4⟩
     ·refine ⟨by simp [Loc.at, Sh.at, hm], ?_⟩
      simp [Loc.off, Sh.off, Nat.add_mul]
     ·obtain ⟨g3, g4⟩ := L.at_snoc c3 (off + j.toNat)
      refine ⟨g3.trans (by simp [Sh.sub]; omega), ?_⟩
      rw [g4]
      simp [Sh.offs, Nat.add_mul]
      omega
    refine .here hs hk (VR.ofLeaf (.ptr _ _ _ L hL key.1)) ?_
    rw [key.2]
    simp [execOp, ho, hx, hi, hplace _ _ _ _ g1 g2]
  ·rename_i t' l ex hq
   obtain ⟨rfl, g1, g2, hk⟩ := hk
   obtain ⟨d3, hd3, hk⟩ := bnd_some hk
   have hl : LR ρ w T _ _ := hv
   generalize hx : a.eval x = v at hl
   cases hl with
   | lst0 => simp at g2; omega
   | lst _ _ _ b o' cap f c1 hb c2 c3 c4 c5 =>
    obtain ⟨cs, c6, c7⟩ : ∃ cs, All2 (LR ρ w T) (flatL l) cs ∧ At w b o' cs := ⟨_, lr_at (d := default) c2 c3⟩
    rw [flatL_get hd3] at c6
    have c8 := (c6.drop (flatL (l.take j.toNat)).length).take d3.flat.length
    rw [List.drop_left, List.take_left] at c8
    have hoff : (flatL (l.take j.toNat)).length = j.toNat * t'.size := by
     rw [flatL_len_all (fun d hd => c1 d (List.mem_of_mem_take hd)), List.length_take, Nat.min_eq_left (Nat.le_of_lt (lt_of_get hd3))]
    refine .here hs hk (VR.ofLeaf (.mkCptr (c1 _ (mem_of_get hd3)) hb c8 ((c7.drop _).take _))) ?_
    rw [hoff]
    simp [execOp, ho, hx, hi, hplace _ _ _ _ g1 g2]
  ·exact hk.elim
 ·exact hk.elim
theorem op_index {t e : TypeId} {x i : Operand} {x' i' : X} {s : Sh} {m : Nat} (ho : o.op = .index t x i) (hu : P.underlying t = some (.array m e)) (hsh : sh P e = some s) (hlf : leafOk P e s = true) (h1 : cX x = some x') (h2 : cX i = some i')
  (h : aop C env rows (.index m s x' i') k) : OpGoal P n o ρ T env rows a w k := by
 obtain ⟨d, he, hk⟩ := bnd_some h
 have hv := ev_sound h1 he hs hG
 split at hk
 ·rename_i t' l
  obtain ⟨d2, he2, hk⟩ := bnd_some hk
  split at hk
  ·rename_i kd j
   have hi := ev_raw h2 he2 hs hG
   obtain ⟨rfl, g1, g2, hk⟩ := hk
   obtain ⟨d3, hd3, hk⟩ := bnd_some hk
   obtain ⟨cs, hx, q1, q2⟩ := hv
   have g5 : (Sh.ar m s).sub j.toNat = some s := by simp [Sh.sub]; omega
   obtain ⟨d', hd', hsd, hoff'⟩ := q1.part rfl g5
   rw [hd3] at hd'
   cases hd'
   rw [flatL_get hd3] at q2
   have g3 := (q2.drop (flatL (List.take j.toNat l)).length).take d3.flat.length
   rw [List.drop_left, List.take_left, hoff'] at g3
   refine .here hs hk (VR.ofCells hsd g3) ?_
   have hlen := g3.len
   have := run_part (w := w) (o' := j.toNat * s.size) (ms := (cs.toList.drop (Sh.offs (.ar m s) j.toNat)).take d3.flat.length) hsh hlf (by rw [← hlen, hsd.len]) (leaf_one hsd g3) (by rw [← hlen]; rfl)
   simp [execOp, ho, hx, hi, Instr.index, asIntOf, run_underlying hu, g1, g2, run_sizeOf hsh, this]
  ·exact hk.elim
 ·exact hk.elim
theorem op_sindex {t : TypeId} {x i : Operand} {x' i' : X} (ho : o.op = .index t x i) (hu : P.underlying t = some .string) (h1 : cX x = some x') (h2 : cX i = some i')
  (h : aop C env rows (.sindex x' i') k) : OpGoal P n o ρ T env rows a w k := by
 obtain ⟨d, he, hk⟩ := bnd_some h
 split at hk
 ·rename_i b
  obtain ⟨d2, he2, hk⟩ := bnd_some hk
  split at hk
  ·rename_i kd j
   have hx := ev_raw h1 he hs hG
   have hi := ev_raw h2 he2 hs hG
   obtain ⟨g1, hk⟩ := hk
   obtain ⟨c, hc, hk⟩ := bnd_some hk
   refine .here hs hk (VR.raw rfl) ?_
   have hc' : b[j.toNat]? = some c := by
    have hlt := lt_of_get hc
    have hlt' : j.toNat < b.size := by simpa using hlt
    rw [List.getElem?_eq_getElem hlt] at hc
    simp at hc
    rw [getElem?_pos b j.toNat hlt']
    simp [← hc]
    rfl
   simp [execOp, ho, hx, hi, Instr.index, asIntOf, run_underlying hu, g1, hc']
  ·exact hk.elim
 ·exact hk.elim
end ops
end Go.Am
namespace Go.Am
set_option linter.unusedVariables false
set_option linter.unusedSimpArgs false
variable {C : Ctx} {P : Program} {n : Nat} {ρ : Pl} {T : Nat → Prop} {env : Env} {rows : Rows} {a : Act} {w : World}
theorem slen_val {d : D} {v : Value} {k : Nat} (h : LR ρ w T d v) (hk : slen d = some k) : ∃ ad cap, v = .slice ad k cap := by
 cases h with
 | raw v hv =>
  cases v with
  | slice b len cap =>
   cases b <;> cases len <;> cases cap <;> simp [slen] at hk
   subst hk
   exact ⟨_, _, rfl⟩
  | _ => simp [slen] at hk
 | ptr => simp [slen] at hk
 | cptr => simp [slen] at hk
 | aptr => simp [slen] at hk
 | mp => simp [slen] at hk
 | om => simp [slen] at hk
 | sl => simp [slen] at hk; subst hk; exact ⟨_, _, rfl⟩
 | slz => simp [slen] at hk; subst hk; exact ⟨_, _, rfl⟩
 | lst0 => simp [slen] at hk; subst hk; exact ⟨_, _, rfl⟩
 | lst => simp [slen] at hk; subst hk; exact ⟨_, _, rfl⟩
theorem slen_leaf {d : D} {k : Nat} (hk : slen d = some k) : d.isLeaf = true := by
 cases d <;> simp_all [slen, D.isLeaf]
 split at hk <;> simp_all [Value.oneCell']
theorem evo_sound {x : Option Operand} {y : Option X} {z : Option Int} (hc : cXo x = some y) (he : evo C env y = some z) (hs : Sim n ρ T env rows a w) (hG : Glob C ρ w T) :
  (x.map a.eval = none ∧ z = none) ∨ ∃ kd i, x.map a.eval = some (.int kd i) ∧ z = some i := by
 cases x with
 | none =>
  simp [cXo] at hc
  subst hc
  simp [evo] at he
  exact .inl ⟨rfl, he.symm⟩
 | some x =>
  simp only [cXo] at hc
  cases hx : cX x with
  | none => simp [hx] at hc
  | some x' =>
   simp [hx] at hc
   subst hc
   simp only [evo] at he
   split at he
   ·rename_i kd i hh
    simp at he
    subst he
    exact .inr ⟨kd, i, by simp [ev_raw hx hh hs hG], rfl⟩
   ·cases he
theorem run_sliceBound {kd : IntKind} {i : Int} {y : Nat} {code : BoundsCode} (h0 : 0 ≤ i) (h1 : i ≤ (y : Int)) (w : World) : (Instr.sliceBound (.int kd i) y code).run P w = .ok i.toNat w := by
 simp [Instr.sliceBound, asIntOf, h0, h1]
theorem run_sliceBounds {isSlice : Bool} {len cap : Nat} {lo hi mx : Option Value} {l h m : Option Int} {L H M : Nat}
  (hl : (lo = none ∧ l = none) ∨ ∃ kd i, lo = some (.int kd i) ∧ l = some i) (hh : (hi = none ∧ h = none) ∨ ∃ kd i, hi = some (.int kd i) ∧ h = some i)
  (hm : (mx = none ∧ m = none) ∨ ∃ kd i, mx = some (.int kd i) ∧ m = some i) (hmh : mx.isSome = true → hi.isSome = true)
  (eL : l.getD 0 = (L : Int)) (eH : h.getD len = (H : Int)) (eM : m.getD cap = (M : Int)) (h1 : L ≤ H) (h2 : H ≤ M) (h3 : M ≤ cap) (w : World) :
  (Instr.sliceBounds isSlice len cap lo hi mx).run P w = .ok (L, H, M) w := by
 have key : ∀ {kd : IntKind} {i : Int} {y z : Nat} {code : BoundsCode}, i = (z : Int) → z ≤ y → (Instr.sliceBound (.int kd i) y code).run P w = .ok z w := by
  intro kd i y z code e hz
  subst e
  rw [run_sliceBound (by omega) (by omega)]
  simp
 rcases hm with ⟨rfl, rfl⟩ | ⟨km, im, rfl, rfl⟩
 ·simp at eM
  rcases hh with ⟨rfl, rfl⟩ | ⟨kh, ih, rfl, rfl⟩
  ·simp at eH
   rcases hl with ⟨rfl, rfl⟩ | ⟨kl, il, rfl, rfl⟩
   ·simp at eL
    simp [Instr.sliceBounds, ← eL, eH, eM]
    omega
   ·simp at eL
    simp [Instr.sliceBounds, key (kd := kl) (y := len) eL (by omega)]
    omega
  ·simp at eH
   have kH := fun (c : BoundsCode) => key (kd := kh) (y := cap) (code := c) eH (by omega)
   rcases hl with ⟨rfl, rfl⟩ | ⟨kl, il, rfl, rfl⟩
   ·simp at eL
    cases isSlice <;> simp [Instr.sliceBounds, kH] <;> omega
   ·simp at eL
    have kL := fun (c : BoundsCode) => key (kd := kl) (y := H) (code := c) eL (by omega)
    cases isSlice <;> simp [Instr.sliceBounds, kH, kL] <;> omega
 ·simp at eM
  have kM := fun (c : BoundsCode) => key (kd := km) (y := cap) (code := c) eM (by omega)
  rcases hh with ⟨rfl, rfl⟩ | ⟨kh, ih, rfl, rfl⟩
  ·simp at hmh
  ·simp at eH
   have kH := fun (c : BoundsCode) => key (kd := kh) (y := M) (code := c) eH (by omega)
   rcases hl with ⟨rfl, rfl⟩ | ⟨kl, il, rfl, rfl⟩
   ·simp at eL
    cases isSlice <;> simp [Instr.sliceBounds, kH, kM] <;> omega
   ·simp at eL
    have kL := fun (c : BoundsCode) => key (kd := kl) (y := H) (code := c) eL (by omega)
    cases isSlice <;> simp [Instr.sliceBounds, kH, kL, kM] <;> omega
section ops
variable (hs : Sim n ρ T env rows a w) (hG : Glob C ρ w T) {o : Oper} {k : D → Rows → Prop}
include hs hG
theorem op_len {c : Call} {x : Operand} {x' : X} {t e : TypeId} {ts : List TypeId} (ho : o.op = .call c) (hc : c.callee = .builtin .len) (ha : c.args.toList = [x]) (hts : c.argTypes.toList = t :: ts)
  (hu : P.underlying t = some (.slice e)) (h1 : cX x = some x') (h : aop C env rows (.len x') k) : OpGoal P n o ρ T env rows a w k := by
 obtain ⟨d, he, hk⟩ := bnd_some h
 obtain ⟨j, hj, hk⟩ := bnd_some hk
 have hv := (ev_sound h1 he hs hG).toLR (slen_leaf hj)
 obtain ⟨ad, cap, hx⟩ := slen_val hv hj
 have hargs : c.args = #[x] := by apply Array.ext'; simpa using ha
 have hat0 : c.argTypes[0]? = some t := by
  have : c.argTypes.toList[0]? = some t := by rw [hts]; rfl
  simpa using this
 refine .here hs hk (VR.raw rfl) ?_
 rw [exec_builtin ho hc]
 simp [builtin, Builtin.len_, hargs, hat0, run_underlying hu, hx, goInt]
theorem op_strlen {c : Call} {x : Operand} {x' : X} {t : TypeId} {ts : List TypeId} (ho : o.op = .call c) (hc : c.callee = .builtin .len) (ha : c.args.toList = [x]) (hts : c.argTypes.toList = t :: ts)
  (hu : P.underlying t = some .string) (h1 : cX x = some x') (h : aop C env rows (.strlen x') k) : OpGoal P n o ρ T env rows a w k := by
 obtain ⟨d, he, hk⟩ := bnd_some h
 split at hk
 ·have hx := ev_raw h1 he hs hG
  have hargs : c.args = #[x] := by apply Array.ext'; simpa using ha
  have hat0 : c.argTypes[0]? = some t := by
   have : c.argTypes.toList[0]? = some t := by rw [hts]; rfl
   simpa using this
  refine .here hs hk (VR.raw rfl) ?_
  rw [exec_builtin ho hc]
  simp [builtin, Builtin.len_, hargs, hat0, run_underlying hu, hx, goInt]
 ·exact hk.elim
theorem op_slicea {t e : TypeId} {x : Operand} {lo hi mx : Option Operand} {x' : X} {lo' hi' mx' : Option X} {s : Sh} {m : Nat} (ho : o.op = .slice t x lo hi mx) (hu : P.underlying t = some (.array m e)) (hsh : sh P e = some s)
  (h1 : cX x = some x') (h2 : cXo lo = some lo') (h3 : cXo hi = some hi') (h4 : cXo mx = some mx') (hmh : mx.isSome = true → hi.isSome = true)
  (h : aop C env rows (.slicea m s x' lo' hi' mx') k) : OpGoal P n o ρ T env rows a w k := by
 obtain ⟨d, he, k1⟩ := bnd_some h
 obtain ⟨l, hl, k2⟩ := bnd_some k1
 obtain ⟨hh, hhi, k3⟩ := bnd_some k2
 obtain ⟨c, hc, hk⟩ := bnd_some k3
 clear k1 k2 k3
 have hv := ev_sound h1 he hs hG
 obtain ⟨b1, b2, b3, b4, hk⟩ := hk
 have hrun : ∀ (b o' : Nat), (Instr.sliceAt t (.pointer (some ⟨b, o', none⟩)) (lo.map a.eval) (hi.map a.eval) (mx.map a.eval)).run P w =
   .ok (.slice (some (if (c.getD m).toNat = (l.getD 0).toNat then ⟨b, o', none⟩ else ⟨b, o' + (l.getD 0).toNat * s.size, none⟩)) ((hh.getD m).toNat - (l.getD 0).toNat) ((c.getD m).toNat - (l.getD 0).toNat)) w := by
  intro b o'
  have := run_sliceBounds (P := P) (isSlice := false) (len := m) (cap := m) (L := (l.getD 0).toNat) (H := (hh.getD m).toNat) (M := (c.getD m).toNat)
   (evo_sound h2 hl hs hG) (evo_sound h3 hhi hs hG) (evo_sound h4 hc hs hG) (by simpa using hmh) (by omega) (by omega) (by omega) (by omega) (by omega) (by omega) w
  simp [Instr.sliceAt, run_underlying hu, Instr.sureAddr, this, run_sizeOf hsh, addr_add]
 have hexec : ∀ v, a.eval x = v → (execOp a.eval o).run P w = ((Instr.sliceAt t v (lo.map a.eval) (hi.map a.eval) (mx.map a.eval)).run P w).andThen fun v w' => .ok (.value v) w' := by
  intro v hx
  simp [execOp, ho, hx]
 generalize hL : (l.getD 0).toNat = L' at hk hrun
 generalize hH : (hh.getD (m : Int)).toNat = H' at hk hrun
 generalize hM : (c.getD (m : Int)).toNat = M' at hk hrun
 split at hk
 ·rename_i t' r p
  obtain ⟨rfl, hk⟩ := hk
  have hl : LR ρ w T _ _ := hv
  generalize hx : a.eval x = v at hl
  cases hl with
  | ptr _ _ _ L hL' hp =>
   by_cases hz : M' = L'
   ·have hh0 : H' - L' = 0 := by omega
    have hm0 : M' - L' = 0 := by omega
    refine .here hs hk (v := .slice (some ⟨L.b, L.off p, none⟩) 0 0) ?_ ?_
    ·rw [hh0]; exact VR.ofLeaf (.slz _ _ _ _ _ _)
    ·rw [hexec _ hx, hrun]; simp [hz, hh0, hm0]
   ·refine .here hs hk (v := .slice (some ⟨L.b, L.off p + L' * s.size, none⟩) (H' - L') (M' - L')) ?_ ?_
    ·refine VR.ofLeaf (.sl _ _ _ _ _ _ L _ hL' (by omega) (fun hq => ?_) (.inr ⟨m, hp, by omega⟩))
     have : H' = M' := by simpa using hq
     omega
    ·rw [hexec _ hx, hrun]; simp [hz]
 ·rename_i t' els
  obtain ⟨rfl, hk⟩ := hk
  obtain ⟨b, o', cs, s', hx, g1, hT, g2, g3⟩ := LR.readCptr (show LR ρ w T _ _ from hv)
  obtain ⟨rfl, ha⟩ := agg_sh g1
  obtain ⟨l', hl', hlen, hsub⟩ := g1.aggOf rfl
  cases hl'
  have hall : ∀ d ∈ els, HasSh s d := by
   intro d hd
   obtain ⟨q, hq, rfl⟩ := List.mem_iff_getElem.1 hd
   exact hsub q s _ (by simp [Sh.sub]; simp [Sh.count] at hlen; omega) (List.getElem?_eq_getElem hq)
  simp [Sh.count] at hlen
  have hels : ∀ d ∈ (els.drop L').take (H' - L'), HasSh s d := fun d hd => hall d (List.mem_of_mem_drop (List.mem_of_mem_take hd))
  have hll : ((els.drop L').take (H' - L')).length = H' - L' := by simp; omega
  by_cases hz : M' = L'
  ·have hh0 : H' - L' = 0 := by omega
   have hm0 : M' - L' = 0 := by omega
   refine .here hs hk (v := .slice (some ⟨b, o', none⟩) 0 0) ?_ ?_
   ·rw [hh0]; simp; exact VR.ofLeaf (.lst0 _ _ _ _ (fun _ => rfl) (fun _ => rfl))
   ·rw [hexec _ hx, hrun]; simp [hz, hh0, hm0]
  ·obtain ⟨pre, post, q1, q2⟩ := flatL_part (off := L') (len := H' - L') hall (by omega)
   simp only [D.flat] at g2
   rw [q1] at g2
   have q3 := (g2.drop pre.length).take (flatL ((els.drop L').take (H' - L'))).length
   rw [List.drop_left, List.take_left] at q3
   refine .here hs hk (v := .slice (some ⟨b, o' + L' * s.size, none⟩) ((els.drop L').take (H' - L')).length (M' - L')) ?_ ?_
   ·refine VR.ofLeaf (LR.mkLst hels hT q3 (by rw [← q2]; exact (g3.drop _).take _) (by omega) (fun hq => ?_))
    have : H' = M' := by simpa using hq
    omega
   ·rw [hexec _ hx, hrun]; simp only [hz, if_false, Result.andThen_ok, hll]
 ·exact hk.elim
theorem op_slice {t e : TypeId} {x : Operand} {lo hi mx : Option Operand} {x' : X} {lo' hi' mx' : Option X} {s : Sh} (ho : o.op = .slice t x lo hi mx) (hu : P.underlying t = some (.slice e)) (hsh : sh P e = some s)
  (h1 : cX x = some x') (h2 : cXo lo = some lo') (h3 : cXo hi = some hi') (h4 : cXo mx = some mx') (hmh : mx.isSome = true → hi.isSome = true)
  (h : aop C env rows (.slice s x' lo' hi' mx') k) : OpGoal P n o ρ T env rows a w k := by
 obtain ⟨d, he, k1⟩ := bnd_some h
 obtain ⟨l, hl, k2⟩ := bnd_some k1
 obtain ⟨hh, hhi, k3⟩ := bnd_some k2
 obtain ⟨c, hc, k4⟩ := bnd_some k3
 obtain ⟨N, hN, hk⟩ := bnd_some k4
 clear k1 k2 k3 k4
 have hv := ev_sound h1 he hs hG
 obtain ⟨b1, b2, b3, b4, hk⟩ := hk
 have hlr := hv.toLR (slen_leaf hN)
 have hrun : ∀ (ad : Option Addr) (cap : Nat), N ≤ cap → (Instr.sliceAt t (.slice ad N cap) (lo.map a.eval) (hi.map a.eval) (mx.map a.eval)).run P w =
   .ok (.slice (if (c.getD cap).toNat = (l.getD 0).toNat then ad else ad.map (·.add ((l.getD 0).toNat * s.size))) ((hh.getD N).toNat - (l.getD 0).toNat) ((c.getD cap).toNat - (l.getD 0).toNat)) w := by
  intro ad cap hcap
  have := run_sliceBounds (P := P) (isSlice := true) (len := N) (cap := cap) (L := (l.getD 0).toNat) (H := (hh.getD N).toNat) (M := (c.getD cap).toNat)
   (evo_sound h2 hl hs hG) (evo_sound h3 hhi hs hG) (evo_sound h4 hc hs hG) (by simpa using hmh) (by omega) (by omega) (by cases c <;> simp at b3 b4 ⊢; omega)
   (by omega) (by cases c <;> simp at b3 b4 ⊢ <;> omega) (by cases c <;> simp at b3 b4 ⊢; omega) w
  simp [Instr.sliceAt, Instr.slice, run_underlying hu, this, run_sizeOf hsh]
 have hexec : ∀ v, a.eval x = v → (execOp a.eval o).run P w = ((Instr.sliceAt t v (lo.map a.eval) (hi.map a.eval) (mx.map a.eval)).run P w).andThen fun v w' => .ok (.value v) w' := by
  intro v hx
  simp [execOp, ho, hx]
 have bM : ∀ cap : Nat, N ≤ cap → (hh.getD N).toNat ≤ (c.getD cap).toNat ∧ (c.getD cap).toNat ≤ cap := by
  intro cap hcap
  cases c <;> simp at b3 b4 ⊢ <;> omega
 generalize hL : (l.getD 0).toNat = L' at hk hrun
 have hLH : L' ≤ (hh.getD N).toNat := by omega
 have hHN : (hh.getD N).toNat ≤ N := by cases c <;> simp at b3 b4 <;> omega
 have hcm : ∀ cap : Nat, ∀ z, c = some z → (c.getD (hh.getD N)).toNat = (c.getD cap).toNat := by intro cap z hz; simp [hz]
 generalize hH : (hh.getD (N : Int)).toNat = H' at hk hrun bM hLH hHN
 split at hk
 ·have hx := ev_raw h1 he hs hG
  simp [slen] at hN
  subst hN
  refine .here hs hk (VR.raw rfl) ?_
  have hL0 : L' = 0 := by omega
  have hH0 : H' = 0 := by omega
  rw [hexec _ hx, hrun none 0 (by omega)]
  have hb := bM 0 (by omega)
  have h0 : (c.getD ((0 : Nat) : Int)).toNat = 0 := by omega
  simp only [h0, hL0, hH0]
  rfl
 ·rename_i t' r p off len ex
  obtain ⟨rfl, hk⟩ := hk
  simp [slen] at hN
  subst hN
  generalize hx : a.eval x = v at hlr
  cases hlr with
  | slz _ _ _ _ _ ad =>
   have hL0 : L' = 0 := by omega
   have hH0 : H' = 0 := by omega
   have hb := bM 0 (by omega)
   have h0 : (c.getD ((0 : Nat) : Int)).toNat = 0 := by omega
   refine .here hs hk (v := .slice ad 0 0) ?_ ?_
   ·rw [hL0, hH0]; exact VR.ofLeaf (.slz _ _ _ _ _ _)
   ·rw [hexec _ hx, hrun ad 0 (by omega)]
    simp only [h0, hL0, hH0]
    rfl
  | sl _ _ _ _ _ _ L cap hL' c1 c2 c3 =>
   have hb := bM cap c1
   generalize hM : (c.getD (cap : Int)).toNat = M' at hb hrun
   have hM := hrun (some ⟨L.b, L.off p + off * t'.size, none⟩) cap c1
   generalize hMM : (c.getD (cap : Int)).toNat = M' at hM hb
   by_cases hz : M' = L'
   ·have hh0 : H' - L' = 0 := by omega
    have hm0 : M' - L' = 0 := by omega
    refine .here hs hk (v := .slice (some ⟨L.b, L.off p + off * t'.size, none⟩) 0 0) ?_ ?_
    ·rw [hh0]; exact VR.ofLeaf (.slz _ _ _ _ _ _)
    ·rw [hexec _ hx, hM]; simp only [hz, if_true, Result.andThen_ok, hh0, Nat.sub_self]
   ·refine .here hs hk (v := .slice (some ⟨L.b, L.off p + (off + L') * t'.size, none⟩) (H' - L') (M' - L')) ?_ ?_
    ·refine VR.ofLeaf (.sl _ _ _ _ _ _ L _ hL' (by omega) (fun hq => ?_) ?_)
     ·cases c with
      | none =>
       simp [exOf] at hq hMM
       have := c2 hq.1
       omega
      | some z =>
       simp [exOf] at hq hMM
       omega
     ·rcases c3 with ⟨d1, d2, dm, d3⟩ | ⟨m, d1, d2⟩
      ·refine .inl ⟨d1, d2, dm, Nat.le_trans (Nat.mul_le_mul_right _ (by omega)) d3⟩
      ·exact .inr ⟨m, d1, by omega⟩
    ·rw [hexec _ hx, hM]
     simp only [hz, if_false, Result.andThen_ok, Option.map_some, addr_add, Nat.add_mul, Nat.add_assoc]
 ·rename_i t' els ex
  obtain ⟨rfl, hk⟩ := hk
  simp [slen] at hN
  subst hN
  have key : ∀ (ad : Option Addr) (cap : Nat) (v : Value), a.eval x = v → v = .slice ad els.length cap → els.length ≤ cap → (∀ d ∈ els, HasSh t' d) → (ex = true → cap = els.length) → (ad = none → cap = 0) →
    (els.length ≠ 0 → ∃ b o' cs, ad = some ⟨b, o', none⟩ ∧ T b ∧ All2 (LR ρ w T) (flatL els) cs ∧ At w b o' cs) → OpGoal P n o ρ T env rows a w k := by
   intro ad cap v hx hv' hcap hall hex hnil hcs
   subst hv'
   have hb := bM cap hcap
   have hM := hrun ad cap hcap
   generalize hMM : (c.getD (cap : Int)).toNat = M' at hM hb
   have hexM : exOf c H' (c.getD (hh.getD ↑els.length)).toNat els.length ex = true → M' = H' := by
    intro hq
    cases c with
    | none =>
     simp [exOf] at hq hMM
     have := hex hq.1
     omega
    | some z =>
     simp [exOf] at hq hMM
     omega
   have hll : ((els.drop L').take (H' - L')).length = H' - L' := by simp; omega
   by_cases hz : H' = L'
   ·have hnl : (els.drop L').take (H' - L') = [] := List.eq_nil_of_length_eq_zero (by omega)
    refine .here hs hk (v := .slice (if M' = L' then ad else ad.map (·.add (L' * t'.size))) 0 (M' - L')) ?_ ?_
    ·rw [hnl]
     refine VR.ofLeaf (.lst0 _ _ _ _ (fun hq => by have := hexM hq; omega) (fun hq => ?_))
     split at hq
     ·omega
     ·have : ad = none := by simpa using hq
      have := hnil this
      omega
    ·rw [hexec _ hx, hM, hz]
     simp only [Nat.sub_self, Result.andThen_ok]
   ·have hz' : ¬ M' = L' := by omega
    obtain ⟨b, o', cs, rfl, hT, q2, q3⟩ := hcs (by omega)
    obtain ⟨pre, post, q4, q5⟩ := flatL_part (off := L') (len := H' - L') hall (by omega)
    rw [q4] at q2
    have q6 := (q2.drop pre.length).take (flatL ((els.drop L').take (H' - L'))).length
    rw [List.drop_left, List.take_left] at q6
    refine .here hs hk (v := .slice (some ⟨b, o' + L' * t'.size, none⟩) ((els.drop L').take (H' - L')).length (M' - L')) ?_ ?_
    ·refine VR.ofLeaf (LR.mkLst (fun d hd => hall d (List.mem_of_mem_drop (List.mem_of_mem_take hd))) hT q6 (by rw [← q5]; exact (q3.drop _).take _) (by omega) (fun hq => by have := hexM hq; omega))
    ·rw [hexec _ hx, hM]
     simp only [hz', if_false, Result.andThen_ok, hll, Option.map_some, addr_add]
  generalize hx : a.eval x = v at hlr
  cases hlr with
  | lst0 _ _ ad cap c1 c2 => exact key ad cap _ hx rfl (by simp) (by simp) (by simpa using c1) c2 (by simp)
  | lst _ _ _ b o' cap f c1 hb c2 c3 c4 c5 =>
   exact key _ cap _ hx rfl c4 c1 c5 (by simp) (fun _ => ⟨b, o', _, rfl, hb, (lr_at (d := default) c2 c3).1, (lr_at (d := default) c2 c3).2⟩)
 ·exact hk.elim
end ops
end Go.Am
namespace Go.Am
set_option linter.unusedVariables false
set_option linter.unusedSimpArgs false
variable {C : Ctx} {P : Program} {n : Nat} {ρ : Pl} {T : Nat → Prop} {env : Env} {rows : Rows} {a : Act} {w : World}
theorem sameZ_eq {a b : Value} (h : sameZ a b = true) : b = a ∧ a.oneCell' = true := by
  unfold sameZ at h
  split at h <;> first
    | (simp at h; obtain ⟨rfl, rfl⟩ := h; exact ⟨rfl, rfl⟩)
    | (simp at h; subst h; exact ⟨rfl, rfl⟩)
    | (rename_i x y
       have e : x.data.toList = y.data.toList := by simpa using h
       have e2 : x.data = y.data := Array.ext' e
       have e3 : x = y := ByteArray.ext e2
       subst e3
       exact ⟨rfl, rfl⟩)
    | exact ⟨rfl, rfl⟩
    | cases h
theorem sameZs_all2 {l : List D} {vs : List Value} (h : sameZs l vs = true) (ρ : Pl) (w : World) (T : Nat → Prop) : All2 (LR ρ w T) l vs := by
 induction l generalizing vs with
 | nil => cases vs with
  | nil => exact .nil
  | cons v vs => simp [sameZs] at h
 | cons d l ih => cases vs with
  | nil => simp [sameZs] at h
  | cons v vs =>
   cases d with
   | raw x =>
    simp [sameZs] at h
    obtain ⟨rfl, h2⟩ := sameZ_eq h.1
    exact .cons (.raw _ h2) (ih h.2)
   | _ => simp [sameZs] at h
theorem zL_spec {f : TypeId → Option D} {g : TypeId → Option Sh} (hfg : ∀ t d e, f t = some d → g t = some e → HasSh e d) : ∀ (fs : List Field) {l : List D} {s : Sh}, zL f fs = some l → shL g fs = some s →
  s.isAgg = true ∧ l.length = s.count ∧ ∀ i e d, s.sub i = some e → l[i]? = some d → HasSh e d
 | [], l, s, h1, h2 => by
  simp [zL] at h1
  simp [shL] at h2
  subst h1; subst h2
  simp [Sh.isAgg, Sh.count, Sh.sub]
 | x :: fs, l, s, h1, h2 => by
  simp only [zL] at h1
  simp only [shL] at h2
  split at h1
  ·rename_i d hd
   split at h1
   ·rename_i l' hl'
    cases h1
    split at h2
    ·rename_i e he
     split at h2
     ·rename_i s' hs'
      cases h2
      obtain ⟨g1, g2, g3⟩ := zL_spec hfg fs hl' hs'
      refine ⟨g1, by simp [Sh.count, g2], fun i e' d' hi hd' => ?_⟩
      cases i with
      | zero =>
       simp [Sh.sub] at hi hd'
       subst hi; subst hd'
       exact hfg _ _ _ hd he
      | succ i => exact g3 i e' d' (by simpa [Sh.sub] using hi) (by simpa using hd')
     ·cases h2
    ·cases h2
   ·cases h1
  ·cases h1
theorem zT_spec (P : Program) : ∀ (n : Nat) (t : TypeId) (d : D) (s : Sh), zT P n t = some d → shT P n t = some s → HasSh s d
 | 0, t, d, s, h1, h2 => by simp [zT] at h1
 | n + 1, t, d, s, h1, h2 => by
  have h2' := h2
  simp only [zT] at h1
  simp only [shT] at h2
  cases hu : P.underlying t with
  | none => simp [hu] at h1
  | some u =>
   cases u with
   | struct fs =>
    simp only [hu] at h1 h2
    rw [h2'] at h1
    simp only at h1
    split at h1
    ·rename_i l hl
     cases h1
     obtain ⟨g1, g2, g3⟩ := zL_spec (fun t d e hd he => zT_spec P n t d e hd he) fs.toList hl h2
     exact .agg s l g1 g2 g3
    ·cases h1
   | array m e =>
    simp only [hu] at h1 h2
    rw [h2'] at h1
    simp only at h1
    split at h1
    ·rename_i d' hd'
     cases h1
     split at h2
     ·rename_i s' hs'
      cases h2
      refine .agg _ _ rfl (by simp [Sh.count]) fun i e' d'' hi hd'' => ?_
      simp only [Sh.sub] at hi
      split at hi
      ·cases hi
       rw [List.eq_of_mem_replicate (List.mem_of_getElem? hd'')]
       exact zT_spec P n e d' s' hd' hs'
      ·cases hi
     ·cases h2
    ·cases h1
   | bool => simp [hu] at h1 h2; subst h1; subst h2; exact .leaf _ _ rfl
   | int k => simp [hu] at h1 h2; subst h1; subst h2; exact .leaf _ _ (by simp [isSc])
   | string => simp [hu] at h1 h2; subst h1; subst h2; exact .leaf _ _ rfl
   | pointer _ => simp [hu] at h1 h2; subst h1; subst h2; exact .ref _ rfl
   | slice _ => simp [hu] at h1 h2; subst h1; subst h2; exact .ref _ rfl
   | map _ _ => simp [hu] at h1 h2; subst h1; subst h2; exact .ref _ rfl
   | func _ _ _ => simp [hu] at h1 h2; subst h1; subst h2; exact .ref _ rfl
   | interface _ => simp [hu] at h1 h2; subst h1; subst h2; exact .ref _ rfl
   | _ => simp [hu] at h1
theorem sh_shT {t : TypeId} {s : Sh} (h : sh P t = some s) : shT P 40 t = some s := by
 unfold sh at h
 split at h
 ·rename_i s' hs'
  split at h
  ·rename_i i hi
   cases hb : (i.size == s'.size) with
   | false => rw [hb] at h; simp at h
   | true => rw [hb] at h; simp at h; subst h; exact hs'
  ·cases h
 ·cases h
theorem push_old {w : World} {o : Obj} {b : Nat} (h : b < w.heap.size) : ({ w with heap := w.heap.push o } : World).heap[b]? = w.heap[b]? := by
 rw [Array.getElem?_push, if_neg (by omega)]
theorem bif_some {α : Type} {c : Bool} {x y : α} (h : (bif c then some x else none) = some y) : c = true ∧ x = y := by
 cases c with
 | false => simp at h
 | true => exact ⟨rfl, by simpa using h⟩
theorem zero_spec {t : TypeId} {s : Sh} {z : D} (hs : sh P t = some s) (hz : zero P t = some z) :
  HasSh s z ∧ ∃ v, (∀ w, (zeroValue t).run P w = .ok v w) ∧ v.cells.size = s.size ∧ ∀ ρ w T, All2 (LR ρ w T) z.flat v.cells.toList := by
 unfold zero at hz
 split at hz
 ·rename_i d hd
  split at hz
  ·rename_i i hi
   split at hz
   ·rename_i v hv
    obtain ⟨hb', hdz⟩ := bif_some hz
    have hb := (Bool.and_eq_true_iff.1 hb').1
    ·subst hdz
     have hsh := zT_spec P 40 t d s hd (sh_shT hs)
     refine ⟨hsh, v, fun w => by simp [zeroValue, typeInfo, hi, hv], ?_, fun ρ w T => sameZs_all2 hb ρ w T⟩
     have := (sameZs_all2 hb (fun _ => none) default (fun _ => False)).len
     rw [hsh.len] at this
     simpa using this.symm
   ·cases hz
  ·cases hz
 ·cases hz
theorem Sim.pushRun (hs : Sim n ρ T env rows a w) (row : Row) (cur : Array Value) (t : TypeId) (w' : World) (hw' : w' = { w with heap := w.heap.push (.cells cur t) })
  (hels : ∀ d ∈ row.els, HasSh row.sh d) (hlen : (flatL row.els).length ≤ cur.size) (hc : All2 (LR ρ w T) (flatL row.els) (cur.toList.take (flatL row.els).length)) :
  Sim n (upd ρ rows.length ⟨w.heap.size, row.sh, cur.size, false⟩) T env (rows ++ [some row]) a w' ∧ Step ρ T rows w (upd ρ rows.length ⟨w.heap.size, row.sh, cur.size, false⟩) T (rows ++ [some row]) w' := by
 subst hw'
 exact hs.push row cur t rfl rfl rfl rfl hels hlen hc
theorem All2.takeLen {α β : Type} {R : α → β → Prop} {l : List α} {m : List β} (h : All2 R l m) : All2 R l (m.take l.length) := by
 rw [h.len, List.take_length]
 exact h
theorem foldl_cells (off : Nat) : ∀ (vs : List Value) (k : Nat) (cells : Array Value), off + k + vs.length ≤ cells.size →
  ((vs.zipIdx k).foldl (fun (cs : Array Value) (x : Value × Nat) => cs.setIfInBounds (off + x.2) x.1) cells).toList = cells.toList.take (off + k) ++ (vs ++ cells.toList.drop (off + k + vs.length))
 | [], k, cells, _ => by simp
 | v :: vs, k, cells, h => by
  simp only [List.zipIdx_cons, List.foldl_cons]
  rw [foldl_cells off vs (k + 1) _ (by simp at h ⊢; omega)]
  simp only [List.length_cons] at h
  have h1 : (cells.setIfInBounds (off + k) v).toList = cells.toList.set (off + k) v := by simp
  rw [h1]
  apply List.ext_getElem?
  intro i
  simp only [List.getElem?_append, List.length_take, List.length_set, Array.length_toList, List.getElem?_take, List.getElem?_set, List.getElem?_drop, List.length_cons, List.getElem?_cons]
  have hsz : off + k < cells.size := by omega
  rcases Nat.lt_trichotomy i (off + k) with h2 | h2 | h2
  ·simp [show i < min (off + (k + 1)) cells.size by omega, show i < min (off + k) cells.size by omega, show i < off + (k + 1) by omega, show i < off + k by omega, show ¬ (off + k = i) by omega]
  ·subst h2
   simp [show off + k < min (off + (k + 1)) cells.size by omega, show ¬ (off + k < min (off + k) cells.size) by omega, show min (off + k) cells.size = off + k by omega, hsz, show off + k < off + (k + 1) by omega]
  ·have e1 : min (off + (k + 1)) cells.size = off + (k + 1) := by omega
   have e2 : min (off + k) cells.size = off + k := by omega
   simp only [e1, e2, show ¬ (i < off + (k + 1)) by omega, show ¬ (i < off + k) by omega, if_false]
   have e3 : i - (off + k) ≠ 0 := by omega
   by_cases h3 : i - (off + (k + 1)) < vs.length
   ·simp only [h3, if_true, show i - (off + k) < vs.length + 1 by omega, e3, if_false]
    congr 1
   ·simp only [h3, if_false, show ¬ (i - (off + k) < vs.length + 1) by omega]
    rw [if_neg (by omega)]
    congr 1
    omega
theorem cX_parts {l : List (Nat × Operand)} {ps : List (Nat × X)} (h : cParts l = some ps) : (l = [] ∧ ps = []) ∨ ∃ i x r y q, l = (i, x) :: r ∧ ps = (i, y) :: q ∧ cX x = some y ∧ cParts r = some q := by
 cases l with
 | nil => simp [cParts] at h; exact .inl ⟨rfl, h⟩
 | cons p r =>
  obtain ⟨i, x⟩ := p
  simp only [cParts] at h
  split at h
  ·rename_i y hy
   split at h
   ·rename_i q hq
    cases h
    exact .inr ⟨i, x, r, y, q, rfl, rfl, hy, hq⟩
   ·cases h
  ·cases h
theorem fill_sound (hs : Sim n ρ T env rows a w) (hG : Glob C ρ w T) {s : Sh} {place : Nat → Option (Nat × Nat)} (hplace : ∀ i e, s.sub i = some e → place i = some (s.offs i, e.size)) (ha : s.isAgg = true) :
  ∀ (parts : List (Nat × Operand)) (ps : List (Nat × X)) (l l' : List D) (cells : Array Value), cParts parts = some ps → fillP C env s.sub ps l = some l' → HasSh s (.agg s l) → All2 (LR ρ w T) (flatL l) cells.toList →
  ∃ cells', Instr.fill place cells (parts.map fun x => (x.1, a.eval x.2)) = some cells' ∧ HasSh s (.agg s l') ∧ All2 (LR ρ w T) (flatL l') cells'.toList := by
 intro parts
 induction parts with
 | nil =>
  intro ps l l' cells hc hf hsh hall
  simp [cParts] at hc
  subst hc
  simp [fillP] at hf
  subst hf
  exact ⟨cells, rfl, hsh, hall⟩
 | cons p parts ih =>
  intro ps l l' cells hc hf hsh hall
  rcases cX_parts hc with ⟨h, _⟩ | ⟨i, x, r, y, q, h1, h2, h3, h4⟩
  ·cases h
  ·cases h1
   subst h2
   simp only [fillP] at hf
   split at hf
   ·rename_i d hd
    split at hf
    ·rename_i e he
     cases hfit : d.fits e with
     | false => rw [hfit] at hf; simp at hf
     | true =>
      rw [hfit] at hf
      simp at hf
      obtain ⟨g1, g2, _⟩ := (ev_sound h3 hd hs hG).cells hfit
      obtain ⟨d0, hd0, hs0, hoff⟩ := hsh.part ha he
      have hall' := hall
      rw [flatL_get hd0] at hall
      have hseg := All2.seg (N := cells.toList.length) (by rw [List.take_length]; exact hall)
      have hlen0 : d0.flat.length = e.size := hs0.len
      have hvs : (a.eval x).cells.size = e.size := by rw [← g1.len]; simpa using g2.len.symm
      have hfold := foldl_cells (s.offs i) (a.eval x).cells.toList 0 cells (by rw [hoff] at hseg; simp [hvs]; simp [hlen0] at hseg; omega)
      have hset := hsh.setPart ha he g1
      have hnew : All2 (LR ρ w T) (flatL (l.set i d)) ((a.eval x).cells.zipIdx.foldl (fun cs (c, j) => cs.setIfInBounds (s.offs i + j) c) cells).toList := by
       rw [← Array.foldl_toList, Array.toList_zipIdx, hfold, flatL_set (lt_of_get hd0)]
       have q1 := hall.take (flatL (l.take i)).length
       rw [List.take_left] at q1
       have q2 := hall.drop ((flatL (l.take i)).length + d0.flat.length)
       rw [← List.drop_drop, List.drop_left, List.drop_left] at q2
       have e1 : s.offs i + 0 = (flatL (l.take i)).length := by rw [hoff]; rfl
       have e2 : s.offs i + 0 + (a.eval x).cells.toList.length = (flatL (l.take i)).length + d0.flat.length := by rw [hoff, hlen0]; simp [hvs]
       rw [e2, e1]
       exact q1.append (g2.append q2)
      obtain ⟨cells', k1, k2, k3⟩ := ih q (l.set i d) l' _ h4 hf hset hnew
      refine ⟨cells', ?_, k2, k3⟩
      simp only [List.map_cons, Instr.fill, hplace i e he]
      rw [if_neg]
      ·exact k1
      ·have := hseg.2
       rw [hoff, hlen0] at this
       simp [hvs]
       simp at this
       omega
    ·cases hf
   ·cases hf
theorem flat_replicate {s : Sh} {z : D} (hz : HasSh s z) : ∀ (m i : Nat), (flatL (List.replicate m z))[i]? = if i < m * s.size then z.flat[i % s.size]? else none
 | 0, i => by simp [flatL]
 | m + 1, i => by
  simp only [List.replicate_succ, flatL]
  rw [List.getElem?_append, hz.len]
  by_cases h : i < s.size
  ·rw [if_pos h, if_pos (by rw [Nat.succ_mul]; omega), Nat.mod_eq_of_lt h]
  ·rw [if_neg h, flat_replicate hz m (i - s.size)]
   have h0 : 0 < s.size ∨ s.size = 0 := by omega
   rcases h0 with h0 | h0
   ·have e : i % s.size = (i - s.size) % s.size := by
     rw [← Nat.mod_eq_sub_mod (by omega)]
    rw [e]
    by_cases h1 : i - s.size < m * s.size
    ·rw [if_pos h1, if_pos (by rw [Nat.succ_mul]; omega)]
    ·rw [if_neg h1, if_neg (by rw [Nat.succ_mul]; omega)]
   ·simp [h0]
theorem zeros_all2 {s : Sh} {z : D} {v : Value} (hz : HasSh s z) (hv : v.cells.size = s.size) (hc : All2 (LR ρ w T) z.flat v.cells.toList) (m : Nat) :
  All2 (LR ρ w T) (flatL (List.replicate m z)) ((Array.range (m * s.size)).map (v.cells[· % v.cells.size]!)).toList := by
 refine ⟨?_, fun i x y hx hy => ?_⟩
 ·rw [flatL_len_all (s := s) (fun d hd => (List.eq_of_mem_replicate hd) ▸ hz)]
  simp
 ·rw [flat_replicate hz] at hx
  split at hx
  ·rename_i hi
   simp only [Array.toList_map, Array.toList_range, List.getElem?_map, List.getElem?_range hi, Option.map_some, Option.some.injEq] at hy
   obtain ⟨u, hu, hr⟩ := hc.some hx
   have hlt : i % v.cells.size < v.cells.size := by
    rw [hv]
    apply Nat.mod_lt
    rcases Nat.eq_zero_or_pos s.size with h0 | h0
    ·rw [h0] at hi; simp at hi
    ·exact h0
   have e : v.cells[i % v.cells.size]! = u := by
    have h1 : v.cells[i % s.size]? = some u := by simpa using hu
    rw [hv]
    rw [hv] at hlt
    have h2 : i % s.size < v.cells.size := by omega
    rw [getElem!_pos v.cells (i % s.size) h2]
    rw [Array.getElem?_eq_getElem h2] at h1
    exact Option.some.inj h1
   rw [← hy, e]
   exact hr
  ·cases hx
section ops
variable (hs : Sim n ρ T env rows a w) (hG : Glob C ρ w T) {o : Oper} {k : D → Rows → Prop}
include hs hG

omit hG in
theorem op_alloc {t : TypeId} {s : Sh} {z : D} (ho : o.op = .alloc t) (hsh : sh P t = some s) (hz : zero P t = some z) (h : aop C env rows (.alloc s z) k) : OpGoal P n o ρ T env rows a w k := by
 obtain ⟨h1, v, h2, h3, h4⟩ := zero_spec hsh hz
 have hc : All2 (LR ρ w T) (flatL [z]) v.cells.toList := by simpa [flatL] using h4 ρ w T
 obtain ⟨g1, g2⟩ := hs.pushRun ⟨s, [z]⟩ v.cells t _ rfl (by simpa using h1) (by simp [flatL, h1.len, h3]) hc.takeLen
 refine ⟨_, _, _, _, .pointer (some ⟨w.heap.size, 0, none⟩), _, h, g1, g2, ?_, .inl ?_, fun _ => ⟨fun b hb => .inl (push_old hb), fun _ h => .inl h⟩⟩
 ·have := LR.ptr (ρ := upd ρ rows.length ⟨w.heap.size, s, v.cells.size, false⟩) (w := { w with heap := w.heap.push (.cells v.cells t) }) (T := T) s rows.length [0] ⟨w.heap.size, s, v.cells.size, false⟩ (by simp [upd]) rfl
  simpa [Loc.off, Sh.off] using VR.ofLeaf this
 ·simp [execOp, ho, Instr.alloc, h2, newVar, newRow]
theorem op_box {t : TypeId} {x : Operand} {x' : X} {s : Sh} (ho : o.op = .box t x) (h1 : cX x = some x') (h : aop C env rows (.box s x') k) : OpGoal P n o ρ T env rows a w k := by
 obtain ⟨d, he, hf, hk⟩ := bnd_some h
 obtain ⟨g1, g2, _⟩ := (ev_sound h1 he hs hG).cells hf
 have hc : All2 (LR ρ w T) (flatL [d]) (a.eval x).cells.toList := by simpa [flatL] using g2
 obtain ⟨q1, q2⟩ := hs.pushRun ⟨s, [d]⟩ (a.eval x).cells t _ rfl (by simpa using g1) (by have := hc.len; simp at this ⊢; omega) hc.takeLen
 refine ⟨_, _, _, _, .pointer (some ⟨w.heap.size, 0, none⟩), _, hk, q1, q2, ?_, .inl ?_, fun _ => ⟨fun b hb => .inl (push_old hb), fun _ h => .inl h⟩⟩
 ·have := LR.ptr (ρ := upd ρ rows.length ⟨w.heap.size, s, (a.eval x).cells.size, false⟩) (w := { w with heap := w.heap.push (.cells (a.eval x).cells t) }) (T := T) s rows.length [0] ⟨w.heap.size, s, (a.eval x).cells.size, false⟩ (by simp [upd]) rfl
  simpa [Loc.off, Sh.off] using VR.ofLeaf this
 ·simp [execOp, ho, Instr.box, newVar, newRow]
theorem op_storeQ {t : TypeId} {x y : Operand} {x' y' : X} {s : Sh} (ho : o.op = .store t x y) (hsh : sh P t = some s) (h1 : cX x = some x') (h2 : cX y = some y') (h : aop C env rows (.store s x' y') k) :
  ∃ d rows' v w', k d rows' ∧ Sim n ρ T env rows' a w' ∧ Step ρ T rows w ρ T rows' w' ∧ VR ρ w' T d v ∧ Runs P o a w v w' ∧ ∃ r p L, ev C env x' = some (.ptr s r p) ∧ ρ r = some L ∧ (∀ b, b ≠ L.b → w'.heap[b]? = w.heap[b]?) ∧ ∃ x, rows' = rows.set r (some x) := by
 obtain ⟨d, he, hk⟩ := bnd_some h
 have hv := ev_sound h1 he hs hG
 split at hk
 ·rename_i s' r p
  obtain ⟨d, he2, k1⟩ := bnd_some hk
  obtain ⟨hf, hss, k2⟩ := k1
  subst hss
  obtain ⟨row, hlive, k3⟩ := bnd_some k2
  obtain ⟨els, hset, k4⟩ := bnd_some k3
  clear hk k2 k3
  obtain ⟨g1, g2, _⟩ := (ev_sound h2 he2 hs hG).cells hf
  have hl : LR ρ w T _ _ := hv
  generalize hx : a.eval x = v at hl
  cases hl with
  | ptr _ _ _ L hL hp =>
   have hr := hs.rowsOK.row r row L hlive hL
   obtain ⟨cur, t', q1, q2, q3, q4⟩ := hr.cells (Loc.at_mp hp)
   cases p with
   | nil => simp [Loc.at] at hp
   | cons i p =>
    have hmp := Loc.at_mp hp
    rw [Loc.at_cons hmp, hr.sh] at hp
    obtain ⟨m1, m2, m3, pre, old, post, m4, m5, m6, m7⟩ := rowSet_spec hr.els hp g1 hset
    rw [m4] at q4
    have hseg := q4.seg
    have hoff : L.off (i :: p) = pre.length := by simp [Loc.off, hr.sh, m6]
    have hvl : (a.eval y).cells.toList.length = d.flat.length := g2.len.symm
    have hfit : L.off (i :: p) + 0 + (a.eval y).cells.toList.length ≤ cur.size := by rw [hoff, hvl, ← m7]; simpa using hseg.2
    have hone : ∀ v ∈ (a.eval y).cells.toList, v.oneCell' = true := by
     intro v hv
     obtain ⟨j, hj, rfl⟩ := List.mem_iff_getElem.1 hv
     exact (g2.at_ j _ _ (List.getElem?_eq_getElem (by omega)) (List.getElem?_eq_getElem hj)).one
    have hst := run_storeCells_row P L.b (L.off (i :: p)) t' (a.eval y).cells.toList 0 cur w q1 hfit hone
    have hfl : (flatL els).length = (pre ++ (old ++ post)).length := by rw [m5]; simp [m7]
    have hnew : All2 (LR ρ w T) (flatL els) ((cur.toList.take (L.off (i :: p) + 0) ++ (a.eval y).cells.toList ++ cur.toList.drop (L.off (i :: p) + 0 + (a.eval y).cells.toList.length)).take (flatL els).length) := by
     rw [hoff, hvl, ← m7]
     have z1 := q4.take pre.length
     rw [List.take_left, List.take_take] at z1
     have z2 := q4.drop (pre.length + old.length)
     rw [← List.drop_drop, List.drop_left, List.drop_left, List.drop_take] at z2
     have hle : pre.length + old.length ≤ cur.toList.length := hseg.2
     have : ((cur.toList.take (pre.length + 0) ++ (a.eval y).cells.toList ++ cur.toList.drop (pre.length + 0 + old.length)).take (flatL els).length) =
       cur.toList.take (min pre.length (pre ++ (old ++ post)).length) ++ ((a.eval y).cells.toList ++ ((cur.toList.drop (pre.length + old.length)).take ((pre ++ (old ++ post)).length - (pre.length + old.length)))) := by
      rw [List.append_assoc, hfl, List.take_append, List.take_append]
      simp only [Nat.add_zero, List.length_take]
      have e1 : min pre.length cur.toList.length = pre.length := by omega
      rw [e1]
      simp only [List.length_append]
      rw [List.take_take]
      have e2 : min (pre.length + (old.length + post.length)) pre.length = min pre.length (pre.length + (old.length + post.length)) := by omega
      rw [e2]
      congr 1
      have e3 : (a.eval y).cells.toList.length = old.length := by omega
      rw [e3]
      congr 1
      ·rw [List.take_of_length_le]
       omega
      ·congr 1
       omega
     rw [this, m5]
     exact z1.append (g2.append z2)
    obtain ⟨u1, u2⟩ := hs.write hlive hL els cur _ t' hmp q1 (by have hf2 := hfit; simp only [Array.length_toList] at hf2; simp only [List.size_toArray, List.length_append, List.length_take, List.length_drop, Array.length_toList]; omega) m1
     (by rw [hfl]; rw [m4] at q3; exact q3) hnew
    refine ⟨_, _, undef, _, k4, u1, u2, ?_, .inr ⟨?_, rfl⟩, r, i :: p, L, he, hL, fun b hb => setRow_other w L.b b _ hb, _, rfl⟩
    ·exact ⟨#[], rfl, .nil⟩
    ·obtain ⟨inf, hi, hsz⟩ := sh_info hsh
     have hcs : (a.eval y).cells.size = s'.size := by rw [← g1.len]; simpa using g2.len.symm
     simp [execOp, ho, hx, Instr.storeAt, Instr.sureAddr, storeVar, sizeOf, typeInfo, hi, hsz, hcs, hst]
 ·exact hk.elim
theorem op_store {t : TypeId} {x y : Operand} {x' y' : X} {s : Sh} (ho : o.op = .store t x y) (hsh : sh P t = some s) (h1 : cX x = some x') (h2 : cX y = some y') (h : aop C env rows (.store s x' y') k) : OpGoal P n o ρ T env rows a w k := by
 obtain ⟨d, rows', v, w', g1, g2, g3, g4, g5, -⟩ := op_storeQ hs hG ho hsh h1 h2 h
 exact ⟨d, rows', ρ, T, v, w', g1, g2, g3, g4, g5, fun hq => by rw [ho] at hq; cases hq⟩
end ops
end Go.Am
