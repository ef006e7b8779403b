/- The operations, one by one: plain ones, and those that read. -/
import Derived.Test.YtloclegkilgglaaAm5
namespace Go.Am
set_option linter.unusedVariables false
set_option linter.unusedSimpArgs false

theorem bnd_some {α : Type} {x : Option α} {k : α → Prop} (h : bnd x k) : ∃ a, x = some a ∧ k a := by
  cases x with
  | none => exact h.elim
  | some a => exact ⟨a, rfl, h⟩
theorem o2_some {α β : Type} {x : Option α} {f : α → Option β} {y : β} (h : o2 x f = some y) : ∃ a, x = some a ∧ f a = some y := by
  cases x with
  | none => simp [o2] at h
  | some a => exact ⟨a, rfl, h⟩
theorem ifo_some {α : Type} {b : Bool} {x : Option α} {y : α} (h : ifo b x = some y) : b = true ∧ x = some y := by
  cases b with
  | false => simp [ifo] at h
  | true => exact ⟨rfl, h⟩

variable {C : Ctx} {P : Program} {n : Nat} {ρ : Pl} {T : Nat → Prop} {env : Env} {rows : Rows} {a : Act} {w : World}

def Glob (C : Ctx) (ρ : Pl) (w : World) (T : Nat → Prop) : Prop := ∀ g d, C.glob g = some d → LR ρ w T (.cptr d) (.pointer (some ⟨g, 0, none⟩))

def Runs (P : Program) (o : Oper) (a : Act) (w : World) (v : Value) (w' : World) : Prop :=
  (execOp a.eval o).run P w = .ok (.value v) w' ∨ ((execOp a.eval o).run P w = .ok .skip w' ∧ v = undef)

def OpGoal (P : Program) (n : Nat) (o : Oper) (ρ : Pl) (T : Nat → Prop) (env : Env) (rows : Rows) (a : Act) (w : World) (k : D → Rows → Prop) : Prop :=
  ∃ d rows' ρ' T' v w', k d rows' ∧ Sim n ρ' T' env rows' a w' ∧ Step ρ T rows w ρ' T' rows' w' ∧ VR ρ' w' T' d v ∧ Runs P o a w v w' ∧ (quietOp o.op = true → QH ρ rows w w' ∧ ∀ b, T' b → T b ∨ w.heap.size ≤ b)

theorem OpGoal.here {o : Oper} {k : D → Rows → Prop} (hs : Sim n ρ T env rows a w) {d : D} {v : Value} (hk : k d rows) (hv : VR ρ w T d v) (hr : (execOp a.eval o).run P w = .ok (.value v) w) :
    OpGoal P n o ρ T env rows a w k := ⟨d, rows, ρ, T, v, w, hk, hs, Step.refl _ _ _ _, hv, .inl hr, fun _ => ⟨fun _ _ => .inl rfl, fun _ h => .inl h⟩⟩

theorem ev_sound {x : Operand} {y : X} {d : D} (hc : cX x = some y) (he : ev C env y = some d) (hs : Sim n ρ T env rows a w) (hG : Glob C ρ w T) : VR ρ w T d (a.eval x) := by
  cases x with
  | tmp t =>
    simp [cX] at hc
    subst hc
    exact hs.env t d he
  | const v =>
    simp only [cX] at hc
    cases hv : v.oneCell' with
    | false => simp [hv] at hc
    | true =>
      simp [hv] at hc
      subst hc
      simp [ev] at he
      subst he
      exact VR.raw hv
  | global g =>
    simp [cX] at hc
    subst hc
    simp only [ev] at he
    cases hg : C.glob g with
    | none => simp [hg] at he
    | some d' =>
      simp [hg] at he
      subst he
      exact VR.ofLeaf (hG g d' hg)
  | func f =>
    simp [cX] at hc
    subst hc
    simp [ev] at he
    subst he
    exact VR.raw rfl
theorem ev_raw {x : Operand} {y : X} {v : Value} (hc : cX x = some y) (he : ev C env y = some (.raw v)) (hs : Sim n ρ T env rows a w) (hG : Glob C ρ w T) : a.eval x = v :=
  VR.ofRaw (ev_sound hc he hs hG)

theorem int_beq (x y : Int) : (x == y) = decide (x = y) := rfl

theorem run_equal_bool {t : TypeId} (ht : P.underlying t = some .bool) (x y : Bool) (w : World) : (Op.equal t (.bool x) (.bool y)).run P w = .ok (x == y) w := by
  have e : Op.maxDepth = 9999 + 1 := rfl
  rw [Op.equal, e, Op.equalIn]
  simp only [Sem.run_bind, run_underlying ht, Result.andThen_ok, Sem.run_pure]

section ops
variable (hs : Sim n ρ T env rows a w) (hG : Glob C ρ w T) {o : Oper} {k : D → Rows → Prop}
include hs hG

theorem op_mv {x : Operand} {y : X} (ho : o.op = .move x ∨ o.op = .assign x) (hc : cX x = some y) (h : aop C env rows (.mv y) k) : OpGoal P n o ρ T env rows a w k := by
  obtain ⟨d, he, hk⟩ := bnd_some h
  refine .here hs hk (ev_sound hc he hs hG) ?_
  rcases ho with ho | ho <;> simp [execOp, ho]

theorem op_pick {c x y : Operand} {c' x' y' : X} (ho : o.op = .pick c x y) (h1 : cX c = some c') (h2 : cX x = some x') (h3 : cX y = some y') (h : aop C env rows (.pick c' x' y') k) : OpGoal P n o ρ T env rows a w k := by
  obtain ⟨d, he, hk⟩ := bnd_some h
  split at hk
  · rename_i t
    have hct := ev_raw h1 he hs hG
    obtain ⟨d, he, hk2⟩ := bnd_some hk
    cases t with
    | true =>
      simp at he
      refine .here hs hk2 (ev_sound h2 he hs hG) ?_
      simp [execOp, ho, hct, asBool]
    | false =>
      simp at he
      refine .here hs hk2 (ev_sound h3 he hs hG) ?_
      simp [execOp, ho, hct, asBool]
  · exact hk.elim

theorem op_bin {op : BinOp} {t u : TypeId} {x y : Operand} {x' y' : X} (ho : o.op = .binOp op t x y u) (h1 : cX x = some x') (h2 : cX y = some y') (h : aop C env rows (.bin op x' y') k) : OpGoal P n o ρ T env rows a w k := by
  obtain ⟨d, he, hk⟩ := bnd_some h
  split at hk
  · rename_i av
    obtain ⟨d2, he2, hk⟩ := bnd_some hk
    split at hk
    · rename_i bv
      have hx := ev_raw h1 he hs hG
      have hy := ev_raw h2 he2 hs hG
      unfold aBin at hk
      split at hk
      all_goals first
        | exact hk.elim
        | (refine .here hs hk (VR.raw rfl) ?_
           simp [execOp, ho, hx, hy, eqGuard, binOp, Op.stringOp]
           done)
        | (obtain ⟨g1, hk⟩ := hk
           refine .here hs hk (VR.raw rfl) ?_
           subst g1
           simp [execOp, ho, hx, hy, eqGuard, binOp, Op.intArith, Op.intBits, Op.intCmp, bne, int_beq]
           done)
        | (obtain ⟨g1, hk⟩ := hk
           refine .here hs hk (VR.raw rfl) ?_
           simp [execOp, ho, hx, hy, eqGuard, binOp, Op.shift, Int.not_lt.2 g1]
           done)
        | (obtain ⟨g1, g2, hk⟩ := hk
           refine .here hs hk (VR.raw rfl) ?_
           subst g1
           simp [execOp, ho, hx, hy, eqGuard, binOp, Op.intDiv, g2]
           done)
        | (obtain ⟨g1, hk⟩ := hk
           refine .here hs hk (VR.raw rfl) ?_
           have e : IntKind.i64.max = 9223372036854775807 := by decide
           simp only [execOp, ho, hx, hy, eqGuard, binOp, Op.stringOp]
           simp
           omega)
    · exact hk.elim
  · exact hk.elim

theorem op_beq {neg : Bool} {op : BinOp} {t u : TypeId} {x y : Operand} {x' y' : X} (ho : o.op = .binOp op t x y u) (hop : op = bif neg then .neq else .eql) (ht : P.underlying t = some .bool) (h1 : cX x = some x') (h2 : cX y = some y')
    (h : aop C env rows (.beq neg x' y') k) : OpGoal P n o ρ T env rows a w k := by
  obtain ⟨d, he, hk⟩ := bnd_some h
  split at hk
  · obtain ⟨d2, he2, hk⟩ := bnd_some hk
    split at hk
    · have hx := ev_raw h1 he hs hG
      have hy := ev_raw h2 he2 hs hG
      refine .here hs hk (VR.raw rfl) ?_
      cases neg <;> simp at hop <;> subst hop <;> simp only [execOp, ho, hx, hy, binOp] <;> simp [eqGuard, run_equal_bool ht]
    · exact hk.elim
  · exact hk.elim

theorem op_un {op : UnOp} {t : TypeId} {x : Operand} {x' : X} (ho : o.op = .unOp op t x) (h1 : cX x = some x') (h : aop C env rows (.un op x') k) : OpGoal P n o ρ T env rows a w k := by
  obtain ⟨d, he, hk⟩ := bnd_some h
  split at hk
  · have hx := ev_raw h1 he hs hG
    unfold aUn at hk
    split at hk
    all_goals first
      | exact hk.elim
      | (refine .here hs hk (VR.raw rfl) ?_
         simp [execOp, ho, hx, Op.unary, Op.intArith, Op.intBits])
  · exact hk.elim

theorem op_conv {s t : TypeId} {x : Operand} {x' : X} {j kd : IntKind} (ho : o.op = .convert s t x) (hsrc : P.underlying s = some (.int j)) (ht : P.underlying t = some (.int kd)) (h1 : cX x = some x')
    (h : aop C env rows (.conv kd x') k) : OpGoal P n o ρ T env rows a w k := by
  obtain ⟨d, he, hk⟩ := bnd_some h
  split at hk
  · have hx := ev_raw h1 he hs hG
    refine .here hs hk (VR.raw rfl) ?_
    simp [execOp, ho, hx, convert, run_underlying hsrc, run_underlying ht, Conv.intToInt]
  · exact hk.elim

theorem op_convS {s t : TypeId} {x : Operand} {x' : X} (ho : o.op = .convert s t x) (hsrc : P.underlying s = some .string) (ht : P.underlying t = some .string) (h1 : cX x = some x')
    (h : aop C env rows (.convs x') k) : OpGoal P n o ρ T env rows a w k := by
  obtain ⟨d, he, hk⟩ := bnd_some h
  split at hk
  · have hx := ev_raw h1 he hs hG
    refine .here hs hk (VR.raw rfl) ?_
    simp [execOp, ho, hx, convert, run_underlying hsrc, run_underlying ht]
  · exact hk.elim

theorem op_nilc {x : Operand} {x' : X} (ho : o.op = .nilCheck x) (h1 : cX x = some x') (h : aop C env rows (.nilc x') k) : OpGoal P n o ρ T env rows a w k := by
  obtain ⟨d, he, hk⟩ := bnd_some h
  have hv := ev_sound h1 he hs hG
  split at hk
  · have hv' := hv
    have hl : LR ρ w T _ _ := hv
    generalize hx : a.eval x = v at hl hv'
    cases hl with
    | ptr _ _ _ L hL hp =>
      refine .here hs hk hv' ?_
      simp [execOp, ho, hx]
  · have hv' := hv
    obtain ⟨b, o', cs, s, hx, _⟩ := LR.readCptr (show LR ρ w T _ _ from hv)
    refine .here hs hk hv' ?_
    simp [execOp, ho, hx]
  · exact hk.elim

theorem op_ext {x : Operand} {x' : X} {i : Nat} (ho : o.op = .extract x i) (h1 : cX x = some x') (h : aop C env rows (.ext x' i) k) : OpGoal P n o ρ T env rows a w k := by
  obtain ⟨d, he, hk⟩ := bnd_some h
  have hv := ev_sound h1 he hs hG
  split at hk
  · obtain ⟨vs, hx, hall⟩ := hv
    obtain ⟨y, hy, hk⟩ := bnd_some hk
    obtain ⟨u, hu, hyu⟩ := hall.some hy
    have hu' : vs[i]? = some u := by simpa using hu
    refine .here hs hk (VR.ofVR1 hyu) ?_
    simp [execOp, ho, hx, Instr.extract, hu']
  · exact hk.elim

end ops

end Go.Am
