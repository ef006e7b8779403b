/- Lengths, slices, strings. -/
import Derived.Test.YtloclegkilgglaaAm7
namespace Go.Am
set_option linter.unusedVariables false
set_option linter.unusedSimpArgs false

variable {C : Ctx} {P : Program} {n : Nat} {ρ : Pl} {T : Nat → Prop} {env : Env} {rows : Rows} {a : Act} {w : World}

theorem slen_val {d : D} {v : Value} {k : Nat} (h : LR ρ w T d v) (hk : slen d = some k) : ∃ ad cap, v = .slice ad k cap := by
  cases h with
  | raw v hv =>
    cases v with
    | slice b len cap =>
      cases b <;> cases len <;> cases cap <;> simp [slen] at hk
      subst hk
      exact ⟨_, _, rfl⟩
    | _ => simp [slen] at hk
  | ptr => simp [slen] at hk
  | cptr => simp [slen] at hk
  | aptr => simp [slen] at hk
  | sl => simp [slen] at hk; subst hk; exact ⟨_, _, rfl⟩
  | slz => simp [slen] at hk; subst hk; exact ⟨_, _, rfl⟩
  | lst0 => simp [slen] at hk; subst hk; exact ⟨_, _, rfl⟩
  | lst => simp [slen] at hk; subst hk; exact ⟨_, _, rfl⟩

theorem slen_leaf {d : D} {k : Nat} (hk : slen d = some k) : d.isLeaf = true := by
  cases d <;> simp_all [slen, D.isLeaf]
  split at hk <;> simp_all [Value.oneCell']

theorem evo_sound {x : Option Operand} {y : Option X} {z : Option Int} (hc : cXo x = some y) (he : evo C env y = some z) (hs : Sim n ρ T env rows a w) (hG : Glob C ρ w T) :
    (x.map a.eval = none ∧ z = none) ∨ ∃ kd i, x.map a.eval = some (.int kd i) ∧ z = some i := by
  cases x with
  | none =>
    simp [cXo] at hc
    subst hc
    simp [evo] at he
    exact .inl ⟨rfl, he.symm⟩
  | some x =>
    simp only [cXo] at hc
    cases hx : cX x with
    | none => simp [hx] at hc
    | some x' =>
      simp [hx] at hc
      subst hc
      simp only [evo] at he
      split at he
      · rename_i kd i hh
        simp at he
        subst he
        exact .inr ⟨kd, i, by simp [ev_raw hx hh hs hG], rfl⟩
      · cases he

theorem run_sliceBound {kd : IntKind} {i : Int} {y : Nat} {code : BoundsCode} (h0 : 0 ≤ i) (h1 : i ≤ (y : Int)) (w : World) : (Instr.sliceBound (.int kd i) y code).run P w = .ok i.toNat w := by
  simp [Instr.sliceBound, asIntOf, h0, h1]

/-- the bounds of a slice: 'm' is the capacity where no third one is given -/
theorem run_sliceBounds {isSlice : Bool} {len cap : Nat} {lo hi mx : Option Value} {l h m : Option Int} {L H M : Nat}
    (hl : (lo = none ∧ l = none) ∨ ∃ kd i, lo = some (.int kd i) ∧ l = some i) (hh : (hi = none ∧ h = none) ∨ ∃ kd i, hi = some (.int kd i) ∧ h = some i)
    (hm : (mx = none ∧ m = none) ∨ ∃ kd i, mx = some (.int kd i) ∧ m = some i) (hmh : mx.isSome = true → hi.isSome = true)
    (eL : l.getD 0 = (L : Int)) (eH : h.getD len = (H : Int)) (eM : m.getD cap = (M : Int)) (h1 : L ≤ H) (h2 : H ≤ M) (h3 : M ≤ cap) (w : World) :
    (Instr.sliceBounds isSlice len cap lo hi mx).run P w = .ok (L, H, M) w := by
  have key : ∀ {kd : IntKind} {i : Int} {y z : Nat} {code : BoundsCode}, i = (z : Int) → z ≤ y → (Instr.sliceBound (.int kd i) y code).run P w = .ok z w := by
    intro kd i y z code e hz
    subst e
    rw [run_sliceBound (by omega) (by omega)]
    simp
  rcases hm with ⟨rfl, rfl⟩ | ⟨km, im, rfl, rfl⟩
  · simp at eM
    rcases hh with ⟨rfl, rfl⟩ | ⟨kh, ih, rfl, rfl⟩
    · simp at eH
      rcases hl with ⟨rfl, rfl⟩ | ⟨kl, il, rfl, rfl⟩
      · simp at eL
        simp [Instr.sliceBounds, ← eL, eH, eM]
        omega
      · simp at eL
        simp [Instr.sliceBounds, key (kd := kl) (y := len) eL (by omega)]
        omega
    · simp at eH
      have kH := fun (c : BoundsCode) => key (kd := kh) (y := cap) (code := c) eH (by omega)
      rcases hl with ⟨rfl, rfl⟩ | ⟨kl, il, rfl, rfl⟩
      · simp at eL
        cases isSlice <;> simp [Instr.sliceBounds, kH] <;> omega
      · simp at eL
        have kL := fun (c : BoundsCode) => key (kd := kl) (y := H) (code := c) eL (by omega)
        cases isSlice <;> simp [Instr.sliceBounds, kH, kL] <;> omega
  · simp at eM
    have kM := fun (c : BoundsCode) => key (kd := km) (y := cap) (code := c) eM (by omega)
    rcases hh with ⟨rfl, rfl⟩ | ⟨kh, ih, rfl, rfl⟩
    · simp at hmh
    · simp at eH
      have kH := fun (c : BoundsCode) => key (kd := kh) (y := M) (code := c) eH (by omega)
      rcases hl with ⟨rfl, rfl⟩ | ⟨kl, il, rfl, rfl⟩
      · simp at eL
        cases isSlice <;> simp [Instr.sliceBounds, kH, kM] <;> omega
      · simp at eL
        have kL := fun (c : BoundsCode) => key (kd := kl) (y := H) (code := c) eL (by omega)
        cases isSlice <;> simp [Instr.sliceBounds, kH, kL, kM] <;> omega

section ops
variable (hs : Sim n ρ T env rows a w) (hG : Glob C ρ w T) {o : Oper} {k : D → Rows → Prop}
include hs hG

theorem op_len {c : Call} {x : Operand} {x' : X} {t e : TypeId} {ts : List TypeId} (ho : o.op = .call c) (hc : c.callee = .builtin .len) (ha : c.args.toList = [x]) (hts : c.argTypes.toList = t :: ts)
    (hu : P.underlying t = some (.slice e)) (h1 : cX x = some x') (h : aop C env rows (.len x') k) : OpGoal P n o ρ T env rows a w k := by
  obtain ⟨d, he, hk⟩ := bnd_some h
  obtain ⟨j, hj, hk⟩ := bnd_some hk
  have hv := (ev_sound h1 he hs hG).toLR (slen_leaf hj)
  obtain ⟨ad, cap, hx⟩ := slen_val hv hj
  have hargs : c.args = #[x] := by apply Array.ext'; simpa using ha
  have hat0 : c.argTypes[0]? = some t := by
    have : c.argTypes.toList[0]? = some t := by rw [hts]; rfl
    simpa using this
  refine .here hs hk (VR.raw rfl) ?_
  rw [exec_builtin ho hc]
  simp [builtin, Builtin.len_, hargs, hat0, run_underlying hu, hx, goInt]

theorem op_strlen {c : Call} {x : Operand} {x' : X} {t : TypeId} {ts : List TypeId} (ho : o.op = .call c) (hc : c.callee = .builtin .len) (ha : c.args.toList = [x]) (hts : c.argTypes.toList = t :: ts)
    (hu : P.underlying t = some .string) (h1 : cX x = some x') (h : aop C env rows (.strlen x') k) : OpGoal P n o ρ T env rows a w k := by
  obtain ⟨d, he, hk⟩ := bnd_some h
  split at hk
  · have hx := ev_raw h1 he hs hG
    have hargs : c.args = #[x] := by apply Array.ext'; simpa using ha
    have hat0 : c.argTypes[0]? = some t := by
      have : c.argTypes.toList[0]? = some t := by rw [hts]; rfl
      simpa using this
    refine .here hs hk (VR.raw rfl) ?_
    rw [exec_builtin ho hc]
    simp [builtin, Builtin.len_, hargs, hat0, run_underlying hu, hx, goInt]
  · exact hk.elim

theorem op_slicea {t e : TypeId} {x : Operand} {lo hi mx : Option Operand} {x' : X} {lo' hi' mx' : Option X} {s : Sh} {m : Nat} (ho : o.op = .slice t x lo hi mx) (hu : P.underlying t = some (.array m e)) (hsh : sh P e = some s)
    (h1 : cX x = some x') (h2 : cXo lo = some lo') (h3 : cXo hi = some hi') (h4 : cXo mx = some mx') (hmh : mx.isSome = true → hi.isSome = true)
    (h : aop C env rows (.slicea m s x' lo' hi' mx') k) : OpGoal P n o ρ T env rows a w k := by
  obtain ⟨d, he, k1⟩ := bnd_some h
  obtain ⟨l, hl, k2⟩ := bnd_some k1
  obtain ⟨hh, hhi, k3⟩ := bnd_some k2
  obtain ⟨c, hc, hk⟩ := bnd_some k3
  clear k1 k2 k3
  have hv := ev_sound h1 he hs hG
  obtain ⟨b1, b2, b3, b4, hk⟩ := hk
  have hrun : ∀ (b o' : Nat), (Instr.sliceAt t (.pointer (some ⟨b, o', none⟩)) (lo.map a.eval) (hi.map a.eval) (mx.map a.eval)).run P w =
      .ok (.slice (some (if (c.getD m).toNat = (l.getD 0).toNat then ⟨b, o', none⟩ else ⟨b, o' + (l.getD 0).toNat * s.size, none⟩)) ((hh.getD m).toNat - (l.getD 0).toNat) ((c.getD m).toNat - (l.getD 0).toNat)) w := by
    intro b o'
    have := run_sliceBounds (P := P) (isSlice := false) (len := m) (cap := m) (L := (l.getD 0).toNat) (H := (hh.getD m).toNat) (M := (c.getD m).toNat)
      (evo_sound h2 hl hs hG) (evo_sound h3 hhi hs hG) (evo_sound h4 hc hs hG) (by simpa using hmh) (by omega) (by omega) (by omega) (by omega) (by omega) (by omega) w
    simp [Instr.sliceAt, run_underlying hu, Instr.sureAddr, this, run_sizeOf hsh, addr_add]
  have hexec : ∀ v, a.eval x = v → (execOp a.eval o).run P w = ((Instr.sliceAt t v (lo.map a.eval) (hi.map a.eval) (mx.map a.eval)).run P w).andThen fun v w' => .ok (.value v) w' := by
    intro v hx
    simp [execOp, ho, hx]
  generalize hL : (l.getD 0).toNat = L' at hk hrun
  generalize hH : (hh.getD (m : Int)).toNat = H' at hk hrun
  generalize hM : (c.getD (m : Int)).toNat = M' at hk hrun
  split at hk
  · rename_i t' r p
    obtain ⟨rfl, hk⟩ := hk
    have hl : LR ρ w T _ _ := hv
    generalize hx : a.eval x = v at hl
    cases hl with
    | ptr _ _ _ L hL' hp =>
      by_cases hz : M' = L'
      · have hh0 : H' - L' = 0 := by omega
        have hm0 : M' - L' = 0 := by omega
        refine .here hs hk (v := .slice (some ⟨L.b, L.off p, none⟩) 0 0) ?_ ?_
        · rw [hh0]; exact VR.ofLeaf (.slz _ _ _ _ _ _)
        · rw [hexec _ hx, hrun]; simp [hz, hh0, hm0]
      · refine .here hs hk (v := .slice (some ⟨L.b, L.off p + L' * s.size, none⟩) (H' - L') (M' - L')) ?_ ?_
        · refine VR.ofLeaf (.sl _ _ _ _ _ _ L _ hL' (by omega) (fun hq => ?_) (.inr ⟨m, hp, by omega⟩))
          have : H' = M' := by simpa using hq
          omega
        · rw [hexec _ hx, hrun]; simp [hz]
  · rename_i t' els
    obtain ⟨rfl, hk⟩ := hk
    obtain ⟨b, o', cs, s', hx, g1, hT, g2, g3⟩ := LR.readCptr (show LR ρ w T _ _ from hv)
    obtain ⟨rfl, ha⟩ := agg_sh g1
    obtain ⟨l', hl', hlen, hsub⟩ := g1.aggOf rfl
    cases hl'
    have hall : ∀ d ∈ els, HasSh s d := by
      intro d hd
      obtain ⟨q, hq, rfl⟩ := List.mem_iff_getElem.1 hd
      exact hsub q s _ (by simp [Sh.sub]; simp [Sh.count] at hlen; omega) (List.getElem?_eq_getElem hq)
    simp [Sh.count] at hlen
    have hels : ∀ d ∈ (els.drop L').take (H' - L'), HasSh s d := fun d hd => hall d (List.mem_of_mem_drop (List.mem_of_mem_take hd))
    have hll : ((els.drop L').take (H' - L')).length = H' - L' := by simp; omega
    by_cases hz : M' = L'
    · have hh0 : H' - L' = 0 := by omega
      have hm0 : M' - L' = 0 := by omega
      refine .here hs hk (v := .slice (some ⟨b, o', none⟩) 0 0) ?_ ?_
      · rw [hh0]; simp; exact VR.ofLeaf (.lst0 _ _ _ _ (fun _ => rfl) (fun _ => rfl))
      · rw [hexec _ hx, hrun]; simp [hz, hh0, hm0]
    · obtain ⟨pre, post, q1, q2⟩ := flatL_part (off := L') (len := H' - L') hall (by omega)
      simp only [D.flat] at g2
      rw [q1] at g2
      have q3 := (g2.drop pre.length).take (flatL ((els.drop L').take (H' - L'))).length
      rw [List.drop_left, List.take_left] at q3
      refine .here hs hk (v := .slice (some ⟨b, o' + L' * s.size, none⟩) ((els.drop L').take (H' - L')).length (M' - L')) ?_ ?_
      · refine VR.ofLeaf (LR.mkLst hels hT q3 (by rw [← q2]; exact (g3.drop _).take _) (by omega) (fun hq => ?_))
        have : H' = M' := by simpa using hq
        omega
      · rw [hexec _ hx, hrun]; simp only [hz, if_false, Result.andThen_ok, hll]
  · exact hk.elim

theorem op_slice {t e : TypeId} {x : Operand} {lo hi mx : Option Operand} {x' : X} {lo' hi' mx' : Option X} {s : Sh} (ho : o.op = .slice t x lo hi mx) (hu : P.underlying t = some (.slice e)) (hsh : sh P e = some s)
    (h1 : cX x = some x') (h2 : cXo lo = some lo') (h3 : cXo hi = some hi') (h4 : cXo mx = some mx') (hmh : mx.isSome = true → hi.isSome = true)
    (h : aop C env rows (.slice s x' lo' hi' mx') k) : OpGoal P n o ρ T env rows a w k := by
  obtain ⟨d, he, k1⟩ := bnd_some h
  obtain ⟨l, hl, k2⟩ := bnd_some k1
  obtain ⟨hh, hhi, k3⟩ := bnd_some k2
  obtain ⟨c, hc, k4⟩ := bnd_some k3
  obtain ⟨N, hN, hk⟩ := bnd_some k4
  clear k1 k2 k3 k4
  have hv := ev_sound h1 he hs hG
  obtain ⟨b1, b2, b3, b4, hk⟩ := hk
  have hlr := hv.toLR (slen_leaf hN)
  have hrun : ∀ (ad : Option Addr) (cap : Nat), N ≤ cap → (Instr.sliceAt t (.slice ad N cap) (lo.map a.eval) (hi.map a.eval) (mx.map a.eval)).run P w =
      .ok (.slice (if (c.getD cap).toNat = (l.getD 0).toNat then ad else ad.map (·.add ((l.getD 0).toNat * s.size))) ((hh.getD N).toNat - (l.getD 0).toNat) ((c.getD cap).toNat - (l.getD 0).toNat)) w := by
    intro ad cap hcap
    have := run_sliceBounds (P := P) (isSlice := true) (len := N) (cap := cap) (L := (l.getD 0).toNat) (H := (hh.getD N).toNat) (M := (c.getD cap).toNat)
      (evo_sound h2 hl hs hG) (evo_sound h3 hhi hs hG) (evo_sound h4 hc hs hG) (by simpa using hmh) (by omega) (by omega) (by cases c <;> simp at b3 b4 ⊢; omega)
      (by omega) (by cases c <;> simp at b3 b4 ⊢ <;> omega) (by cases c <;> simp at b3 b4 ⊢; omega) w
    simp [Instr.sliceAt, Instr.slice, run_underlying hu, this, run_sizeOf hsh]
  have hexec : ∀ v, a.eval x = v → (execOp a.eval o).run P w = ((Instr.sliceAt t v (lo.map a.eval) (hi.map a.eval) (mx.map a.eval)).run P w).andThen fun v w' => .ok (.value v) w' := by
    intro v hx
    simp [execOp, ho, hx]
  have bM : ∀ cap : Nat, N ≤ cap → (hh.getD N).toNat ≤ (c.getD cap).toNat ∧ (c.getD cap).toNat ≤ cap := by
    intro cap hcap
    cases c <;> simp at b3 b4 ⊢ <;> omega
  generalize hL : (l.getD 0).toNat = L' at hk hrun
  have hLH : L' ≤ (hh.getD N).toNat := by omega
  have hHN : (hh.getD N).toNat ≤ N := by cases c <;> simp at b3 b4 <;> omega
  have hcm : ∀ cap : Nat, ∀ z, c = some z → (c.getD (hh.getD N)).toNat = (c.getD cap).toNat := by intro cap z hz; simp [hz]
  generalize hH : (hh.getD (N : Int)).toNat = H' at hk hrun bM hLH hHN
  split at hk
  · have hx := ev_raw h1 he hs hG
    simp [slen] at hN
    subst hN
    refine .here hs hk (VR.raw rfl) ?_
    have hL0 : L' = 0 := by omega
    have hH0 : H' = 0 := by omega
    rw [hexec _ hx, hrun none 0 (by omega)]
    have hb := bM 0 (by omega)
    have h0 : (c.getD ((0 : Nat) : Int)).toNat = 0 := by omega
    simp only [h0, hL0, hH0]
    rfl
  · rename_i t' r p off len ex
    obtain ⟨rfl, hk⟩ := hk
    simp [slen] at hN
    subst hN
    generalize hx : a.eval x = v at hlr
    cases hlr with
    | slz _ _ _ _ _ ad =>
      have hL0 : L' = 0 := by omega
      have hH0 : H' = 0 := by omega
      have hb := bM 0 (by omega)
      have h0 : (c.getD ((0 : Nat) : Int)).toNat = 0 := by omega
      refine .here hs hk (v := .slice ad 0 0) ?_ ?_
      · rw [hL0, hH0]; exact VR.ofLeaf (.slz _ _ _ _ _ _)
      · rw [hexec _ hx, hrun ad 0 (by omega)]
        simp only [h0, hL0, hH0]
        rfl
    | sl _ _ _ _ _ _ L cap hL' c1 c2 c3 =>
      have hb := bM cap c1
      generalize hM : (c.getD (cap : Int)).toNat = M' at hb hrun
      have hM := hrun (some ⟨L.b, L.off p + off * t'.size, none⟩) cap c1
      generalize hMM : (c.getD (cap : Int)).toNat = M' at hM hb
      by_cases hz : M' = L'
      · have hh0 : H' - L' = 0 := by omega
        have hm0 : M' - L' = 0 := by omega
        refine .here hs hk (v := .slice (some ⟨L.b, L.off p + off * t'.size, none⟩) 0 0) ?_ ?_
        · rw [hh0]; exact VR.ofLeaf (.slz _ _ _ _ _ _)
        · rw [hexec _ hx, hM]; simp only [hz, if_true, Result.andThen_ok, hh0, Nat.sub_self]
      · refine .here hs hk (v := .slice (some ⟨L.b, L.off p + (off + L') * t'.size, none⟩) (H' - L') (M' - L')) ?_ ?_
        · refine VR.ofLeaf (.sl _ _ _ _ _ _ L _ hL' (by omega) (fun hq => ?_) ?_)
          · cases c with
            | none =>
              simp [exOf] at hq hMM
              have := c2 hq.1
              omega
            | some z =>
              simp [exOf] at hq hMM
              omega
          · rcases c3 with ⟨d1, d2, d3⟩ | ⟨m, d1, d2⟩
            · refine .inl ⟨d1, d2, Nat.le_trans (Nat.mul_le_mul_right _ (by omega)) d3⟩
            · exact .inr ⟨m, d1, by omega⟩
        · rw [hexec _ hx, hM]
          simp only [hz, if_false, Result.andThen_ok, Option.map_some, addr_add, Nat.add_mul, Nat.add_assoc]
  · rename_i t' els ex
    obtain ⟨rfl, hk⟩ := hk
    simp [slen] at hN
    subst hN
    have key : ∀ (ad : Option Addr) (cap : Nat) (v : Value), a.eval x = v → v = .slice ad els.length cap → els.length ≤ cap → (∀ d ∈ els, HasSh t' d) → (ex = true → cap = els.length) → (ad = none → cap = 0) →
        (els.length ≠ 0 → ∃ b o' cs, ad = some ⟨b, o', none⟩ ∧ T b ∧ All2 (LR ρ w T) (flatL els) cs ∧ At w b o' cs) → OpGoal P n o ρ T env rows a w k := by
      intro ad cap v hx hv' hcap hall hex hnil hcs
      subst hv'
      have hb := bM cap hcap
      have hM := hrun ad cap hcap
      generalize hMM : (c.getD (cap : Int)).toNat = M' at hM hb
      have hexM : exOf c H' (c.getD (hh.getD ↑els.length)).toNat els.length ex = true → M' = H' := by
        intro hq
        cases c with
        | none =>
          simp [exOf] at hq hMM
          have := hex hq.1
          omega
        | some z =>
          simp [exOf] at hq hMM
          omega
      have hll : ((els.drop L').take (H' - L')).length = H' - L' := by simp; omega
      by_cases hz : H' = L'
      · have hnl : (els.drop L').take (H' - L') = [] := List.eq_nil_of_length_eq_zero (by omega)
        refine .here hs hk (v := .slice (if M' = L' then ad else ad.map (·.add (L' * t'.size))) 0 (M' - L')) ?_ ?_
        · rw [hnl]
          refine VR.ofLeaf (.lst0 _ _ _ _ (fun hq => by have := hexM hq; omega) (fun hq => ?_))
          split at hq
          · omega
          · have : ad = none := by simpa using hq
            have := hnil this
            omega
        · rw [hexec _ hx, hM, hz]
          simp only [Nat.sub_self, Result.andThen_ok]
      · have hz' : ¬ M' = L' := by omega
        obtain ⟨b, o', cs, rfl, hT, q2, q3⟩ := hcs (by omega)
        obtain ⟨pre, post, q4, q5⟩ := flatL_part (off := L') (len := H' - L') hall (by omega)
        rw [q4] at q2
        have q6 := (q2.drop pre.length).take (flatL ((els.drop L').take (H' - L'))).length
        rw [List.drop_left, List.take_left] at q6
        refine .here hs hk (v := .slice (some ⟨b, o' + L' * t'.size, none⟩) ((els.drop L').take (H' - L')).length (M' - L')) ?_ ?_
        · refine VR.ofLeaf (LR.mkLst (fun d hd => hall d (List.mem_of_mem_drop (List.mem_of_mem_take hd))) hT q6 (by rw [← q5]; exact (q3.drop _).take _) (by omega) (fun hq => by have := hexM hq; omega))
        · rw [hexec _ hx, hM]
          simp only [hz', if_false, Result.andThen_ok, hll, Option.map_some, addr_add]
    generalize hx : a.eval x = v at hlr
    cases hlr with
    | lst0 _ _ ad cap c1 c2 => exact key ad cap _ hx rfl (by simp) (by simp) (by simpa using c1) c2 (by simp)
    | lst _ _ _ b o' cap f c1 hb c2 c3 c4 c5 =>
      exact key _ cap _ hx rfl c4 c1 c5 (by simp) (fun _ => ⟨b, o', _, rfl, hb, (lr_at (d := default) c2 c3).1, (lr_at (d := default) c2 c3).2⟩)
  · exact hk.elim

end ops

end Go.Am
