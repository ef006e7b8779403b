import Derived.Test.YtpepmhbdblldeaaDoorPg21
namespace Go.Am
set_option linter.unusedSimpArgs false
set_option linter.unusedVariables false
namespace Job
open Go.Am.F
set_option maxRecDepth 10000
theorem eq_spotP (q q' : BitVec 32) (i j : Int) : eqD (spotD q i) (spotD q' j) = some (decide (q = q' ∧ i = j)) := by
 simp [spotD, eqL, eqD, eqLeaf, it, u32]
 congr 1
 exact decide_eq_decide.2 ⟨fun h => BitVec.eq_of_toNat_eq (by omega), fun h => by rw [h]⟩
theorem toldO_k (q : BitVec 32) (ds : List Nat) (tm : List D) (q' : BitVec 32) (i : Int) : ∀ k, toldO (toldK q ds tm k) q' i = if q' = q ∧ 0 ≤ i ∧ i < (k : Int) then some (some ((ds.getD i.toNat 0 : Nat) : Int)) else toldO tm q' i
 | 0 => by rw [if_neg (by omega)]; rfl
 | k + 1 => by
  have ih := toldO_k q ds tm q' i k
  have he := eq_spotP q' q i (k : Int)
  have hen : ∀ v, entOf (.agg (mpS SSpot LI) [spotD q (k : Int), .raw v]) = some (spotD q (k : Int), v) := fun v => rfl
  unfold toldO at ih ⊢
  rw [toldK, mfind, hen]
  simp only [he]
  by_cases c : q' = q ∧ i = (k : Int)
  ·rw [decide_eq_true c, if_pos ⟨c.1, by omega, by omega⟩, c.2]
   rfl
  ·rw [decide_eq_false c]
   simp only
   rw [ih]
   by_cases c2 : q' = q ∧ 0 ≤ i ∧ i < (k : Int)
   ·rw [if_pos c2, if_pos ⟨c2.1, c2.2.1, by omega⟩]
   ·rw [if_neg c2, if_neg]
    rintro ⟨d1, d2, d3⟩
    by_cases c3 : i = (k : Int)
    ·exact c ⟨d1, c3⟩
    ·exact c2 ⟨d1, d2, by omega⟩
theorem sgnO_c (m m' : List (BitVec 8)) (sm : List D) : sgnO (sgnE m :: sm) m' = if m' = m then some true else sgnO sm m' := by
 have hen : entOf (sgnE m) = some (.raw (.string (msgV m)), .bool true) := rfl
 have he : eqD (.raw (.string (msgV m'))) (.raw (.string (msgV m))) = some (decide (m' = m)) := by
  simp only [eqD, eqLeaf, msgV, ByteArray.toList_eq, List.toList_toArray, ub_beq]
 unfold sgnO
 rw [mfind, hen]
 simp only [he]
 by_cases c : m' = m
 ·rw [decide_eq_true c, if_pos c]
 ·rw [decide_eq_false c, if_neg c]
abbrev Msgs := List (List (BitVec 8) × List (BitVec 8))
structure PS (s : SgV) (ml : Msgs) : Prop where
 w : Whole s
 h1 : hT s.t.toNat = 1
 o : s.o.toNat = 2 ∨ s.o.toNat = 3
 nx : s.nx = BitVec.ofNat 32 ml.length
 len : ml.length ≤ 2
 cl : ∀ x ∈ ml, x.2.length = 32 ∧ x.1.length ≤ 60
 ld : (s.ld = .raw (.slice none 0 0) ∧ ml = []) ∨ ∃ ex, s.ld = .lst SLet (ml.map letD) ex
 sm : ∀ m, sgnO s.sm m = some (decide (m ∈ ml.map (·.1)))
 tm : ∀ (q : BitVec 32) (i : Int), toldO s.tm q i = some (if q.toNat < ml.length ∧ 0 ≤ i ∧ i < (pT s.o.toNat : Int) then some (((dgS s.o.toNat ⟨s.id, q⟩ (ml.getD q.toNat ([], [])).2 (ml.getD q.toNat ([], [])).1).getD i.toNat 0 : Nat) : Int) else none)
theorem PS.two {s : SgV} {ml : Msgs} (h : PS s ml) : hH s.t = 2 := by rw [hH, h.h1]
theorem PS.lv {s : SgV} {ml : Msgs} (h : PS s ml) : lvN s = 2 := h.w.lv.trans h.two
def isKn (s : SgV) (ml : Msgs) (p : Plc) : Bool := decide (p.q.toNat < ml.length ∧ 0 ≤ p.i ∧ p.i < (pT s.o.toNat : Int)) && (decide ((((dgS s.o.toNat ⟨s.id, p.q⟩ (ml.getD p.q.toNat ([], [])).2 (ml.getD p.q.toNat ([], [])).1).getD p.i.toNat 0 : Nat) : Int) ≤ p.j) && decide (p.j < (2 ^ wT s.o.toNat : Nat)))
theorem PS.kn {s : SgV} {ml : Msgs} (h : PS s ml) (p : Plc) : knB s p = isKn s ml p := by
 unfold knB isKn
 rw [h.tm]
 by_cases c : p.q.toNat < ml.length ∧ 0 ≤ p.i ∧ p.i < (pT s.o.toNat : Int)
 ·rw [if_pos c, decide_eq_true c]; rfl
 ·rw [if_neg c, decide_eq_false c]; rfl
theorem PS.tmS {s : SgV} {ml : Msgs} (h : PS s ml) (p : Plc) : (toldO s.tm p.q p.i).isSome = true := by rw [h.tm]; rfl
theorem PS.smS {s : SgV} {ml : Msgs} (h : PS s ml) (m : List (BitVec 8)) : (sgnO s.sm m).isSome = true ∧ (sgnO s.sm m).getD false = decide (m ∈ ml.map (·.1)) := by rw [h.sm]; exact ⟨rfl, rfl⟩
theorem getD_app {α : Type} (l : List α) (x d : α) (k : Nat) : (l ++ [x]).getD k d = if k = l.length then x else l.getD k d := by
 simp only [List.getD]
 by_cases c : k < l.length
 ·rw [List.getElem?_append_left c, if_neg (by omega)]
 ·by_cases e : k = l.length
  ·rw [if_pos e, e]; simp
  ·rw [if_neg e, List.getElem?_eq_none (by simp; omega), List.getElem?_eq_none (by omega)]
theorem PS.next {S : Sg} {L : At4} {d : D} {R R' : Rows} {ml : Msgs} {c m : List (BitVec 8)} (h : PS (S.v L) ml) (hl : S.last = ml) (hlen : ml.length < 2) (hc : c.length = 32) (hm : m.length ≤ 60) (h' : Sgn R' (L.next d) (S.next c m)) :
  PS ((S.next c m).v (L.next d)) (ml ++ [(m, c)]) := by
 have hx : S.nx = BitVec.ofNat 32 ml.length := h.nx
 have hxn : S.nx.toNat = ml.length := by rw [hx, BitVec.toNat_ofNat]; omega
 refine ⟨next_whole h.w h', h.h1, h.o, ?_, by simp; omega, ?_, ?_, ?_, ?_⟩
 ·show S.nx + 1#32 = _
  rw [hx, List.length_append]
  apply BitVec.eq_of_toNat_eq
  simp
 ·intro x hx
  rcases List.mem_append.1 hx with hx | hx
  ·exact h.cl x hx
  ·rw [List.mem_singleton.1 hx]; exact ⟨hc, hm⟩
 ·right
  have hd := h'.l
  have hln : (S.next c m).last = ml ++ [(m, c)] := by show S.last ++ [(m, c)] = _; rw [hl]
  rw [hln] at hd
  rcases hd with ⟨e, -⟩ | ⟨r, ex, e, -⟩
  ·simp at e
  ·refine ⟨ex, ?_⟩
   show ldV (L.next d) (S.next c m) = _
   rw [ldV, e, hln]
 ·intro m'
  show sgnO (sgnE m :: S.sm) m' = _
  rw [sgnO_c]
  have := h.sm m'
  by_cases e : m' = m
  ·rw [if_pos e, e]; simp
  ·rw [if_neg e]
   show sgnO (S.v L).sm m' = _
   rw [this]; simp [e]
 ·intro q i
  show toldO (toldK S.nx (dgS S.o.toNat ⟨S.id, S.nx⟩ c m) S.tm (pT S.o.toNat)) q i = some (if q.toNat < (ml ++ [(m, c)]).length ∧ 0 ≤ i ∧ i < (pT S.o.toNat : Int) then some (((dgS S.o.toNat ⟨S.id, q⟩ ((ml ++ [(m, c)]).getD q.toNat ([], [])).2 ((ml ++ [(m, c)]).getD q.toNat ([], [])).1).getD i.toNat 0 : Nat) : Int) else none)
  rw [toldO_k, getD_app, List.length_append, List.length_singleton]
  have ht := h.tm q i
  change toldO S.tm q i = some (if q.toNat < ml.length ∧ 0 ≤ i ∧ i < (pT S.o.toNat : Int) then some (((dgS S.o.toNat ⟨S.id, q⟩ (ml.getD q.toNat ([], [])).2 (ml.getD q.toNat ([], [])).1).getD i.toNat 0 : Nat) : Int) else none) at ht
  by_cases e : q = S.nx
  ·subst e
   rw [if_pos hxn]
   by_cases ci : 0 ≤ i ∧ i < (pT S.o.toNat : Int)
   ·rw [if_pos ⟨rfl, ci⟩, if_pos ⟨by omega, ci⟩]
   ·rw [if_neg (fun h => ci h.2), ht, if_neg (fun h => ci h.2), if_neg (fun h => ci h.2)]
  ·have ne : q.toNat ≠ ml.length := fun h => e (BitVec.eq_of_toNat_eq (by rw [h, hxn]))
   rw [if_neg (fun h => e h.1), ht, if_neg ne]
   by_cases ci : q.toNat < ml.length ∧ 0 ≤ i ∧ i < (pT S.o.toNat : Int)
   ·rw [if_pos ci, if_pos ⟨by omega, ci.2⟩]
   ·rw [if_neg ci, if_neg (fun h => ci ⟨by omega, h.2⟩)]
def vaS (s : SgV) (p : Plc) : List (BitVec 8) := chS s.id p.q p.i.toNat p.j.toNat 0 (secS s.id p.q p.i.toNat s.seed)
theorem vaS_len (s : SgV) (p : Plc) : (vaS s p).length = 32 := chS_len _ _ _ _ _ _ (stepS_len _ _ _ _ _)
def thereP (s : SgV) (p : Plc) : Bool := decide (p.q.toNat < 2) && inI p.i (pT s.o.toNat : Int) && inI p.j ((2 ^ wT s.o.toNat : Nat) : Int)
inductive Good (s : SgV) (ml : Msgs) : Int → List (BitVec 8) → List (BitVec 8) → Plc → List (BitVec 8) → Prop
 | col {a b p v} : a ≠ b → sumS a = sumS b → Good s ml 1 a b p v
 | unt {a b p v} : thereP s p = true → v = vaS s p → isKn s ml p = false → Good s ml 2 a b p v
theorem PS.okO {s : SgV} {ml : Msgs} (h : PS s ml) : okT s.o.toNat = true := h.w.o
theorem pT_pos {t : Nat} (h : okT t = true) : 1 ≤ pT t := by
 simp only [okT, Bool.and_eq_true, decide_eq_true_eq] at h
 have : t = 1 ∨ t = 2 ∨ t = 3 ∨ t = 4 := by omega
 rcases this with rfl | rfl | rfl | rfl <;> decide
theorem all_known {s : SgV} {ml : Msgs} (h : PS s ml) {q : BitVec 32} {c msg : List (BitVec 8)} (hc : c.length = 32) (hn : msg ∉ ml.map (·.1)) (hk : ∀ i : Nat, i < pT s.o.toNat → isKn s ml ⟨q, (i : Int), (((dgS s.o.toNat ⟨s.id, q⟩ c msg).getD i 0 : Nat) : Int)⟩ = true) :
  q.toNat < ml.length ∧ txS s.id q (be2 33153) [(ml.getD q.toNat ([], [])).2] ++ (ml.getD q.toNat ([], [])).1 ≠ txS s.id q (be2 33153) [c] ++ msg ∧ sumS (txS s.id q (be2 33153) [(ml.getD q.toNat ([], [])).2] ++ (ml.getD q.toNat ([], [])).1) = sumS (txS s.id q (be2 33153) [c] ++ msg) := by
 have hq : q.toNat < ml.length := by
  have := hk 0 (pT_pos h.okO)
  simp only [isKn, Bool.and_eq_true, decide_eq_true_eq] at this
  exact this.1.1
 have hd : mashS s.id q c msg = mashS s.id q (ml.getD q.toNat ([], [])).2 (ml.getD q.toNat ([], [])).1 := by
  refine dom_eq s.o.toNat h.o _ _ (sumS_len _) (sumS_len _) fun i hi => ?_
  have := hk i hi
  simp only [isKn, Bool.and_eq_true, decide_eq_true_eq, Int.toNat_natCast] at this
  exact Int.ofNat_le.1 this.2.1
 refine ⟨hq, fun e => hn ?_, ?_⟩
 ·have hm : ml.getD q.toNat ([], []) ∈ ml := by
   simp only [List.getD, List.getElem?_eq_getElem hq, Option.getD_some]
   exact List.getElem_mem hq
  have hl := (h.cl _ hm).1
  have e2 := (List.append_inj e (by simp only [txS, List.length_append, List.flatten_cons, List.flatten_nil, List.append_nil, hl, hc])).2
  rw [← e2]
  exact List.mem_map_of_mem hm
 ·rw [← mash_tx, ← mash_tx, hd]
theorem step_col {id : List (BitVec 8)} {q : BitVec 32} {i j : Nat} {x y : List (BitVec 8)} (h : x ≠ y) (he : stepS id q i j x = stepS id q i j y) : txS id q (be2 i ++ [BitVec.ofNat 8 j]) [x] ≠ txS id q (be2 i ++ [BitVec.ofNat 8 j]) [y] ∧ sumS (txS id q (be2 i ++ [BitVec.ofNat 8 j]) [x]) = sumS (txS id q (be2 i ++ [BitVec.ofNat 8 j]) [y]) :=
 ⟨fun e => h (tx_one e), by rw [← step_tx, ← step_tx, he]⟩
end Job
end Go.Am
namespace Go.Am
set_option linter.unusedVariables false
set_option linter.unusedSimpArgs false
variable {C : Ctx} {P : Program} {n : Nat}
def tgtQ (C : Ctx) (base : Nat) (env : Env) : AOp → Prop
 | .store s p _ => ∃ r q, ev C env p = some (.ptr s r q) ∧ base ≤ r
 | _ => True
def aopsQ (C : Ctx) (base : Nat) : List AOper → Env → Rows → (Env → Rows → Prop) → Prop
 | [], env, rows, K => K env rows
 | x :: l, env, rows, K => x.guard = none ∧ tgtQ C base env x.op ∧ aop C env rows x.op fun d rows => aopsQ C base l (put x.dst d env) rows K
def awQ (C : Ctx) (base : Nat) : ACode → (AExit → Env → Rows → Prop) → Env → Rows → Prop
 | .seq a b, Q, env, rows => awQ C base a (fun e env rows => match e with
  | .normal => awQ C base b Q env rows
  | e => Q e env rows) env rows
 | .region false al, Q, env, rows => aopsQ C base al env rows (Q .normal)
 | .ret, Q, env, rows => Q .ret env rows
 | _, _, _, _ => False
def isSt : Op → Bool
 | .store _ _ _ => true
 | _ => false
def okQ : List Oper → List AOper → Bool
 | o :: l, x :: al => ((quietA x.op && quietOp o.op) || isSt o.op) && okQ l al
 | [], [] => true
 | _, _ => false
def codeQ (P : Program) (n : Nat) : Code → Bool
 | .seq a b => codeQ P n a && codeQ P n b
 | .region _ ops false => match cOps P n ops.toList ops.toList with
  | some al => okQ ops.toList al
  | none => false
 | .ret => true
 | _ => false
structure InvQ (ρ0 : Pl) (T0 : Nat → Prop) (rows0 : Rows) (w0 : World) (ρ : Pl) (T : Nat → Prop) (rows : Rows) (w : World) : Prop where
 step : Step ρ0 T0 rows0 w0 ρ T rows w
 qh : QH ρ0 rows0 w0 w
 tg : ∀ b, T b → T0 b ∨ w0.heap.size ≤ b
 fr : ∀ r row L, live rows r = some row → ρ r = some L → rows0.length ≤ r → w0.heap.size ≤ L.b
theorem FrOnly.trans {w0 w w' : World} {b : Nat} (h : FrOnly w0 w b) (h' : FrOnly w w' b) : FrOnly w0 w' b := by
 obtain ⟨cur, t, fr, fr1, h1, h2, h3⟩ := h
 obtain ⟨cur', t', fr', fr2, g1, g2, g3⟩ := h'
 rw [h2] at g1
 cases g1
 exact ⟨cur, t, fr, fr2, h1, g2, g3⟩
theorem QH.trans {ρ0 ρ : Pl} {T0 T : Nat → Prop} {rows0 rows : Rows} {w0 w w' : World} (h0 : QH ρ0 rows0 w0 w) (hst : Step ρ0 T0 rows0 w0 ρ T rows w) (h : QH ρ rows w w') : QH ρ0 rows0 w0 w' := by
 intro b hb
 rcases h b (Nat.lt_of_lt_of_le hb hst.size) with e | ⟨f, r, row, L, h1, h2, h3⟩
 ·rcases h0 b hb with e0 | ⟨⟨cur, t, fr, fr', q1, q2, q3⟩, m⟩
  ·exact .inl (e.trans e0)
  ·exact .inr ⟨⟨cur, t, fr, fr', q1, by rw [e]; exact q2, q3⟩, m⟩
 ·have m : ∃ r row L, live rows0 r = some row ∧ ρ0 r = some L ∧ L.b = b := by
   rcases hst.fresh r row L h1 h2 with ⟨r0, row0, L0, g1, g2, g3⟩ | g
   ·exact ⟨r0, row0, L0, g1, g2, g3.trans h3⟩
   ·omega
  rcases h0 b hb with e0 | ⟨f0, _⟩
  ·obtain ⟨cur, t, fr, fr', q1, q2, q3⟩ := f
   exact .inr ⟨⟨cur, t, fr, fr', by rw [← e0]; exact q1, q2, q3⟩, m⟩
  ·exact .inr ⟨f0.trans f, m⟩
theorem InvQ.quiet {ρ0 ρ ρ' : Pl} {T0 T T' : Nat → Prop} {rows0 rows new : Rows} {w0 w w' : World} (h : InvQ ρ0 T0 rows0 w0 ρ T rows w) (hst : Step ρ T rows w ρ' T' (rows ++ new) w') (hr : RowsOK ρ' (rows ++ new) w' T')
  (hq : QH ρ rows w w' ∧ ∀ b, T' b → T b ∨ w.heap.size ≤ b) : InvQ ρ0 T0 rows0 w0 ρ' T' (rows ++ new) w' := by
 refine ⟨h.step.trans hst, h.qh.trans h.step hq.1, fun b hb => ?_, fun r row L h1 h2 h3 => ?_⟩
 ·rcases hq.2 b hb with g | g
  ·exact h.tg b g
  ·have := h.step.size; omega
 ·by_cases hlt : r < rows.length
  ·have e1 : live rows r = some row := by rw [← h1]; exact (live_prefix rfl hlt).symm
   have e2 : ρ r = some L := by rw [← h2]; exact (hst.same r hlt).symm
   exact h.fr r row L e1 e2 h3
  ·rcases hst.fresh r row L h1 h2 with ⟨r0, row0, L0, g1, g2, g3⟩ | g
   ·exfalso
    have l0 := live_lt g1
    have g1' : live (rows ++ new) r0 = some row0 := by rw [live_prefix rfl l0]; exact g1
    exact hr.dist r r0 row row0 L L0 h1 g1' h2 (hst.pl _ _ g2) (by omega) g3.symm
   ·have := h.step.size; omega
theorem opsQ_sound (hC : CtxOK C P) (hN : ∀ f, C.fnr f = none) (ops : Array Oper) {Q' : Exit → Act → World → Prop} {ρ0 : Pl} {T0 : Nat → Prop} {rows0 : Rows} {w0 : World} :
  ∀ (l : List Oper) (i : Nat), ops.toList.drop i = l → ∀ (al : List AOper), cOps P n ops.toList l = some al → okQ l al = true →
  ∀ (env : Env) (rows : Rows) (ρ : Pl) (T : Nat → Prop) (a : Act) (w : World) (K : Env → Rows → Prop), aopsQ C rows0.length al env rows K → Sim n ρ T env rows a w → GlobOK C w T → InvQ ρ0 T0 rows0 w0 ρ T rows w →
  (∀ env' rows' ρ' T' a' w', K env' rows' → Sim n ρ' T' env' rows' a' w' → GlobOK C w' T' → InvQ ρ0 T0 rows0 w0 ρ' T' rows' w' → Q' .normal a' w') → wpOps P ops Q' (List.range' i l.length) a w := by
 intro l
 induction l with
 | nil =>
  intro i _ al hc _ env rows ρ T a w K h hs hg hI hK
  simp [cOps] at hc
  subst hc
  exact hK env rows ρ T a w h hs hg hI
 | cons o l ih =>
  intro i hi al hc hok env rows ρ T a w K h hs hg hI hK
  obtain ⟨ao, g, r, h0, h1, h2, h3, rfl⟩ := cOps_cons hc
  have ho : ops[i]? = some o := by
   have := congrArg (fun q => q[0]?) hi
   simpa using this
  have hnext : ops.toList.drop (i + 1) = l := by
   have := congrArg List.tail hi
   simpa using this
  have hd := cDst_lt h0
  simp only [okQ, Bool.and_eq_true] at hok
  obtain ⟨hok1, hok2⟩ := hok
  obtain ⟨hgn, htg, hop⟩ := h
  simp only at hgn htg hop
  subst hgn
  have hgo : o.guard = none := by
   cases hgd : o.guard with
   | none => rfl
   | some jw =>
    rw [hgd] at h2
    obtain ⟨j, want⟩ := jw
    simp only [cGuard] at h2
    split at h2
    ·split at h2
     ·cases h2
     ·cases h2
    ·cases h2
  simp only [List.length_cons, List.range'_succ, wpOps, ho]
  have hw : Region.wanted o (yielded ops a.tmps) = true := by simp [Region.wanted, hgo]
  rw [if_pos hw]
  refine .inl ?_
  by_cases hst : isSt o.op = true
  ·cases hopc : o.op with
   | store t x y =>
    have hG : Glob C ρ w T := fun g d hd => (hg g d hd).mono (by intro r L h; cases h) (fun _ _ => rfl) (fun _ h => h)
    unfold cOp at h1
    split at h1
    case h_2 => cases h1; exact hop.elim
    rename_i a0 hc0
    cases h1
    rw [hopc] at hc0
    obtain ⟨s, e1, hc0⟩ := o2_some hc0
    obtain ⟨x', e2, hc0⟩ := o2_some hc0
    obtain ⟨y', e3, hc0⟩ := o2_some hc0
    cases hc0
    obtain ⟨d, rows', v, w', k1, k2, k3, k4, k5, rr, pp, L, k6, k7, k8, xx, k9⟩ := op_storeQ hs hG hopc e1 e2 e3 hop
    obtain ⟨r1, q1, t1, t2⟩ := htg
    rw [k6] at t1
    cases t1
    have hI' : InvQ ρ0 T0 rows0 w0 ρ T rows' w' := by
     have hlive : ∃ row, live rows rr = some row := by
      obtain ⟨d0, he, hk⟩ := bnd_some hop
      rw [k6] at he
      cases he
      obtain ⟨d2, _, hk1⟩ := bnd_some hk
      obtain ⟨row, hl, _⟩ := bnd_some hk1.2.2
      exact ⟨row, hl⟩
     obtain ⟨row, hlive⟩ := hlive
     have hLb := hI.fr rr row L hlive k7 t2
     have hstep := hI.step.trans k3
     refine ⟨hstep, fun b hb => ?_, hI.tg, fun r2 row2 L2 g1 g2 g3 => ?_⟩
     ·have e : w'.heap[b]? = w.heap[b]? := k8 b (by omega)
      rcases hI.qh b hb with q | ⟨⟨cur, t', fr, fr', q1, q2, q3⟩, m⟩
      ·exact .inl (e.trans q)
      ·exact .inr ⟨⟨cur, t', fr, fr', q1, by rw [e]; exact q2, q3⟩, m⟩
     ·by_cases e : r2 = rr
      ·subst e
       rw [k7] at g2
       cases g2
       exact hLb
      ·have g1' : live rows r2 = some row2 := by
        rw [k9] at g1
        unfold live at g1 ⊢
        rwa [List.getElem?_set_ne (Ne.symm e)] at g1
       exact hI.fr r2 row2 L2 g1' g2 g3
    unfold Oper.wp
    have hcont := ih (i + 1) hnext r h3 hok2 (put o.dst d env) rows' ρ T (a.put o.dst v) w' K k1 (k2.put k4 hd) (hg.step hs k3) hI' hK
    rcases k5 with k5 | ⟨k5, rfl⟩
    ·rw [k5]; exact hcont
    ·rw [k5]; exact hcont
   | _ => rw [hopc] at hst; cases hst
  ·have hqq : quietA ao = true ∧ quietOp o.op = true := by
    rcases Bool.or_eq_true _ _ ▸ hok1 with h5 | h5
    ·simpa using h5
    ·exact absurd h5 hst
   obtain ⟨d, new, f1, f2⟩ := aop_det hN ao hqq.1 _ hop
   refine op_sound hs hg hC h1 f2 ?_
   rintro d2 rows' ρ' T' v w' ⟨rfl, rfl⟩ hs' hst' hv hq
   have hI' := hI.quiet hst' hs'.rowsOK (hq hN hqq.2)
   exact ih (i + 1) hnext r h3 hok2 _ _ ρ' T' _ w' K f1 (hs'.put hv hd) (hg.step hs hst') hI' hK
theorem codeQ_sound (hC : CtxOK C P) (hN : ∀ f, C.fnr f = none) {ρ0 : Pl} {T0 : Nat → Prop} {rows0 : Rows} {w0 : World} : ∀ (c : Code) (ac : ACode), comp P n c = some ac → codeQ P n c = true →
  ∀ (Q : AExit → Env → Rows → Prop) (Q' : Exit → Act → World → Prop) (env : Env) (rows : Rows) (ρ : Pl) (T : Nat → Prop) (a : Act) (w : World), awQ C rows0.length ac Q env rows → Sim n ρ T env rows a w → GlobOK C w T → InvQ ρ0 T0 rows0 w0 ρ T rows w →
  (∀ e env' rows' ρ' T' a' w', Q e env' rows' → Sim n ρ' T' env' rows' a' w' → GlobOK C w' T' → InvQ ρ0 T0 rows0 w0 ρ' T' rows' w' → Q' (exitOf e) a' w') → c.wp P Q' a w := by
 intro c
 induction c with
 | seq x y ihx ihy =>
  intro ac hc hq Q Q' env rows ρ T a w h hs hg hI hp
  obtain ⟨ax, h1, hc⟩ := o2_some hc
  obtain ⟨ay, h2, hc⟩ := o2_some hc
  cases hc
  simp only [codeQ, Bool.and_eq_true] at hq
  refine wp_seq (ihx ax h1 hq.1 _ _ env rows ρ T a w h hs hg hI ?_)
  intro e env' rows' ρ' T' a' w' hk hs' hg' hI'
  cases e with
  | normal => exact ihy ay h2 hq.2 Q Q' env' rows' ρ' T' a' w' hk hs' hg' hI' hp
  | exit i => exact hp (.exit i) env' rows' ρ' T' a' w' hk hs' hg' hI'
  | ret => exact hp .ret env' rows' ρ' T' a' w' hk hs' hg' hI'
 | region id ops draw =>
  intro ac hc hq Q Q' env rows ρ T a w h hs hg hI hp
  cases draw with
  | true => cases hq
  | false =>
   simp only [comp] at hc
   simp only [codeQ] at hq
   split at hc
   ·rename_i al h1
    rw [h1] at hq
    simp only [Bool.not_false, cond_true] at hc
    cases hc
    refine wp_region ?_
    have := opsQ_sound hC hN ops (Q' := Q') ops.toList 0 (by simp) al h1 hq env rows ρ T a w (Q .normal) h hs hg hI (fun env' rows' ρ' T' a' w' hk hs' hg' hI' => hp .normal env' rows' ρ' T' a' w' hk hs' hg' hI')
    rw [List.range_eq_range']
    simpa using this
   ·rename_i h1
    rw [h1] at hq
    cases hq
 | ret =>
  intro ac hc hq Q Q' env rows ρ T a w h hs hg hI hp
  simp [comp] at hc; subst hc
  exact wp_ret (hp .ret env rows ρ T a w h hs hg hI)
 | _ => intro ac hc hq; cases hq
def afunQ (C : Ctx) (np : Nat) (res : List ARes) (ac : ACode) : AFun := fun ds rows K =>
 ds.length = np ∧ awQ C rows.length ac (fun e env rows' => (e = .normal ∨ e = .ret) ∧ bnd (ares env rows' res) fun l => K (resOf l) rows') (zipEnv 0 ds) rows
def bodyQ (P : Program) (fn : Func) : Bool := match fn.body with
 | some c => codeQ P fn.ntmps c
 | none => false
theorem fn_soundQ (hC : CtxOK C P) (hN : ∀ f, C.fnr f = none) {f : FuncId} {fn : Func} {ac : ACode} {res : List ARes} {np : Nat} (hf : P.funcs[f]? = some fn) (hb : o2 fn.body (comp P fn.ntmps) = some ac) (hr : cRess P fn.results.toList = some res) (hnp : np ≤ fn.ntmps) (hq : bodyQ P fn = true)
  {q : QFun} (h : ∀ ds rows d new, q ds rows = some (d, new) → afunQ C np res ac ds rows fun d' rows' => d' = d ∧ rows' = rows ++ new) : MeetsQ C.glob P f (qrun q) := by
 intro ds rows K hK ρ w T args hrows hdom htlt hargs hG0
 obtain ⟨⟨d, new⟩, hqd, hK⟩ := bnd_some hK
 obtain ⟨hlen, h⟩ := h ds rows d new hqd
 obtain ⟨c, hbody, hcomp⟩ := o2_some hb
 unfold bodyQ at hq
 rw [hbody] at hq
 refine calls_of_wp hf hbody ?_
 refine codeQ_sound hC hN c ac hcomp hq _ _ _ rows ρ T _ w h (fn_start hnp hlen hrows hdom htlt hargs) hG0 ⟨Step.refl _ _ _ _, fun _ _ => .inl rfl, fun _ h => .inl h, fun r row L h1 _ h3 => absurd (live_lt h1) (by omega)⟩ ?_
 intro e env' rows' ρ' T' a' w' ⟨he, hk⟩ hs' hg' hI
 obtain ⟨l, hl, e1, rfl⟩ := bnd_some hk
 obtain ⟨v, hv1, hv2⟩ := fn_end hr hs' hl
 rw [e1] at hv2
 have hback : BackQ K ρ T rows w (.returned v) w' := ⟨v, d, _, ρ', T', rfl, hK, hs'.rowsOK, hs'.dom, hs'.tlt, hI.step, hv2, hI.qh, hI.tg⟩
 rcases he with rfl | rfl
 ·exact ⟨hs'.defers, v, hv1, hback⟩
 ·exact ⟨hs'.defers, v, hv1, hback⟩
end Go.Am
namespace Go.Am
set_option linter.unusedSimpArgs false
set_option linter.unusedVariables false
attribute [local congr] bnd_congr kCond_congr kGd_congr kPick_congr kCall_congr kIdx_congr kSlice_congr kLoop_congr cond_congr' aBin_congr aBounds_congr aApp_congr aCopy_congr kFn_congr
namespace Job
open Go.Am.F
set_option maxRecDepth 10000
abbrev SPs : Sh := S4
abbrev SFd : Sh := S2
structure PsV where
 s : D
 pub : D
 id : List (BitVec 8)
 o : BitVec 32
 seed : List (BitVec 8)
def psV (x : PsV) : D := .agg SPs [x.s, x.pub, .agg (.ar 16 L8) (bs x.id), .raw (u32 x.o), .agg (.ar 32 L8) (bs x.seed)]
theorem psV_inj (x y : PsV) (h : psV x = psV y) : x = y := by
 obtain ⟨a, b, c, d, e⟩ := x
 obtain ⟨a', b', c', d', e'⟩ := y
 simp only [psV, D.agg.injEq, List.cons.injEq, and_true, true_and, D.raw.injEq] at h
 obtain ⟨rfl, rfl, h3, h4, h5⟩ := h
 rw [bs_inj h3, u32_inj h4, bs_inj h5]
def okPs (x : PsV) : Bool := decide (x.id.length = 16) && decide (x.seed.length = 32) && (psV x).fits SPs && !hasRef x.s && !hasRef x.pub
def psD (r rp : Nat) (e : Bool) (V : SgV) : D := .agg SPs [.ptr SSig r [0], .sl L8 rp [] 0 56 e, .agg (.ar 16 L8) (bs V.id), .raw (u32 V.o), .agg (.ar 32 L8) (bs V.seed)]
structure PsIn (rows : Rows) (r rp : Nat) (V : SgV) (ml : Msgs) : Prop where
 g : ∃ L S, Sgn rows L S ∧ L.r = r ∧ S.v L = V
 p : live rows rp = some ⟨L8, bs (pubSg V)⟩
 s : PS V ml
theorem PsIn.keep {rows rows' : Rows} {r rp : Nat} {V : SgV} {ml : Msgs} (h : PsIn rows r rp V ml) (hk : KeptL rows rows') : PsIn rows' r rp V ml := by
 obtain ⟨L, S, h1, h2, h3⟩ := h.g
 exact ⟨⟨L, S, h1.keep hk, h2, h3⟩, hk _ _ h.p, h.s⟩
theorem PsIn.push {rows : Rows} {r rp : Nat} {V : SgV} {ml : Msgs} (h : PsIn rows r rp V ml) (more : Rows) : PsIn (rows ++ more) r rp V ml := h.keep (KeptL.app _ _)
theorem PsIn.rd {rows : Rows} {r rp : Nat} {V : SgV} {ml : Msgs} (h : PsIn rows r rp V ml) : RdIn rows (rdOf sgV) (.ptr SSig r [0]) V := by
 obtain ⟨L, S, h1, rfl, rfl⟩ := h.g
 exact h1.rd
theorem PsIn.ps {rows : Rows} {r rp : Nat} {V : SgV} {ml : Msgs} (h : PsIn rows r rp V ml) (e : Bool) : RdIn rows (rdOf psV) (psD r rp e V) ⟨sgV V, .lst L8 (bs (pubSg V)) e, V.id, V.o, V.seed⟩ := by
 obtain ⟨L, S, h1, rfl, rfl⟩ := h.g
 have hl := pubSg_len h.s.w.ok
 have el : elems rows (.sl L8 rp [] 0 56 e) = some (bs (pubSg (S.v L))) := by
  simp only [elems, h.p]
  rw [List.drop_zero, List.take_of_length_le (by rw [bs_len, hl]; exact Nat.le_refl _)]
 have hb : (bs (pubSg (S.v L))).length = 56 := by rw [bs_len, hl]
 have hv : view rows 9 (psD L.r rp e (S.v L)) = some (psV ⟨sgV (S.v L), .lst L8 (bs (pubSg (S.v L))) e, (S.v L).id, (S.v L).o, (S.v L).seed⟩) := by
  unfold psD psV
  rw [vw_agg]
  have e1 : view rows 8 (.ptr SSig L.r [0]) = some (sgV (S.v L)) := h1.vw 4
  have e2 : view rows 8 (.sl L8 rp [] 0 56 e) = some (.lst L8 (bs (pubSg (S.v L))) e) := by
   rw [vw_sl, el]
   simp [hb, Sh.pure]
  have e3 : view rows 8 (.agg (.ar 16 L8) (bs (S.v L).id)) = some (.agg (.ar 16 L8) (bs (S.v L).id)) := by rw [vw_agg]; rfl
  have e4 : view rows 8 (.raw (u32 (S.v L).o)) = some (.raw (u32 (S.v L).o)) := rfl
  have e5 : view rows 8 (.agg (.ar 32 L8) (bs (S.v L).seed)) = some (.agg (.ar 32 L8) (bs (S.v L).seed)) := by rw [vw_agg]; rfl
  simp only [mapO, e1, e2, e3, e4, e5]
  rfl
 exact ⟨⟨_, hv, rdOf_eq psV_inj _⟩, fun h => Bool.noConfusion ((rfl : hasRef (psD L.r rp e (S.v L)) = true).symm.trans h)⟩
theorem PsIn.ok {rows : Rows} {r rp : Nat} {V : SgV} {ml : Msgs} (h : PsIn rows r rp V ml) (e : Bool) : okPs ⟨sgV V, .lst L8 (bs (pubSg V)) e, V.id, V.o, V.seed⟩ = true := by
 have h1 := h.s.w.id
 have h2 := h.s.w.sd
 have h3 : hasRef (sgV V) = false := sgV_noref h.s.w.ld
 simp only [okPs, h1, h2, h3, decide_true, Bool.true_and]
 rfl
theorem okPs_iff {x : PsV} (h : okPs x = true) : x.id.length = 16 ∧ x.seed.length = 32 ∧ (psV x).fits SPs = true ∧ hasRef (psV x) = false := by
 simp only [okPs, Bool.and_eq_true, decide_eq_true_eq, Bool.not_eq_true'] at h
 refine ⟨h.1.1.1.1, h.1.1.1.2, h.1.1.2, ?_⟩
 simp [psV, hasRef, hasRefL, h.1.2, h.2, Sh.pure]
theorem pnum_ok (C : Ctx) (hC : CtxOK C P) : Meets C.glob P 54 (Fn.run fLNum) := by
 refine fn_meets (m_proof_num C hC) fun ds rows r h => ?_
 obtain ⟨d, a, rfl, rfl, hd, hp, rfl⟩ := fn1_some h
 have ha := rdBs_some hd
 simp only [Nat.ble_eq] at hp
 refine ⟨rfl, afun_mk rfl ?_⟩
 unfold a_proof_num r_proof_num
 have e : ∀ n : Nat, n < 4 → ∀ (k : D → Rows → Prop) rows, kIdx (.leaf (.int .u8)) (n : Int) rows k d = k (.cptr (.raw (u8 (a.getD n 0#8)))) rows := fun n hn k rows => kIdx_bs (k := k) (rows := rows) (n := n) ha (by omega)
 have e0 := e 0 (by decide)
 have e1 := e 1 (by decide)
 have e2 := e 2 (by decide)
 have e3 := e 3 (by decide)
 simp only [Int.natCast_zero, Int.cast_ofNat_Int, Int.natCast_one] at e0 e1 e2 e3
 simp only [↓amD, amU, simprocAttr, zipEnv, e0, e1, e2, e3]
 exact .val _ rfl
def fKd (x : List (BitVec 8)) : Fn
 | [], [] => some (outBs x false)
 | _, _ => none
theorem kKd (x : List (BitVec 8)) (rows : Rows) (k : D → Rows → Prop) : kCall (fKd x) rows k [] = k (.sl L8 (0 + rows.length) [] 0 x.length false) (rows ++ [some ⟨L8, bs x⟩]) := by
 refine (kCall_val rfl (r := outBs x false) rfl).trans ?_
 simp [outBs, shift, shiftRows, Sh.pure]
theorem public2_ok (C : Ctx) (hC : CtxOK C P) : Meets C.glob P 65 (Fn.run (fKd (be2 32896))) := by
 refine fn_meets (m_proof_public C hC) fun ds rows r h => ?_
 unfold fKd at h
 split at h
 ·cases h
  refine ⟨rfl, afun_mk rfl ?_⟩
  unfold a_proof_public r_proof_public
  simp only [↓amD, amU, simprocAttr, zipEnv]
  exact .own _ 0 0 2 true false _ rfl rfl (fun h => by cases h)
 ·cases h
theorem leaf2_ok (C : Ctx) (hC : CtxOK C P) : Meets C.glob P 63 (Fn.run (fKd (be2 33410))) := by
 refine fn_meets (m_proof_leaf C hC) fun ds rows r h => ?_
 unfold fKd at h
 split at h
 ·cases h
  refine ⟨rfl, afun_mk rfl ?_⟩
  unfold a_proof_leaf r_proof_leaf
  simp only [↓amD, amU, simprocAttr, zipEnv]
  exact .own _ 0 0 2 true false _ rfl rfl (fun h => by cases h)
 ·cases h
theorem inner2_ok (C : Ctx) (hC : CtxOK C P) : Meets C.glob P 64 (Fn.run (fKd (be2 33667))) := by
 refine fn_meets (m_proof_inner C hC) fun ds rows r h => ?_
 unfold fKd at h
 split at h
 ·cases h
  refine ⟨rfl, afun_mk rfl ?_⟩
  unfold a_proof_inner r_proof_inner
  simp only [↓amD, amU, simprocAttr, zipEnv]
  exact .own _ 0 0 2 true false _ rfl rfl (fun h => by cases h)
 ·cases h
theorem mesg2_ok (C : Ctx) (hC : CtxOK C P) : Meets C.glob P 68 (Fn.run (fKd (be2 33153))) := by
 refine fn_meets (m_proof_mesg C hC) fun ds rows r h => ?_
 unfold fKd at h
 split at h
 ·cases h
  refine ⟨rfl, afun_mk rfl ?_⟩
  unfold a_proof_mesg r_proof_mesg
  simp only [↓amD, amU, simprocAttr, zipEnv]
  exact .own _ 0 0 2 true false _ rfl rfl (fun h => by cases h)
 ·cases h
noncomputable def fSiteP : Fn := fn2 (rdOf psV) rd32 (fun x _ => okPs x) fun x q => (siteD ⟨x.id, q⟩, [])
theorem sitep_ok (C : Ctx) (hC : CtxOK C P) : Meets C.glob P 32 (Fn.run fSiteP) := by
 refine fn_meets (m_proof_signer_site C hC) fun ds rows r h => ?_
 obtain ⟨d, d2, x, q, rfl, rfl, hd, hd2, hp, rfl⟩ := fn2_some h
 cases rdOf_some hd
 cases rd32_some hd2
 obtain ⟨hid, hsd, hf, hn⟩ := okPs_iff hp
 refine ⟨rfl, afun_mk rfl ?_⟩
 clear h hd hd2
 unfold a_proof_signer_site r_proof_signer_site
 have hz : D.agg SSite [.agg (.ar 16 L8) (List.replicate 16 (.raw (u8 0#8))), .raw (u32 0#32)] = siteD ⟨List.replicate 16 0#8, 0#32⟩ := rfl
 simp only [hz]
 unfold psV at hf ⊢
 simp only [↓amD, amU, simprocAttr, zipEnv, amR, site_fits, hf]
 exact .val _ rfl
theorem kSiteP {rows : Rows} {x : PsV} {d : D} (h : RdIn rows (rdOf psV) d x) (hp : okPs x = true) (k : D → Rows → Prop) (q : BitVec 32) : kCall fSiteP rows k [d, .raw (u32 q)] = k (siteD ⟨x.id, q⟩) rows := by
 refine (kCall_rd2 h (RdIn.raw (rd32_eq q)) hp rfl k).trans ?_
 simp [siteD, shift, shiftRows, Sh.pure]
theorem kSitePC {x : PsV} (hp : okPs x = true) (rows : Rows) (k : D → Rows → Prop) (q : BitVec 32) : kCall fSiteP rows k [psV x, .raw (u32 q)] = k (siteD ⟨x.id, q⟩) rows := by
 obtain ⟨hid, hsd, hf, hn⟩ := okPs_iff hp
 refine (kCall_val (by simp [hasRefL, hn, hasRef]) (fn2_eq (rdOf_eq psV_inj x) (rd32_eq q) hp)).trans ?_
 simp [siteD, shift, shiftRows, Sh.pure]
def valP (id seed : List (BitVec 8)) (p : Plc) : List (BitVec 8) := chS id p.q p.i.toNat p.j.toNat 0 (secS id p.q p.i.toNat seed)
noncomputable def fValP : Fn := fn2 (rdOf psV) (rdOf plcD) (fun x p => okPs x && inI p.i 65536 && inI p.j 257) fun x p => (d32D (valP x.id x.seed p), [])
theorem valp_ok (C : Ctx) (hC : CtxOK C P) (h1 : C.fn 32 = some fSiteP) (h2 : C.fn 53 = some fSecret) (h3 : C.fn 52 = some fChain) : Meets C.glob P 41 (Fn.run fValP) := by
 refine fn_meets (m_proof_signer_value C hC) fun ds rows r h => ?_
 obtain ⟨d, d2, x, p, rfl, rfl, hd, hd2, hp, rfl⟩ := fn2_some h
 cases rdOf_some hd
 cases rdOf_some hd2
 simp only [Bool.and_eq_true, inI_eq] at hp
 obtain ⟨⟨hx, hi⟩, hj⟩ := hp
 have hx0 := hx
 obtain ⟨hid, hsd, hf, hn⟩ := okPs_iff hx
 refine ⟨rfl, afun_mk rfl ?_⟩
 clear h hd hd2
 obtain ⟨pq, pi, pj⟩ := p
 simp only at hi hj
 obtain ⟨i, rfl⟩ := Int.eq_ofNat_of_zero_le hi.1
 obtain ⟨j, rfl⟩ := Int.eq_ofNat_of_zero_le hj.1
 unfold a_proof_signer_value r_proof_signer_value
 have hz : D.agg SSite [.agg (.ar 16 L8) (List.replicate 16 (.raw (u8 0#8))), .raw (u32 0#32)] = siteD ⟨List.replicate 16 0#8, 0#32⟩ := rfl
 have kS := fun rows k => kSitePC hx0 rows k pq
 simp only [hz, z32_eq]
 unfold psV at hf kS ⊢
 unfold plcD
 have kE := fun rows k => kSecret rows k ⟨x.id, pq⟩ i x.seed hid (by omega) hsd
 have hsl : (secS x.id pq i x.seed).length = 32 := stepS_len _ _ _ _ _
 have kC := fun rows k => kChain rows k ⟨x.id, pq⟩ i 0 j (secS x.id pq i x.seed) hid (by omega) (by omega) (by omega) hsl
 rw [Nat.sub_zero, Int.natCast_zero] at kC
 simp only [↓amD, amU, simprocAttr, zipEnv, amR, site_fits, hf, h1, kS, h2, kE, h3, kC]
 exact .val _ rfl
noncomputable def fText : Fn := gn4 (rdOf psV) rd32 rdBs (rdLst (.ar 32 L8) d32D) (fun x _ k l => okPs x && decide (k.length ≤ 1000) && all32 l && decide (l.length ≤ 1000)) fun x r k l => outBs (txS x.id r k l) false
set_option maxHeartbeats 1000000 in
theorem text_ok (C : Ctx) (hC : CtxOK C P) (h1 : C.fn 81 = some fClone) : Meets C.glob P 62 (Fn.run fText) := by
 refine fn_meetsN (m_proof_signer_text C hC) fun ds rows r h => ?_
 obtain ⟨d0, d1, d2, d3, x, r, kd, l, rfl, rfl, g0, g1, g2, g3, hp, rfl⟩ := gn4_some h
 cases rdOf_some g0
 cases rd32_some g1
 obtain ⟨xk, hxk⟩ := rdBs_nrm g2
 obtain ⟨xl, hxl⟩ := rdLst_nrm g3
 simp only [Bool.and_eq_true, decide_eq_true_eq, all32_eq] at hp
 obtain ⟨⟨⟨hx, hkl⟩, h32⟩, hll⟩ := hp
 obtain ⟨hid, hsd, hf, hn⟩ := okPs_iff hx
 refine ⟨rfl, _, .cons (.refl _) (.cons (.refl _) (.cons hxk (.cons hxl .nil))), afun_mk rfl ?_⟩
 clear h g0 g1 g2 g3 hxk hxl
 unfold a_proof_signer_text r_proof_signer_text
 unfold psV at hf ⊢
 have hw : [D.raw (u8 (BitVec.setWidth 8 (r >>> 24))), D.raw (u8 (BitVec.setWidth 8 (r >>> 16))), D.raw (u8 (BitVec.setWidth 8 (r >>> 8))), D.raw (u8 (BitVec.setWidth 8 r))] = bs (wordB r) := rfl
 simp only [↓amD, amU, simprocAttr, zipEnv, amR, hf, h1]
 refine Eq.mpr (kClone _ _ _ x.id (BsIn.atAll (n := 16) rfl rfl hid) (by omega)) ?_
 have w4 : List.take 4 (bs (wordB r)) = bs (wordB r) := List.take_of_length_le (Nat.le_refl _)
 have l4 : (bs (wordB r)).length = 4 := rfl
 have ti : List.take 16 (bs x.id) = bs x.id := List.take_of_length_le (by rw [bs_len, hid]; exact Nat.le_refl _)
 have la : (bs (x.id ++ wordB r)).length = 20 := by rw [bs_len, List.length_append, hid]; rfl
 have ta : List.take 20 (bs (x.id ++ wordB r)) = bs (x.id ++ wordB r) := List.take_of_length_le (by rw [la]; exact Nat.le_refl _)
 rw [hid]
 simp only [↓amD, amU, simprocAttr, zipEnv, amR, bs_len, hid, hw, w4, l4, ti, la, ta, bs_app]
 refine ⟨by omega, by omega, ?_⟩
 generalize hT : x.id ++ (wordB r ++ kd) = T0
 have e : txS x.id r kd l = T0 ++ l.flatten := by rw [← hT, txS]; simp only [List.append_assoc]
 have lT : T0.length = 16 + (4 + kd.length) := by rw [← hT, List.length_append, List.length_append, hid]; rfl
 rw [e]
 have hlt : ∀ i, i ≤ l.length → (T0 ++ (l.take i).flatten).length = 16 + (4 + kd.length) + 32 * i := fun i hi => by
  rw [List.length_append, lT, flat_len (fun x hx => h32 x (List.mem_of_mem_take hx)), List.length_take]
  omega
 refine kLoop_up l.length (fun i env rows => has env [(33, .raw (it (i : Int))), (32, .raw (it (l.length : Int))), (31, .lst (.ar 32 L8) (l.map d32D) xl)] ∧ ∃ d, look env 9 = some d ∧ Own L8 d rows (bs (T0 ++ (l.take i).flatten))) ?_ ?_
  ⟨?_, .sl L8 4 [] 0 (16 + (4 + kd.length)) false, by simp only [↓amD, amU, simprocAttr, zipEnv], .inr ⟨4, false, by rw [List.take_zero, List.flatten_nil, List.append_nil, bs_len, lT], by rw [List.take_zero, List.flatten_nil, List.append_nil]; rfl⟩⟩
 ·rintro i hi env rows ⟨hh, d, h7, hO⟩ R hR
  simp only [has] at hh
  have e0 : ((i : Int) < (l.length : Int)) = True := eq_true (by omega)
  have b0 : ∀ n : Nat, ((0 : Int) ≤ (n : Int)) = True := fun n => eq_true (by omega)
  have e1 := wz_succ i (by omega)
  have hx := h32 _ (List.getElem_mem hi)
  have g : (l.map d32D)[i]? = some (.agg (.ar 32 L8) (bs l[i])) := by simp [d32D, hi]
  have hs : T0 ++ (l.take i).flatten ++ l[i] = T0 ++ (l.take (i + 1)).flatten := by
   rw [List.append_assoc, List.take_succ_eq_append_getElem hi, List.flatten_append]; simp
  have hlen := hlt i (by omega)
  generalize l[i] = xi at *
  have ea : ∀ ex, elems (rows ++ [some ⟨.ar 32 L8, [.agg (.ar 32 L8) (bs xi)]⟩]) (.sl L8 rows.length [0] 0 32 ex) = some (bs xi) := fun ex => elems_arr (n := 32) (by rw [lv_app0]; rfl) rfl hx
  simp only [↓amD, amU, simprocAttr, zipEnv, amR, hh, e0, e1, b0, h7, List.length_map, g, ea, bs_len, hx]
  refine app_own (hO.push) (by rw [bs_len, bs_len, hx, hlen]; simp [most]; omega) (by rw [bs_len, bs_len, hx, hlen]; simp [most]; omega) fun d' rows' hO' hfr hlen' _ => ?_
  rw [bs_app, hs] at hO'
  simp only [↓amD, amU, simprocAttr, zipEnv, amR, hh, e1]
  exact hR _ _ ⟨by simp only [has, ↓amD, amU, simprocAttr, zipEnv, hh], d', by simp only [↓amD, amU, simprocAttr, zipEnv], hO'⟩
 ·rintro env rows ⟨hh, d, h7, hO⟩ R
  simp only [has] at hh
  have e0 : ((l.length : Int) < (l.length : Int)) = False := eq_false (by omega)
  rw [List.take_length] at hO
  have hlen := hlt l.length (Nat.le_refl _)
  rw [List.take_length] at hlen
  simp only [↓amD, amU, simprocAttr, zipEnv, amR, hh, e0, h7]
  rcases hO with ⟨h, _⟩ | ⟨r, ex1, rfl, hlv⟩
  ·have := congrArg List.length h
   rw [bs_len, hlen, List.length_nil] at this
   omega
  ·have ho : outBs (T0 ++ l.flatten) false = (.sl L8 0 [] 0 (T0 ++ l.flatten).length false, [some ⟨L8, bs (T0 ++ l.flatten)⟩]) := rfl
   rw [ho, bs_len]
   exact .own L8 r 0 _ ex1 false _ hlv rfl (fun h => by cases h)
 ·simp only [has, ↓amD, amU, simprocAttr, zipEnv]
theorem kText {rows : Rows} {x : PsV} {d dk dl : D} {k : List (BitVec 8)} {l : List (List (BitVec 8))} (h : RdIn rows (rdOf psV) d x) (hp : okPs x = true) (hk : BsIn rows dk k) (hl : RdIn rows (rdLst (.ar 32 L8) d32D) dl l) (hkl : k.length ≤ 1000) (h32 : ∀ y ∈ l, y.length = 32) (hll : l.length ≤ 1000) (K : D → Rows → Prop) (r : BitVec 32) :
  kCall fText rows K [d, .raw (u32 r), dk, dl] = K (.sl L8 (0 + rows.length) [] 0 (txS x.id r k l).length false) (rows ++ [some ⟨L8, bs (txS x.id r k l)⟩]) := by
 refine (kCall_g4 h (RdIn.raw (rd32_eq r)) (.bs hk) hl (by simp [hp, hkl, all32_eq.2 h32, hll]) rfl K).trans ?_
 simp [outBs, shift, shiftRows, Sh.pure]
def fEqual : Fn := fn2 rdBs rdBs (fun a b => Nat.ble a.length most && Nat.ble b.length most) fun a b => (.raw (.bool (decide (a = b))), [])
theorem equal_ok (C : Ctx) (hC : CtxOK C P) : Meets C.glob P 36 (Fn.run fEqual) := by
 refine fn_meetsN (m_bytes_Equal C hC) fun ds rows r h => ?_
 obtain ⟨d, e, a, b, rfl, rfl, hd, he, hp, rfl⟩ := fn2_some h
 obtain ⟨x, hx⟩ := rdBs_nrm hd
 obtain ⟨y, hy⟩ := rdBs_nrm he
 refine ⟨rfl, _, .cons hx (.cons hy .nil), afun_mk rfl ?_⟩
 unfold a_bytes_Equal r_bytes_Equal
 simp only [↓amD, amU, simprocAttr, zipEnv, amC]
 refine ⟨IsBs.sshape (.inr ⟨x, rfl⟩), ?_⟩
 simp only [byte_bs, ↓amD, amU, simprocAttr, zipEnv]
 refine ⟨IsBs.sshape (.inr ⟨y, rfl⟩), ?_⟩
 simp only [ByteArray.toList_eq, List.toList_toArray, ub_beq]
 exact .val _ rfl
theorem kEqual (rows : Rows) (k : D → Rows → Prop) (d e : D) (p q : List (BitVec 8)) (h : BsIn rows d p) (h' : BsIn rows e q) (hp : p.length ≤ 1099511627776) (hq : q.length ≤ 1099511627776) : kCall fEqual rows k [d, e] = k (.raw (.bool (decide (p = q)))) rows := by
 refine (kCall_bs2 h h' (by simpa [most] using ⟨hp, hq⟩) rfl).trans ?_
 simp [shift, shiftRows]
def fdD (d0 d1 : D) : D := .agg SFd [.raw (it 1), d0, d1, .agg SPlc [.raw (u32 0#32), .raw (it 0), .raw (it 0)], .agg (.ar 32 L8) (bs z32)]
def rdB (rows : Rows) : D → Option (List (BitVec 8))
 | .sl s r [] 0 n e => match live rows r with
  | some ⟨sh, els⟩ => if s = L8 ∧ sh = L8 ∧ els.length = n then rdBs (.lst L8 els false) else none
  | none => none
 | _ => none
theorem rdB_some {rows : Rows} {d : D} {A : List (BitVec 8)} (h : rdB rows d = some A) : ∃ r e, d = .sl L8 r [] 0 A.length e ∧ live rows r = some ⟨L8, bs A⟩ := by
 unfold rdB at h
 split at h
 ·rename_i s r n e
  split at h
  ·rename_i sh els hl
   split at h
   ·rename_i hc
    obtain ⟨rfl, rfl, rfl⟩ := hc
    rcases rdBs_some h with ⟨h1, _⟩ | ⟨e', h1⟩
    ·cases h1
    ·injection h1 with _ h1
     subst h1
     exact ⟨r, e, by rw [bs_len], hl⟩
   ·cases h
  ·cases h
 ·cases h
theorem rdB_sl {rows : Rows} {r n : Nat} {e : Bool} {A : List (BitVec 8)} (h : live rows r = some ⟨L8, bs A⟩) (hn : n = A.length) : rdB rows (.sl L8 r [] 0 n e) = some A := by
 subst hn
 simp only [rdB, h, bs_len, and_self, if_true]
 exact rdBs_lst A false
noncomputable def twoQ : QFun := fun ds rows => match ds with
 | [d0, d1] => (rdB rows d0).bind fun A => (rdB rows d1).bind fun B => if A.length ≤ 1099511627776 ∧ B.length ≤ 1099511627776 then some (.tup [fdD d0 d1, .raw (.bool (!decide (A = B)))], [some ⟨SFd, [fdD d0 d1]⟩]) else none
 | _ => none
theorem two2_ok (C : Ctx) (hC : CtxOK C P) (hN : ∀ f, C.fnr f = none) (h1 : C.fn 36 = some fEqual) : MeetsQ C.glob P 61 (qrun twoQ) := by
 refine fn_soundQ hC hN Go.Proofs.Tryd.func61 (by kernel_rfl) (by kernel_rfl) (Nat.le_of_ble_eq_true (by kernel_rfl)) (by kernel_rfl) (ac := a_proof_two) (res := r_proof_two) (np := 2) ?_
 intro ds rows d new h
 unfold twoQ at h
 split at h
 ·rename_i d0 d1
  obtain ⟨A, hA, h⟩ := Option.bind_eq_some_iff.1 h
  obtain ⟨B, hB, h⟩ := Option.bind_eq_some_iff.1 h
  split at h
  ·rename_i hl
   cases h
   obtain ⟨ra, ea, rfl, lA⟩ := rdB_some hA
   obtain ⟨rb, eb, rfl, lB⟩ := rdB_some hB
   refine ⟨rfl, ?_⟩
   unfold a_proof_two r_proof_two
   have kE := fun more k => kEqual (rows ++ more) k (.sl L8 ra [] 0 A.length ea) (.sl L8 rb [] 0 B.length eb) A B (BsIn.own (live_app lA more) _ rfl) (BsIn.own (live_app lB more) _ rfl) hl.1 hl.2
   simp only [z32_eq]
   simp only [awQ, aopsQ, tgtQ, ↓amD, amU, simprocAttr, zipEnv, amR, h1, kE]
   exact ⟨⟨_, _, rfl, Nat.le_refl _⟩, .inr trivial, rfl, rfl⟩
  ·cases h
 ·cases h
theorem two_at {rows : Rows} {ra rb na nb : Nat} {ea eb : Bool} {A B : List (BitVec 8)} (hA : live rows ra = some ⟨L8, bs A⟩) (hB : live rows rb = some ⟨L8, bs B⟩) (ha : na = A.length) (hb : nb = B.length) (la : A.length ≤ 1099511627776) (lb : B.length ≤ 1099511627776) :
  twoQ [.sl L8 ra [] 0 na ea, .sl L8 rb [] 0 nb eb] rows = some (.tup [fdD (.sl L8 ra [] 0 na ea) (.sl L8 rb [] 0 nb eb), .raw (.bool (!decide (A = B)))], [some ⟨SFd, [fdD (.sl L8 ra [] 0 na ea) (.sl L8 rb [] 0 nb eb)]⟩]) := by
 unfold twoQ
 simp only [rdB_sl hA ha, rdB_sl hB hb, Option.bind_some, la, lb, and_self, if_true]
def SlB (rows : Rows) (d : D) (A : List (BitVec 8)) : Prop := (d = .raw (.slice none 0 0) ∧ A = []) ∨ ∃ r e, d = .sl L8 r [] 0 A.length e ∧ live rows r = some ⟨L8, bs A⟩
theorem SlB.keep {rows rows' : Rows} {d : D} {A : List (BitVec 8)} (h : SlB rows d A) (hk : KeptL rows rows') : SlB rows' d A := by
 rcases h with h | ⟨r, e, h1, h2⟩
 ·exact .inl h
 ·exact .inr ⟨r, e, h1, hk _ _ h2⟩
theorem SlB.fits {rows : Rows} {d : D} {A : List (BitVec 8)} (h : SlB rows d A) : d.fits .ref = true := by
 rcases h with ⟨rfl, _⟩ | ⟨r, e, rfl, h2⟩ <;> rfl
theorem SlB.bs {rows : Rows} {d : D} {A : List (BitVec 8)} (h : SlB rows d A) : BsIn rows d A := by
 rcases h with h | ⟨r, e, rfl, h2⟩
 ·exact IsBs.to (.inl h)
 ·exact BsIn.own h2 _ rfl
structure FdIn (rows : Rows) (d : D) (k : Int) (A B : List (BitVec 8)) (p : Plc) (x : List (BitVec 8)) : Prop where
 ex : ∃ d0 d1, d = .agg SFd [.raw (it k), d0, d1, plcD p, .agg (.ar 32 L8) (Am.bs x)] ∧ SlB rows d0 A ∧ SlB rows d1 B
 x : x.length = 32
 a : A.length ≤ 1000000
 b : B.length ≤ 1000000
theorem FdIn.keep {rows rows' : Rows} {d : D} {k : Int} {A B : List (BitVec 8)} {p : Plc} {x : List (BitVec 8)} (h : FdIn rows d k A B p x) (hk : KeptL rows rows') : FdIn rows' d k A B p x := by
 obtain ⟨d0, d1, h1, h2, h3⟩ := h.ex
 exact ⟨⟨d0, d1, h1, h2.keep hk, h3.keep hk⟩, h.x, h.a, h.b⟩
theorem FdIn.fits {rows : Rows} {d : D} {k : Int} {A B : List (BitVec 8)} {p : Plc} {x : List (BitVec 8)} (h : FdIn rows d k A B p x) : d.fits SFd = true := by
 obtain ⟨d0, d1, rfl, h2, h3⟩ := h.ex
 have e2 := h2.fits
 have e3 := h3.fits
 simp only [↓amD, amU, simprocAttr, zipEnv, plcD, e2, e3]
theorem kValP {rows : Rows} {x : PsV} {d : D} (h : RdIn rows (rdOf psV) d x) (hp : okPs x = true) (k : D → Rows → Prop) (p : Plc) (hi : 0 ≤ p.i ∧ p.i < 65536) (hj : 0 ≤ p.j ∧ p.j < 257) : kCall fValP rows k [d, plcD p] = k (.agg (.ar 32 L8) (bs (valP x.id x.seed p))) rows := by
 refine (kCall_rd2 h (rdIn_plc p) (by rw [hp, inI_eq.2 hi, inI_eq.2 hj]; rfl) rfl k).trans ?_
 simp [d32D, shift, shiftRows, Sh.pure]
structure ChC (C : Ctx) : Prop where
 val : C.fn 41 = some fValP
 sit : C.fn 32 = some fSiteP
 stp : C.fn 80 = some fStep
 txt : C.fn 62 = some fText
 tw0 : C.fn 61 = none
 tw1 : C.fnr 61 = none
 tw2 : C.fnq 61 = some twoQ
set_option maxHeartbeats 1000000 in
theorem chain_run (C : Ctx) (H : ChC C) {rows : Rows} {r rp : Nat} {V : SgV} {ml : Msgs} {e : Bool} (hP : PsIn rows r rp V ml) {q : BitVec 32} {i a m : Nat} {v : List (BitVec 8)} (hq : q.toNat < 2) (hi : i < pT V.o.toNat) (hm : a + m = 2 ^ wT V.o.toNat - 1) (hv : v.length = 32)
  (hen : chS V.id q i m a (vaS V ⟨q, i, a⟩) = chS V.id q i m a v) (hkn : isKn V ml ⟨q, i, a⟩ = false) {O : Prop} (hO : O → vaS V ⟨q, i, a⟩ = v) {K : D → Rows → Prop}
  (hk : ∀ rows' d k A B p x, KeptL rows rows' → FdIn rows' d k A B p x → Good V ml k A B p x → (k = 1 → ¬ O) → K d rows') :
  afun C 4 r_proof_signer_chain a_proof_signer_chain [psD r rp e V, plcD ⟨q, i, a⟩, .agg (.ar 32 L8) (bs v), .raw (it ((a + m : Nat) : Int))] rows K := by
 refine afun_mk rfl ?_
 unfold a_proof_signer_chain r_proof_signer_chain
 have hw := (parT_ok hP.s.okO).1
 have hpw : 2 ^ wT V.o.toNat ≤ 256 := pow_le hw
 have hpt : pT V.o.toNat ≤ 265 := (parT_ok hP.s.okO).2.2.1
 have hpw0 : 0 < 2 ^ wT V.o.toNat := Nat.two_pow_pos _
 have kV := fun more k => kValP (rows := rows ++ more) (hP.push more |>.ps e) (hP.ok e) k ⟨q, i, a⟩ (by simp; omega) (by simp; omega)
 have kS := fun more k => kSiteP (rows := rows ++ more) (hP.push more |>.ps e) (hP.ok e) k q
 have hvl := vaS_len V ⟨q, i, a⟩
 have hva : valP V.id V.seed ⟨q, i, a⟩ = vaS V ⟨q, i, a⟩ := rfl
 have hz : D.agg SSite [.agg (.ar 16 L8) (List.replicate 16 (.raw (u8 0#8))), .raw (u32 0#32)] = siteD ⟨List.replicate 16 0#8, 0#32⟩ := rfl
 rw [hva] at kV
 have hmk : ∀ own, own = vaS V ⟨q, i, a⟩ → own = v → Good V ml 2 [] [] ⟨q, i, a⟩ v := fun own e1 e2 => .unt (by simp only [thereP, inI_eq.2 (⟨by omega, by omega⟩ : (0 : Int) ≤ (i : Int) ∧ (i : Int) < (pT V.o.toNat : Int)), inI_eq.2 (⟨by omega, by omega⟩ : (0 : Int) ≤ (a : Int) ∧ (a : Int) < ((2 ^ wT V.o.toNat : Nat) : Int)), decide_eq_true hq, Bool.and_self]) (by rw [← e2, e1]) hkn
 have hmk := hmk _ rfl
 generalize hOW : vaS V ⟨q, i, a⟩ = own at *
 have q1 : eqL (bs own) (bs v) = some (decide (own = v)) := eqA_d32 own v hvl hv
 simp only [z32_eq, hz]
 simp only [psD, plcD] at kV kS ⊢
 simp only [↓amD, amU, simprocAttr, zipEnv, amR, H.val, kV]
 by_cases c : own = v
 ·subst c
  rw [decide_eq_true rfl] at q1
  simp only [↓amD, amU, simprocAttr, zipEnv, amR, q1]
  exact hk _ _ 2 [] [] ⟨q, i, a⟩ own (KeptL.app _ _) ⟨⟨_, _, rfl, .inl ⟨rfl, rfl⟩, .inl ⟨rfl, rfl⟩⟩, hv, by simp, by simp⟩ (hmk rfl) (fun h => absurd h (by decide))
 ·rw [decide_eq_false c] at q1
  simp only [↓amD, amU, simprocAttr, zipEnv, amR, q1, H.sit, kS, site_fits]
  have hid : V.id.length = 16 := hP.s.w.id
  have hmm : chS V.id q i (m - 0) (a + 0) own = chS V.id q i (m - 0) (a + 0) v := hen
  have b0 : ∀ n : Nat, ((0 : Int) ≤ (n : Int)) = True := fun n => eq_true (by omega)
  have kst : ∀ (j : Nat) (x : List (BitVec 8)) (rows : Rows) (K : D → Rows → Prop), j < 256 → x.length = 32 → kCall fStep rows K [siteD ⟨V.id, q⟩, .raw (it (i : Int)), .raw (it (j : Int)), .agg (.ar 32 L8) (bs x)] = K (.agg (.ar 32 L8) (bs (stepS V.id q i j x))) rows := fun j x rows K hj hx => kStep rows K ⟨V.id, q⟩ i j x hid (by omega) hj hx
  refine kLoop_up m (fun k env rs => has env [(11, .raw (it ((a + k : Nat) : Int))), (3, .raw (it ((a + m : Nat) : Int))), (10, .ptr SSite (rows.length + 5) [0]), (9, .ptr (.ar 32 L8) (rows.length + 4) [0]), (8, .ptr SFd (rows.length + 3) [0]), (6, .ptr (.ar 32 L8) (rows.length + 2) [0]), (5, .ptr SPlc (rows.length + 1) [0]), (4, .ptr SPs rows.length [0])] ∧
   KeptL rows rs ∧ live rs rows.length = some ⟨SPs, [.agg SPs [.ptr SSig r [0], .sl L8 rp [] 0 56 e, .agg (.ar 16 L8) (bs V.id), .raw (u32 V.o), .agg (.ar 32 L8) (bs V.seed)]]⟩ ∧ live rs (rows.length + 1) = some ⟨SPlc, [.agg SPlc [.raw (u32 q), .raw (it (i : Int)), .raw (it (a : Int))]]⟩ ∧ live rs (rows.length + 5) = some ⟨SSite, [siteD ⟨V.id, q⟩]⟩ ∧ (∃ z, live rs (rows.length + 3) = some ⟨SFd, [z]⟩) ∧
   ∃ ok vk, live rs (rows.length + 4) = some ⟨.ar 32 L8, [.agg (.ar 32 L8) (bs ok)]⟩ ∧ live rs (rows.length + 2) = some ⟨.ar 32 L8, [.agg (.ar 32 L8) (bs vk)]⟩ ∧ ok ≠ vk ∧ ok.length = 32 ∧ vk.length = 32 ∧ chS V.id q i (m - k) (a + k) ok = chS V.id q i (m - k) (a + k) vk) ?_ ?_
   ⟨?_, KeptL.app _ _, by rw [lv_app0]; rfl, by rw [lv_appk]; rfl, by rw [lv_appk]; rfl, ⟨_, by rw [lv_appk]; rfl⟩, own, v, by rw [lv_appk]; rfl, by rw [lv_appk]; rfl, c, hvl, hv, hmm⟩
  ·rintro k hk' env rs ⟨hh, hK, r0, r1, r5, ⟨z, r3⟩, ok, vk, r4, r2, hne, hol, hvk, hch⟩ R hR
   simp only [has] at hh
   have f0 : (((a + k : Nat) : Int) < ((a + m : Nat) : Int)) = True := eq_true (by omega)
   have f1 := wz_succ (a + k) (by omega)
   have kA := fun rows K => kst (a + k) ok rows K (by omega) hol
   have kB := fun rows K => kst (a + k) vk rows K (by omega) hvk
   have xl : (stepS V.id q i (a + k) ok).length = 32 := stepS_len _ _ _ _ _
   have yl : (stepS V.id q i (a + k) vk).length = 32 := stepS_len _ _ _ _ _
   have q2 : eqL (bs (stepS V.id q i (a + k) ok)) (bs (stepS V.id q i (a + k) vk)) = some (decide (stepS V.id q i (a + k) ok = stepS V.id q i (a + k) vk)) := eqA_d32 _ _ xl yl
   have R0 := fun L' => live_app r0 L'
   have R1 := fun L' => live_app r1 L'
   have R2 := fun L' => live_app r2 L'
   have R3 := fun L' => live_app r3 L'
   have R4 := fun L' => live_app r4 L'
   have R5 := fun L' => live_app r5 L'
   by_cases cx : stepS V.id q i (a + k) ok = stepS V.id q i (a + k) vk
   ·rw [decide_eq_true cx] at q2
    have sh8 : ∀ K, aBin .shr (it (i : Int)) (u64 8#64) K = K (.raw (it ((i / 256 : Nat) : Int))) := fun K => shr_n i 8 .u64 (by decide) K
    have o1 : BitVec.ofInt 8 ((i / 256 : Nat) : Int) = BitVec.ofNat 8 (i / 256) := BitVec.ofInt_natCast _ _
    have o2 : BitVec.ofInt 8 (i : Int) = BitVec.ofNat 8 i := BitVec.ofInt_natCast _ _
    have o3 : BitVec.ofInt 8 ((a + k : Nat) : Int) = BitVec.ofNat 8 (a + k) := BitVec.ofInt_natCast _ _
    have hPk := hP.keep hK
    simp only [↓amD, amU, simprocAttr, zipEnv, amR, hh, f0, r0, r1, r2, r3, r4, r5, R0, R1, R2, R3, R4, R5, H.stp, kA, kB, site_fits, q2, sh8, o1, o2, o3, H.txt]
    refine Eq.mpr (kText ((hPk.push _).ps e) (hP.ok e) (k := be2 i ++ [BitVec.ofNat 8 (a + k)]) (l := [ok]) (BsIn.own (by rw [lv_appk]; rfl) _ rfl) (RdIn.dl (by rw [lv_appk]; rfl) rfl) (by simp [be2]) (by simp [hol]) (by simp) _ q) ?_
    simp only [↓amD, amU, simprocAttr, zipEnv, amR, hh, r0, r1, r2, r3, r4, r5, R0, R1, R2, R3, R4, R5, H.txt]
    refine Eq.mpr (kText ((hPk.push _).ps e) (hP.ok e) (k := be2 i ++ [BitVec.ofNat 8 (a + k)]) (l := [vk]) (BsIn.own (by rw [lv_appk]; rfl) _ rfl) (RdIn.dl (by rw [lv_appk]; rfl) rfl) (by simp [be2]) (by simp [hvk]) (by simp) _ q) ?_
    simp only [↓amD, amU, simprocAttr, zipEnv, amR, hh, r0, r1, r2, r3, r4, r5, R0, R1, R2, R3, R4, R5, H.tw0, H.tw1, H.tw2]
    have tl : ∀ x : List (BitVec 8), x.length = 32 → (txS V.id q (be2 i ++ [BitVec.ofNat 8 (a + k)]) [x]).length = 55 := fun x hx => by
     simp only [txS, List.length_append, hid, be2, List.flatten_cons, List.flatten_nil, List.append_nil, hx, List.length_cons, List.length_nil]; rfl
    have t1 := tl ok hol
    have t2 := tl vk hvk
    obtain ⟨g1, g2⟩ := step_col hne cx
    rw [two_at (by rw [lv_appk]; rfl) (by rw [lv_appk]; rfl) rfl rfl (by omega) (by omega)]
    have lt3 := live_lt r3
    have w3 := fun L' X => live_set_ne (rows := rs ++ L') (x := X) (by omega : rows.length + 3 ≠ rs.length + 8)
    simp only [fdD, ↓amD, amU, simprocAttr, zipEnv, amR, hh, r0, r1, r2, r3, r4, r5, R0, R1, R2, R3, R4, R5, w3, fun L' X => live_set_eq (y := X) (R3 L')]
    refine hk _ _ 1 _ _ ⟨0#32, 0, 0⟩ z32 ((hK.trans (KeptL.app _ _)).set (by omega) _) ⟨⟨_, _, rfl, .inr ⟨_, _, rfl, ?_⟩, .inr ⟨_, _, rfl, ?_⟩⟩, rfl, by omega, by omega⟩ (.col g1 g2) (fun _ o => c (hO o))
    ·rw [live_set_ne (by omega), lv_appk]; rfl
    ·rw [live_set_ne (by omega), lv_appk]; rfl
   ·rw [decide_eq_false cx] at q2
    have lt4 := live_lt r4
    have lt2 := live_lt r2
    have w1 := fun L' X => live_set_ne (rows := rs ++ L') (x := X) (by omega : rows.length + 4 ≠ rs.length + 1)
    have w2 := fun L' X => live_set_ne (rows := rs ++ L') (x := X) (by omega : rows.length + 4 ≠ rows.length + 2)
    simp only [↓amD, amU, simprocAttr, zipEnv, amR, hh, f0, f1, r0, r1, r2, r3, r4, r5, R0, R1, R2, R3, R4, R5, H.stp, kA, kB, site_fits, q2, w1, w2]
    have hms : m - k = (m - (k + 1)) + 1 := by omega
    rw [hms] at hch
    refine hR _ _ ⟨by simp only [has, ↓amD, amU, simprocAttr, zipEnv, hh, Nat.add_assoc], ((hK.trans (KeptL.app _ _)).set (by omega) _).set (by omega) _, ?_, ?_, ?_, ⟨z, ?_⟩, _, _, ?_, ?_, cx, xl, yl, hch⟩
    ·rw [live_set_ne (by omega), live_set_ne (by omega)]; exact R0 _
    ·rw [live_set_ne (by omega), live_set_ne (by omega)]; exact R1 _
    ·rw [live_set_ne (by omega), live_set_ne (by omega)]; exact R5 _
    ·rw [live_set_ne (by omega), live_set_ne (by omega)]; exact R3 _
    ·rw [live_set_ne (by omega)]; exact live_set_eq (R4 _)
    ·exact live_set_eq (by rw [live_set_ne (by omega)]; exact R2 _)
  ·rintro env rs ⟨hh, hK, r0, r1, r5, ⟨z, r3⟩, ok, vk, r4, r2, hne, hol, hvk, hch⟩ R
   rw [Nat.sub_self] at hch
   exact absurd hch hne
  ·simp only [has, ↓amD, amU, simprocAttr, zipEnv, Nat.add_zero]
structure ClC (C : Ctx) : Prop where
 txt : C.fn 62 = some fText
 lea : C.fn 46 = some fLeaf
 nod : C.fn 47 = some fNode
 pat : C.fn 28 = some fPath
 eql : C.fn 36 = some fEqual
 kl : C.fn 63 = some (fKd (be2 33410))
 ki : C.fn 64 = some (fKd (be2 33667))
 tw0 : C.fn 61 = none
 tw1 : C.fnr 61 = none
 tw2 : C.fnq 61 = some twoQ
def fd0 : D := .agg SFd [.raw (it 0), .raw (.slice none 0 0), .raw (.slice none 0 0), .agg SPlc [.raw (u32 0#32), .raw (it 0), .raw (it 0)], .agg (.ar 32 L8) (bs z32)]
set_option maxHeartbeats 1000000 in
theorem climb_run (C : Ctx) (H : ClC C) {rows : Rows} {r rp : Nat} {V : SgV} {ml : Msgs} {e : Bool} (hP : PsIn rows r rp V ml) {q : BitVec 32} (hq : q.toNat < 2) {own cl p0 : List (BitVec 8)} (ho : own.length = 32) (hc : cl.length = 32) (hp0 : p0.length = 32) {rq : Nat} {ee : Bool}
  (hl : live rows rq = some ⟨.ar 32 L8, [.agg (.ar 32 L8) (bs p0)]⟩) (hrt : dI V.id (q + 1#32 <<< 1) (leafS V.id (q + 1#32 <<< 1) own) (pathG V q.toNat) 1 = dI V.id (q + 1#32 <<< 1) (leafS V.id (q + 1#32 <<< 1) cl) [p0] 1) {O : Prop} (hO : O → own = cl ∧ pathG V q.toNat = [p0]) {K : D → Rows → Prop}
  (hk1 : ∀ rows' d k A B p x, KeptL rows rows' → FdIn rows' d k A B p x → Good V ml k A B p x → (k = 1 → ¬ O) → K (.tup [d, .raw (.bool true)]) rows')
  (hk2 : own = cl → ∀ rows', KeptL rows rows' → K (.tup [fd0, .raw (.bool false)]) rows') :
  afun C 5 r_proof_signer_climb a_proof_signer_climb [psD r rp e V, .raw (u32 q), .agg (.ar 32 L8) (bs own), .agg (.ar 32 L8) (bs cl), .sl (.ar 32 L8) rq [] 0 1 ee] rows K := by
 refine afun_mk rfl ?_
 unfold a_proof_signer_climb r_proof_signer_climb
 have hid : V.id.length = 16 := hP.s.w.id
 have hql : q.toNat < lvN V := by rw [hP.s.lv]; exact hq
 have hpn : pathN V q.toNat = 1 := (hP.s.w.pn (by rw [hP.s.two]; exact hq)).trans hP.s.h1
 obtain ⟨m0, hm0, hml⟩ : ∃ m0, pathG V q.toNat = [m0] ∧ m0.length = 32 := by
  have h1 := pathG_len V q.toNat
  rw [hpn] at h1
  obtain ⟨m0, h2⟩ := List.length_eq_one_iff.1 h1
  exact ⟨m0, h2, pathG_32 hP.s.w.ok hql m0 (by rw [h2]; exact .head _)⟩
 have kP := fun more k => kPathV (rows ++ more) k (.ptr SSig r [0]) V q (hP.push more).rd hP.s.w.ok hql
 rw [hpn, hm0] at kP
 rw [hm0] at hrt hO
 have e12 : (1#32 <<< 1 : BitVec 32) = 2#32 := rfl
 rw [e12] at hrt
 have hO2 : ∀ j, O → lvS V.id (q + 2#32) own [m0] j = lvS V.id (q + 2#32) cl [p0] j := fun j o => by rw [(hO o).1, (hO o).2]
 have hO0 := hO2 0
 have hO1 := hO2 1
 clear hO hO2
 have hf := @lv_find V.id (q + 2#32) own cl [m0] [p0] 1
 have hps := fun more => (hP.push more).ps e
 have hpk := hP.ok e
 have tl : ∀ (x : BitVec 32) k y, y.length = 32 → (txS V.id x (be2 k) [y]).length = 54 := fun x k y hy => by
  simp only [txS, List.length_append, hid, be2, List.flatten_cons, List.flatten_nil, List.append_nil, hy, List.length_cons, List.length_nil]; rfl
 have tl2 : ∀ (x : BitVec 32) y z, y.length = 32 → z.length = 32 → (txS V.id x (be2 33667) [y, z]).length = 86 := fun x y z hy hz => by
  simp only [txS, List.length_append, hid, be2, List.flatten_cons, List.flatten_nil, List.append_nil, hy, hz, List.length_cons, List.length_nil]; rfl
 simp only [z32_eq]
 simp only [psD] at hps ⊢
 have Al := fun L' => live_app hl L'
 have hb : ((q + 2#32) &&& 1#32 = 1#32) = True ∨ ((q + 2#32) &&& 1#32 = 1#32) = False := by
  by_cases c : (q + 2#32) &&& 1#32 = 1#32
  ·exact .inl (eq_true c)
  ·exact .inr (eq_false c)
 simp only [↓amD, amU, simprocAttr, zipEnv, amR, e12, H.kl, kKd, H.txt]
 clear e12
 generalize q + 2#32 = r0 at *
 refine Eq.mpr (kText (hps _) hpk (k := be2 33410) (l := [own]) (BsIn.own (by rw [lv_appk]; rfl) _ rfl) (RdIn.dl (by rw [lv_appk]; rfl) rfl) (by simp [be2]) (by simp [ho]) (by simp) _ r0) ?_
 simp only [↓amD, amU, simprocAttr, zipEnv, amR, H.kl, kKd, H.txt]
 refine Eq.mpr (kText (hps _) hpk (k := be2 33410) (l := [cl]) (BsIn.own (by rw [lv_appk]; rfl) _ rfl) (RdIn.dl (by rw [lv_appk]; rfl) rfl) (by simp [be2]) (by simp [hc]) (by simp) _ r0) ?_
 simp only [↓amD, amU, simprocAttr, zipEnv, amR, H.tw0, H.tw1, H.tw2]
 have t1 := tl r0 33410 own ho
 have t2 := tl r0 33410 cl hc
 rw [two_at (by rw [lv_appk]; rfl) (by rw [lv_appk]; rfl) rfl rfl (by omega) (by omega)]
 have kL1 := fun rows k => kLeaf rows k V.id r0 own hid ho
 have kL2 := fun rows k => kLeaf rows k V.id r0 cl hid hc
 simp only [fdD, ↓amD, amU, simprocAttr, zipEnv, amR, H.lea, kL1, kL2, H.pat, kP]
 have xl := leafS_len V.id r0 own
 have yl := leafS_len V.id r0 cl
 have e0A : lvS V.id r0 own [m0] 0 = txS V.id r0 (be2 33410) [own] := rfl
 have e0B : lvS V.id r0 cl [p0] 0 = txS V.id r0 (be2 33410) [cl] := rfl
 have e1A : lvS V.id r0 own [m0] 1 = txS V.id (r0 >>> 1) (be2 33667) (lvP r0 m0 (leafS V.id r0 own)) := rfl
 have e1B : lvS V.id r0 cl [p0] 1 = txS V.id (r0 >>> 1) (be2 33667) (lvP r0 p0 (leafS V.id r0 cl)) := rfl
 have hoc : lvS V.id r0 own [m0] 0 = lvS V.id r0 cl [p0] 0 → own = cl := fun h => tx_one h
 rw [e0A, e0B] at hoc
 rw [← e0A] at t1
 rw [← e0B] at t2
 rw [← e0A, ← e0B] at hoc
 simp only [← e0A, ← e0B]
 generalize hA0 : lvS V.id r0 own [m0] 0 = A0 at *
 generalize hB0 : lvS V.id r0 cl [p0] 0 = B0 at *
 refine kLoop_step 2 ?_
 have g0 : [d32D m0][0]? = some (.agg (.ar 32 L8) (bs m0)) := rfl
 rcases hb with hb | hb
 have f1 : txS V.id (r0 >>> 1) (be2 33667) [m0, leafS V.id r0 own] = lvS V.id r0 own [m0] 1 := by rw [e1A, lvP, if_pos (of_eq_true hb)]
 have f2 : txS V.id (r0 >>> 1) (be2 33667) [p0, leafS V.id r0 cl] = lvS V.id r0 cl [p0] 1 := by rw [e1B, lvP, if_pos (of_eq_true hb)]
 have t3 := tl2 (r0 >>> 1) m0 (leafS V.id r0 own) hml xl
 have t4 := tl2 (r0 >>> 1) p0 (leafS V.id r0 cl) hp0 yl
 have kN1 := fun rows k => kNode rows k V.id (r0 >>> 1) m0 (leafS V.id r0 own) hid hml xl
 have kN2 := fun rows k => kNode rows k V.id (r0 >>> 1) p0 (leafS V.id r0 cl) hid hp0 yl
 simp only [d32D, ↓amD, amU, simprocAttr, zipEnv, amR, hb, hl, Al, H.ki, kKd, H.txt]
 refine Eq.mpr (kText (hps _) hpk (k := be2 33667) (l := [m0, leafS V.id r0 own]) (BsIn.own (by rw [lv_appk]; rfl) _ rfl) (RdIn.dl (by rw [lv_appk]; rfl) rfl) (by simp [be2]) (by simp [hml, xl]) (by simp) _ (r0 >>> 1)) ?_
 simp only [↓amD, amU, simprocAttr, zipEnv, amR, hl, Al, H.ki, kKd, H.txt]
 refine Eq.mpr (kText (hps _) hpk (k := be2 33667) (l := [p0, leafS V.id r0 cl]) (BsIn.own (by rw [lv_appk]; rfl) _ rfl) (RdIn.dl (by rw [lv_appk]; rfl) rfl) (by simp [be2]) (by simp [hp0, yl]) (by simp) _ (r0 >>> 1)) ?_
 simp only [↓amD, amU, simprocAttr, zipEnv, amR, hl, Al, H.tw0, H.tw1, H.tw2]
 rw [two_at (by rw [lv_appk]; rfl) (by rw [lv_appk]; rfl) rfl rfl (by omega) (by omega)]
 simp only [fdD, ↓amD, amU, simprocAttr, zipEnv, amR, hl, Al, H.nod, kN1, kN2]
 rw [f1] at t3
 rw [f2] at t4
 simp only [f1, f2]
 rotate_left
 have f1 : txS V.id (r0 >>> 1) (be2 33667) [leafS V.id r0 own, m0] = lvS V.id r0 own [m0] 1 := by rw [e1A, lvP, if_neg (of_eq_false hb)]
 have f2 : txS V.id (r0 >>> 1) (be2 33667) [leafS V.id r0 cl, p0] = lvS V.id r0 cl [p0] 1 := by rw [e1B, lvP, if_neg (of_eq_false hb)]
 have t3 := tl2 (r0 >>> 1) (leafS V.id r0 own) m0 xl hml
 have t4 := tl2 (r0 >>> 1) (leafS V.id r0 cl) p0 yl hp0
 have kN1 := fun rows k => kNode rows k V.id (r0 >>> 1) (leafS V.id r0 own) m0 hid xl hml
 have kN2 := fun rows k => kNode rows k V.id (r0 >>> 1) (leafS V.id r0 cl) p0 hid yl hp0
 simp only [d32D, ↓amD, amU, simprocAttr, zipEnv, amR, hb, hl, Al, H.ki, kKd, H.txt]
 refine Eq.mpr (kText (hps _) hpk (k := be2 33667) (l := [leafS V.id r0 own, m0]) (BsIn.own (by rw [lv_appk]; rfl) _ rfl) (RdIn.dl (by rw [lv_appk]; rfl) rfl) (by simp [be2]) (by simp [hml, xl]) (by simp) _ (r0 >>> 1)) ?_
 simp only [↓amD, amU, simprocAttr, zipEnv, amR, hl, Al, H.ki, kKd, H.txt]
 refine Eq.mpr (kText (hps _) hpk (k := be2 33667) (l := [leafS V.id r0 cl, p0]) (BsIn.own (by rw [lv_appk]; rfl) _ rfl) (RdIn.dl (by rw [lv_appk]; rfl) rfl) (by simp [be2]) (by simp [hp0, yl]) (by simp) _ (r0 >>> 1)) ?_
 simp only [↓amD, amU, simprocAttr, zipEnv, amR, hl, Al, H.tw0, H.tw1, H.tw2]
 rw [two_at (by rw [lv_appk]; rfl) (by rw [lv_appk]; rfl) rfl rfl (by omega) (by omega)]
 simp only [fdD, ↓amD, amU, simprocAttr, zipEnv, amR, hl, Al, H.nod, kN1, kN2]
 rw [f1] at t3
 rw [f2] at t4
 simp only [f1, f2]
 all_goals
  generalize hA1 : lvS V.id r0 own [m0] 1 = A1 at *
  generalize hB1 : lvS V.id r0 cl [p0] 1 = B1 at *
  refine kLoop_step 3 ?_
  simp only [↓amD, amU, simprocAttr, zipEnv, amR, H.eql]
  have hj := fun j hj ha => hf (j := j) (fun i hi => by obtain rfl : i = 0 := (by omega); exact hml) (fun i hi => by obtain rfl : i = 0 := (by omega); exact hp0) hrt hj ha
  refine Eq.mpr (kEqual _ _ _ _ A1 B1 (BsIn.own (by rw [lv_appk]; rfl) _ rfl) (BsIn.own (by rw [lv_appk]; rfl) _ rfl) (by omega) (by omega)) ?_
  by_cases c1 : A1 = B1
  ·rw [decide_eq_true c1]
   simp only [↓amD, amU, simprocAttr, zipEnv, amR, Bool.not_true, H.eql]
   refine Eq.mpr (kEqual _ _ _ _ A0 B0 (BsIn.own (by rw [lv_appk]; rfl) _ rfl) (BsIn.own (by rw [lv_appk]; rfl) _ rfl) (by omega) (by omega)) ?_
   by_cases c0 : A0 = B0
   ·rw [decide_eq_true c0]
    simp only [↓amD, amU, simprocAttr, zipEnv, amR, Bool.not_true]
    exact hk2 (hoc c0) _ (KeptL.app _ _)
   ·rw [decide_eq_false c0]
    simp only [↓amD, amU, simprocAttr, zipEnv, amR, Bool.not_false]
    have hs := hj 0 (by omega) (fun i h1 h2 => by obtain rfl : i = 1 := (by omega); rw [hA1, hB1]; exact c1)
    rw [hA0, hB0] at hs
    exact hk1 _ _ 1 A0 B0 ⟨0#32, 0, 0⟩ z32 (KeptL.app _ _) ⟨⟨_, _, rfl, .inr ⟨_, _, rfl, by rw [lv_appk]; rfl⟩, .inr ⟨_, _, rfl, by rw [lv_appk]; rfl⟩⟩, rfl, by omega, by omega⟩ (.col c0 hs) (fun _ o => c0 (hO0 o))
  ·rw [decide_eq_false c1]
   simp only [↓amD, amU, simprocAttr, zipEnv, amR, Bool.not_false]
   have hs := hj 1 (by omega) (fun i h1 h2 => absurd h1 (by omega))
   rw [hA1, hB1] at hs
   exact hk1 _ _ 1 A1 B1 ⟨0#32, 0, 0⟩ z32 (KeptL.app _ _) ⟨⟨_, _, rfl, .inr ⟨_, _, rfl, by rw [lv_appk]; rfl⟩, .inr ⟨_, _, rfl, by rw [lv_appk]; rfl⟩⟩, rfl, by omega, by omega⟩ (.col c1 hs) (fun _ o => c1 (hO1 o))
structure OfC (C : Ctx) : Prop where
 pub : C.fn 15 = some fPublicK
 num : C.fn 54 = some fLNum
theorem of_run (C : Ctx) (H : OfC C) {rows : Rows} {L : At4} {S : Sg} {ml : Msgs} (hS : Sgn rows L S) (hP : PS (S.v L) ml) {K : D → Rows → Prop}
  (hk : ∀ rows' rp e, KeptL rows rows' → PsIn rows' L.r rp (S.v L) ml → K (psD L.r rp e (S.v L)) rows') :
  afun C 2 r_proof_of a_proof_of [.ptr SSig L.r [0], .agg (.ar 32 L8) (bs S.seed)] rows K := by
 refine afun_mk rfl ?_
 unfold a_proof_of r_proof_of
 have kPub := fun more k' => kPublicV (rows ++ more) k' _ _ (hS.push more).rd hP.w.ok
 have hlen := pubSg_len hP.w.ok
 have hid := pub_id hP.w.id
 simp only [↓amD, amU, simprocAttr, zipEnv, amR, H.pub, kPub]
 simp only [bs_drop, bs_take, hid, bs_len, H.num]
 refine ⟨hP.w.id, ?_⟩
 have e4 : ((pubSg (S.v L)).drop 4).take 52 = (pubSg (S.v L)).drop 4 := List.take_of_length_le (by rw [List.length_drop, hlen]; decide)
 refine Eq.mpr (kLNum _ _ _ _ (BsIn.sub (by rw [lv_appk]; rfl) (by rw [hlen]; decide)) (by rw [e4, List.length_drop, hlen]; decide)) ?_
 rw [e4, pub_o]
 simp only [↓amD, amU, simprocAttr, zipEnv, amR]
 exact hk _ (rows.length + 2) false (KeptL.app _ _) ⟨⟨L, S, hS.push _, rfl, rfl⟩, by rw [lv_appk]; rfl, hP⟩
theorem ofBytes_msg (m : List (BitVec 8)) : ofBytes (msgV m) = bs m := by
 simp only [ofBytes, msgV, bs, List.toList_toArray, ub, List.map_map]
 refine List.map_congr_left fun x _ => ?_
 simp [u8]
theorem PsIn.dl {rows : Rows} {r rp : Nat} {V : SgV} {ml : Msgs} (h : PsIn rows r rp V ml) {q : Nat} (hq : q < ml.length) :
  ∃ l r2 n ex, live rows r = some ⟨SSig, [.agg SSig l]⟩ ∧ l.length = 9 ∧ l[8]? = some (.sl SLet r2 [] 0 n ex) ∧ q < n ∧ n = ml.length ∧ live rows r2 = some ⟨SLet, ml.map letD⟩ := by
 obtain ⟨L, S, h1, rfl, rfl⟩ := h.g
 rcases h.s.ld with ⟨_, h2⟩ | ⟨ex, h2⟩
 ·subst h2; simp at hq
 ·have h3 : ldV L S = .lst SLet (ml.map letD) ex := h2
  rcases h1.l with ⟨e1, e2⟩ | ⟨r2, ex2, e2, hl⟩
  ·rw [ldV, e2] at h3; cases h3
  ·rw [ldV, e2] at h3
   injection h3 with _ h3
   rw [h3] at hl
   have hn : (S.last.map letD).length = ml.length := by rw [h3, List.length_map]
   rw [hn] at e2
   exact ⟨_, r2, ml.length, ex2, h1.a, rfl, by rw [← e2]; rfl, hq, rfl, hl⟩
theorem last_run (C : Ctx) {rows : Rows} {r rp : Nat} {V : SgV} {ml : Msgs} (hP : PsIn rows r rp V ml) {q : BitVec 32} (hq : q.toNat < ml.length) {K : D → Rows → Prop}
  (hk : K (.tup [.lst L8 (bs (ml.getD q.toNat ([], [])).1) false, .agg (.ar 32 L8) (bs (ml.getD q.toNat ([], [])).2)]) (rows ++ [some ⟨.ar 32 L8, [.agg (.ar 32 L8) (bs (ml.getD q.toNat ([], [])).2)]⟩])) :
  afun C 2 r_lms_Signer_Last a_lms_Signer_Last [.ptr SSig r [0], .raw (u32 q)] rows K := by
 refine afun_mk rfl ?_
 unfold a_lms_Signer_Last r_lms_Signer_Last
 obtain ⟨l, r2, n, ex, hr, h9, h8, hqn, hn, hl⟩ := hP.dl hq
 have hlen := hP.s.len
 have A1 := fun L' => live_app hr L'
 have A2 := fun L' => live_app hl L'
 have b0 : ∀ n : Nat, ((0 : Int) ≤ (n : Int)) = True := fun n => eq_true (by omega)
 have c1 : (BitVec.ofInt 64 ((n : Nat) : Int) ≤ q.setWidth 64) = False := eq_false (by
  rw [show BitVec.ofInt 64 ((n : Nat) : Int) = BitVec.ofNat 64 n from BitVec.ofInt_natCast _ _, BitVec.le_def, BitVec.toNat_ofNat, BitVec.toNat_setWidth]
  omega)
 have c2 : ((q.toNat : Int) < (n : Int)) = True := eq_true (by omega)
 have g : (ml.map letD)[q.toNat]? = some (letD (ml.getD q.toNat ([], []))) := by simp [List.getD, hq]
 have gl : (D.agg SSig l).get [8] = some (.sl SLet r2 [] 0 n ex) := by simp [D.get, h8]
 generalize ml.getD q.toNat ([], []) = x at *
 simp only [z32_eq]
 simp only [↓amD, amU, simprocAttr, zipEnv, amR, hr, A1, hl, A2, h8, gl, c1, c2, b0, g, letD, ofBytes_msg]
 exact hk
end Job
end Go.Am
