import Derived.Test.YtpepmhbdblldeaaDoorPv4
import Derived.Laws.StructEq
import Derived.ChangeKeysEq
import Derived.Laws.BytesString
import Derived.Lib.ConvBytes
import Derived.Laws.Externs
namespace Go.Am
set_option linter.unusedVariables false
set_option linter.unusedSimpArgs false
variable {C : Ctx} {P : Program} {n : Nat} {ρ : Pl} {T : Nat → Prop} {env : Env} {rows : Rows} {a : Act} {w : World}
theorem evs_sound (hs : Sim n ρ T env rows a w) (hG : Glob C ρ w T) : ∀ {l : List Operand} {l' : List X} {ds : List D}, cXs l = some l' → evs C env l' = some ds → All2 (VR ρ w T) ds (l.map a.eval)
 | [], l', ds, h1, h2 => by
  simp [cXs] at h1; subst h1
  simp [evs] at h2; subst h2
  exact .nil
 | x :: l, l', ds, h1, h2 => by
  simp only [cXs] at h1
  split at h1
  ·rename_i y hy
   split at h1
   ·rename_i r hr
    cases h1
    simp only [evs] at h2
    split at h2
    ·rename_i d hd
     split at h2
     ·rename_i ds' hds
      cases h2
      exact .cons (ev_sound hy hd hs hG) (evs_sound hs hG hr hds)
     ·cases h2
    ·cases h2
   ·cases h1
  ·cases h1
theorem mmFold_sound {mx : Bool} {kd : IntKind} : ∀ {l : List D} {x m : Int} {vs : List Value}, mmFold mx kd x l = some m → All2 (VR ρ w T) l vs →
  (vs.foldlM (if mx then Builtin.max2 else Builtin.min2) (.int kd x)).run P w = .ok (.int kd m) w
 | [], x, m, vs, h, hv => by
  have : vs = [] := List.eq_nil_of_length_eq_zero hv.len.symm
  subst this
  simp [mmFold] at h
  subst h
  simp
 | d :: l, x, m, vs, h, hv => by
  cases vs with
  | nil => have := hv.len; simp at this
  | cons v vs =>
   cases d with
   | raw q =>
    cases q with
    | int k' y =>
     simp only [mmFold] at h
     cases hb : (kd == k') with
     | false => rw [hb] at h; simp at h
     | true =>
      rw [hb] at h
      simp only [cond_true] at h
      have hk : kd = k' := by simpa using hb
      subst hk
      have hv0 := VR.ofRaw hv.head
      subst hv0
      have ih := mmFold_sound (vs := vs) h hv.tail
      cases mx with
      | true =>
       simp only [if_true, cond_true] at ih h ⊢
       have e : (if x < y then y else x) = max x y := by
        rw [Int.max_def]; split <;> split <;> omega
       simp [List.foldlM_cons, Builtin.max2, e, ih]
      | false =>
       simp only [Bool.false_eq_true, if_false, cond_false] at ih h ⊢
       have e : (if y < x then y else x) = min x y := by
        rw [Int.min_def]; split <;> split <;> omega
       simp [List.foldlM_cons, Builtin.min2, e, ih]
    | _ => simp [mmFold] at h
   | _ => simp [mmFold] at h
theorem toByte_sound {d : D} {u : UInt8} (h : toByte d = some u) : ∃ i, d = .raw (.int .u8 i) ∧ u = UInt8.ofNat i.toNat := by
 unfold toByte at h
 split at h
 ·rename_i i; exact ⟨i, rfl, by simpa using h.symm⟩
 ·cases h
theorem mapO_byte : ∀ {l : List D} {bs : List UInt8} {cs : List Value}, mapO toByte l = some bs → All2 (LR ρ w T) (flatL l) cs → ∃ ns : List Int, cs = ns.map (Value.int .u8) ∧ bs = ns.map (fun i => UInt8.ofNat i.toNat) ∧ l.length = ns.length
 | [], bs, cs, h, hc => by
  simp [mapO] at h; subst h
  have : cs = [] := List.eq_nil_of_length_eq_zero (by simpa [flatL] using hc.len.symm)
  subst this
  exact ⟨[], rfl, rfl, rfl⟩
 | d :: l, bs, cs, h, hc => by
  simp only [mapO] at h
  split at h
  ·rename_i u hu
   split at h
   ·rename_i us hus
    cases h
    obtain ⟨i, rfl, rfl⟩ := toByte_sound hu
    simp only [flatL, D.flat, List.singleton_append] at hc
    cases cs with
    | nil => have := hc.len; simp at this
    | cons c cs =>
     have hv := VR.ofRaw (VR.ofLeaf hc.head)
     obtain ⟨ns, rfl, rfl, h3⟩ := mapO_byte hus hc.tail
     subst hv
     exact ⟨i :: ns, rfl, rfl, by simp [h3]⟩
   ·cases h
  ·cases h
theorem foldl_push (ns : List Int) : ∀ (acc : ByteArray), ns.foldl (fun r i => r.push (UInt8.ofNat i.toNat)) acc = ⟨acc.data ++ (ns.map fun i => UInt8.ofNat i.toNat).toArray⟩ := by
 induction ns with
 | nil => intro acc; simp
 | cons i ns ih =>
  intro acc
  simp only [List.foldl_cons, ih]
  congr 1
  apply Array.ext'
  simp [ByteArray.push]
theorem leafSh {k : Sc} {x : D} (h : HasSh (.leaf k) x) : ∃ v, x = .raw v ∧ isSc v k = true := by
 cases h with
 | leaf _ v hv => exact ⟨v, rfl, hv⟩
 | agg _ _ h _ _ => simp [Sh.isAgg] at h
theorem eqLeaf_sound {x y : D} {b : Bool} {vx vy : Value} {t : TypeId} {s : Sh} (h : eqD x y = some b) (hx : LR ρ w T x vx) (hy : LR ρ w T y vy) (hsx : HasSh s x)
  (ht : (∃ k, P.underlying t = some (.int k) ∧ s = .leaf (.int k)) ∨ (P.underlying t = some .bool ∧ s = .leaf .bool) ∨ (P.underlying t = some .string ∧ s = .leaf .str)) (d : Nat) :
  (Op.equalIn (d + 1) t vx vy).run P w = .ok b w := by
 rcases ht with ⟨k, ht, rfl⟩ | ⟨ht, rfl⟩ | ⟨ht, rfl⟩
 ·obtain ⟨v, rfl, hv⟩ := leafSh hsx
  have e1 := VR.ofRaw (VR.ofLeaf hx)
  cases v with
  | int k1 i =>
   cases y with
   | raw q =>
    have e2 := VR.ofRaw (VR.ofLeaf hy)
    cases q with
    | int k2 j =>
     simp only [eqD, eqLeaf] at h
     split at h
     ·rename_i hk
      subst hk
      cases h
      rw [e1, e2, run_equalIn_int w d t _ _ _ _ ht]
      rfl
     ·cases h
    | _ => simp [eqD, eqLeaf] at h
   | _ => simp [eqD, eqLeaf] at h
  | _ => simp [isSc] at hv
 ·obtain ⟨v, rfl, hv⟩ := leafSh hsx
  have e1 := VR.ofRaw (VR.ofLeaf hx)
  cases v with
  | bool i =>
   cases y with
   | raw q =>
    have e2 := VR.ofRaw (VR.ofLeaf hy)
    cases q with
    | bool j =>
     simp only [eqD, eqLeaf] at h
     cases h
     rw [e1, e2, run_equalIn_bool' w d t _ _ ht]
    | _ => simp [eqD, eqLeaf] at h
   | _ => simp [eqD, eqLeaf] at h
  | _ => simp [isSc] at hv
 ·obtain ⟨v, rfl, hv⟩ := leafSh hsx
  have e1 := VR.ofRaw (VR.ofLeaf hx)
  cases v with
  | string i =>
   cases y with
   | raw q =>
    have e2 := VR.ofRaw (VR.ofLeaf hy)
    cases q with
    | string j =>
     simp only [eqD, eqLeaf] at h
     cases h
     rw [e1, e2, run_equalIn_string w d t _ _ ht]
    | _ => simp [eqD, eqLeaf] at h
   | _ => simp [eqD, eqLeaf] at h
  | _ => simp [isSc] at hv
theorem partVR {s e : Sh} {l : List D} {cs : Array Value} {i : Nat} {d : D} {t : TypeId} (hsh : HasSh s (.agg s l)) (hc : All2 (LR ρ w T) (flatL l) cs.toList) (he : s.sub i = some e) (hd : l[i]? = some d) (ht : sh P t = some e) (hl : leafOk P t e = true) :
  ∃ v, (part t cs (s.offs i)).run P w = .ok v w ∧ VR ρ w T d v ∧ HasSh e d := by
 obtain ⟨_, ha⟩ := agg_sh hsh
 obtain ⟨d', hd', hsd, hoff⟩ := hsh.part ha he
 rw [hd] at hd'
 cases hd'
 rw [flatL_get hd] at hc
 have g3 := (hc.drop (flatL (List.take i l)).length).take d.flat.length
 rw [List.drop_left, List.take_left, hoff] at g3
 have hlen := g3.len
 exact ⟨_, run_part (w := w) (o' := s.offs i) (ms := (cs.toList.drop (s.offs i)).take d.flat.length) ht hl (by rw [← hlen, hsd.len]) (leaf_one hsd g3) (by rw [← hlen]), VR.ofCells hsd g3, hsd⟩
theorem eqL_cons {l l' : List D} {b : Bool} {i : Nat} (h : eqL (l.drop i) (l'.drop i) = some b) (hi : i < l.length) : ∃ x y t u, l[i]? = some x ∧ l'[i]? = some y ∧ eqD x y = some t ∧ eqL (l.drop (i + 1)) (l'.drop (i + 1)) = some u ∧ b = (t && u) := by
 rw [List.drop_eq_getElem_cons hi] at h
 cases hd : l'.drop i with
 | nil => rw [hd] at h; simp [eqL] at h
 | cons y r =>
  rw [hd] at h
  simp only [eqL] at h
  split at h
  ·rename_i t ht
   split at h
   ·rename_i u hu
    have hy : l'[i]? = some y := by
     have := congrArg (fun q => q[0]?) hd
     simpa using this
    have hr : l'.drop (i + 1) = r := by
     have := congrArg List.tail hd
     simpa using this
    exact ⟨l[i], y, t, u, List.getElem?_eq_getElem hi, hy, ht, by rw [hr]; exact hu, by simpa using h.symm⟩
   ·cases h
  ·cases h
theorem eqD_sound : ∀ (n : Nat) {t : TypeId} {s : Sh} {x y : D} {vx vy : Value} {b : Bool} (d : Nat), eqOk P n t s = true → HasSh s x → HasSh s y → VR ρ w T x vx → VR ρ w T y vy → eqD x y = some b →
  (Op.equalIn (d + n) t vx vy).run P w = .ok b w
 | 0, t, s, x, y, vx, vy, b, d, h, _, _, _, _, _ => by simp [eqOk] at h
 | n + 1, t, s, x, y, vx, vy, b, d, h, hx, hy, hvx, hvy, he => by
  simp only [eqOk] at h
  split at h
  ·rename_i fs hu
   simp only [Bool.and_eq_true, beq_iff_eq, Bool.not_eq_true'] at h
   obtain ⟨⟨⟨h1, h2⟩, h3⟩, h4⟩ := h
   obtain ⟨l, rfl, hl, _⟩ := hx.aggOf h2
   obtain ⟨l', rfl, hl', _⟩ := hy.aggOf h2
   obtain ⟨cs, rfl, _, hcs⟩ := hvx
   obtain ⟨cs', rfl, _, hcs'⟩ := hvy
   have hfo : P.fieldsOf t = fs := by simp [Program.fieldsOf, hu]
   rw [show d + (n + 1) = (d + n) + 1 from rfl, run_equalIn_struct w (d + n) t cs cs' (by rw [hfo]; exact hu) h1, hfo]
   simp only [eqD] at he
   have key : ∀ (gs : List Field) (i : Nat) (b : Bool), i + gs.length = s.count → eqFs P (eqOk P n) s i gs = true → eqL (l.drop i) (l'.drop i) = some b → (Op.eqFields (d + n) cs cs' gs).run P w = .ok b w := by
    intro gs
    induction gs with
    | nil =>
     intro i b hi _ hb
     simp at hi
     rw [List.drop_of_length_le (by omega), List.drop_of_length_le (by omega)] at hb
     simp [eqL] at hb
     subst hb
     simp [Op.eqFields]
    | cons f gs ih =>
     intro i b hi hf hb
     simp only [eqFs, Bool.and_eq_true] at hf
     obtain ⟨⟨⟨f1, f2⟩, f3⟩, f4⟩ := hf
     simp only [List.length_cons] at hi
     obtain ⟨x0, y0, t0, u0, g1, g2, g3, g4, g5⟩ := eqL_cons hb (by omega)
     split at f3
     ·rename_i e hsub
      simp only [Bool.and_eq_true, beq_iff_eq] at f3
      obtain ⟨⟨f5, f6⟩, f7⟩ := f3
      obtain ⟨va, r1, r2, r3⟩ := partVR hx hcs hsub g1 f5 f6
      obtain ⟨vb, r4, r5, r6⟩ := partVR hy hcs' hsub g2 f5 f6
      have r7 := eqD_sound n d f7 r3 r6 r2 r5 g3
      have f1' : f.name ≠ "_" := by simpa using f1
      have f2' : f.offset = s.offs i := by simpa using f2
      simp only [Op.eqFields]
      rw [if_pos f1']
      simp only [f2', Sem.run_bind, r1, r4, r7, Result.andThen_ok]
      cases t0 with
      | false => simp [g5]
      | true => simp [ih (i + 1) u0 (by omega) f4 g4, g5]
     ·cases f3
   exact key fs.toList 0 b (by simpa using h3) h4 he
  ·rename_i m e hu
   split at h
   ·rename_i m' se
    simp only [Bool.and_eq_true, beq_iff_eq] at h
    obtain ⟨⟨⟨rfl, h2⟩, h3⟩, h4⟩ := h
    obtain ⟨l, rfl, hl, _⟩ := hx.aggOf rfl
    obtain ⟨l', rfl, hl', _⟩ := hy.aggOf rfl
    obtain ⟨cs, rfl, _, hcs⟩ := hvx
    obtain ⟨cs', rfl, _, hcs'⟩ := hvy
    obtain ⟨inf, hi, hsz⟩ := sh_info h2
    have hco : P.cellsOf e = se.size := by simp [Program.cellsOf, hi, hsz]
    rw [show d + (n + 1) = (d + n) + 1 from rfl, run_equalIn_array w (d + n) cs cs' hu hi, hco]
    simp only [eqD] at he
    simp [Sh.count] at hl hl'
    have key : ∀ (k i : Nat) (b : Bool), i + k = m → eqL (l.drop i) (l'.drop i) = some b → (Op.eqItems (d + n) e se.size cs cs' (List.range' i k)).run P w = .ok b w := by
     intro k
     induction k with
     | zero =>
      intro i b hi hb
      rw [List.drop_of_length_le (by omega), List.drop_of_length_le (by omega)] at hb
      simp [eqL] at hb
      subst hb
      simp [Op.eqItems]
     | succ k ih =>
      intro i b hi hb
      obtain ⟨x0, y0, t0, u0, g1, g2, g3, g4, g5⟩ := eqL_cons hb (by omega)
      have hsub : (Sh.ar m se).sub i = some se := by simp [Sh.sub]; omega
      obtain ⟨va, r1, r2, r3⟩ := partVR hx hcs hsub g1 h2 h3
      obtain ⟨vb, r4, r5, r6⟩ := partVR hy hcs' hsub g2 h2 h3
      have r7 := eqD_sound n d h4 r3 r6 r2 r5 g3
      have e1 : (Sh.ar m se).offs i = i * se.size := rfl
      rw [e1] at r1 r4
      rw [List.range'_succ]
      simp only [Op.eqItems, Sem.run_bind, r1, r4, r7, Result.andThen_ok]
      cases t0 with
      | false => simp [g5]
      | true => simp [ih (i + 1) u0 (by omega) g4, g5]
    rw [List.range_eq_range']
    exact key m 0 b (by omega) he
   ·cases h
  ·rename_i k hu
   have hk : s = .leaf (.int k) := by simpa using h
   exact eqLeaf_sound he (hvx.toLR (hx.leafOf (by rw [hk]; rfl))) (hvy.toLR (hy.leafOf (by rw [hk]; rfl))) hx (.inl ⟨k, hu, hk⟩) (d + n)
  ·rename_i hu
   have hk : s = .leaf .bool := by simpa using h
   exact eqLeaf_sound he (hvx.toLR (hx.leafOf (by rw [hk]; rfl))) (hvy.toLR (hy.leafOf (by rw [hk]; rfl))) hx (.inr (.inl ⟨hu, hk⟩)) (d + n)
  ·rename_i hu
   have hk : s = .leaf .str := by simpa using h
   exact eqLeaf_sound he (hvx.toLR (hx.leafOf (by rw [hk]; rfl))) (hvy.toLR (hy.leafOf (by rw [hk]; rfl))) hx (.inr (.inr ⟨hu, hk⟩)) (d + n)
  ·cases h
theorem digits_bytes : ∀ (m t : Nat) (acc : Array Value), ∃ l : List (BitVec 8), (Extern.BytealgMakeNoZero.digits m t acc).toList = acc.toList ++ l.map (fun b => Value.int .u8 (b.toNat : Int)) ∧ l.length = m
 | 0, _, acc => ⟨[], by simp [Extern.BytealgMakeNoZero.digits], rfl⟩
 | m + 1, t, acc => by
  obtain ⟨l, h1, h2⟩ := digits_bytes m (t / 256) (acc.push (.int .u8 (Int.ofNat (t % 256))))
  refine ⟨BitVec.ofNat 8 t :: l, ?_, by simp [h2]⟩
  rw [Extern.BytealgMakeNoZero.digits, h1]
  simp
theorem run_mnz {t e : TypeId} (ht : P.underlying t = some (.slice e)) (ps : Array TypeId) (m : Nat) (hm : m ≤ most) (w : World) :
  ∃ (cs : Array Value) (l : List (BitVec 8)), (Extern.BytealgMakeNoZero.makeNoZero ps #[t] #[.int .i64 m]).run P w = .ok (.slice (some ⟨w.heap.size, 0, none⟩) m cs.size) (w.drew.drew.alloc (.cells cs e)) ∧ m ≤ cs.size ∧ cs.toList = l.map fun b => Value.int .u8 (b.toNat : Int) := by
 have e0 : ∃ (q : Question) (s1 s2 : String), q.forced = false ∧ Extern.BytealgMakeNoZero.makeNoZero ps #[t] #[.int .i64 m] = (do
   let .slice el ← underlying t | stuck s1
   if (m : Int) < 0 || (m : Int) > 2 ^ 48 then runtimePanic (.error s2)
   let c ← choose (.appendCap (m : Int).toNat 0 el)
   askRoom c
   let bytes ← choose q
   let ad ← newRow el (Extern.BytealgMakeNoZero.digits c bytes #[])
   pure (.slice (some ad) (m : Int).toNat c)) := by
  refine ⟨_, _, _, ?_, rfl⟩
  rfl
 obtain ⟨q, s1, s2, hq, e0⟩ := e0
 obtain ⟨l, h1, h2⟩ := digits_bytes (grownCap w m 0 e) (q.cut (w.tape (w.drawn + 1) q)) #[]
 have hsz : (Extern.BytealgMakeNoZero.digits (grownCap w m 0 e) (q.cut (w.tape (w.drawn + 1) q)) #[]).size = grownCap w m 0 e := by
  rw [← Array.length_toList, h1]; simpa using h2
 refine ⟨_, l, ?_, ?_, by simpa using h1⟩
 ·have g1 : ¬ (m : Int) < 0 := by omega
  have g2 : ¬ (281474976710656 : Int) < (m : Int) := by rw [most_val] at hm; omega
  rw [hsz, e0]
  have f1 : ∀ a b c, (Question.appendCap a b c).forced = false := fun _ _ _ => rfl
  simp [run_underlying ht, g1, g2, f1, hq, newRow, grownCap]
 ·rw [hsz]
  simpa using grownCap_ge w m 0 e
theorem find_mnz {fn : Func} (h : mnzName fn.name = true) : Extern.find fn = some (Extern.BytealgMakeNoZero.makeNoZero fn.params fn.resultTypes) := by
 obtain ⟨⟩ := fn
 simp [mnzName, Extern.BytealgMakeNoZero.typedRows] at h
 subst h
 kernel_rfl
theorem findNext_mnz {fn : Func} (h : mnzName fn.name = true) (h2 : fn.origin = "") : Extern.findNext fn = none ∧ (fn.name == "runtime.NumGoroutine") = false := by
 obtain ⟨⟩ := fn
 simp [mnzName, Extern.BytealgMakeNoZero.typedRows] at h
 simp only at h2
 subst h
 subst h2
 exact ⟨by kernel_rfl, by simp⟩
section ops
variable (hs : Sim n ρ T env rows a w) (hG : Glob C ρ w T) {o : Oper} {k : D → Rows → Prop}
include hs hG
theorem op_eqa {neg : Bool} {op : BinOp} {t u : TypeId} {s : Sh} {x y : Operand} {x' y' : X} (ho : o.op = .binOp op t x y u) (hop : op = bif neg then .neq else .eql) (hsh : sh P t = some s) (hok : eqOk P 40 t s = true) (hg : P.eqGuardType P.depth t = false)
  (h1 : cX x = some x') (h2 : cX y = some y') (h : aop C env rows (.eqa s neg x' y') k) : OpGoal P n o ρ T env rows a w k := by
 obtain ⟨d, he, k1⟩ := bnd_some h
 have hvx := ev_sound h1 he hs hG
 split at k1
 ·rename_i s1 l
  obtain ⟨d2, he2, k2⟩ := bnd_some k1
  clear k1
  have hvy := ev_sound h2 he2 hs hG
  split at k2
  ·rename_i s2 l'
   obtain ⟨rfl, rfl, k3⟩ := k2
   obtain ⟨b, hb, hk⟩ := bnd_some k3
   clear k3
   obtain ⟨cs, hx, g1, g2⟩ := id hvx
   obtain ⟨cs', hy, g3, g4⟩ := id hvy
   refine .here hs hk (VR.raw rfl) ?_
   have hq := eqD_sound (P := P) (w := w) 40 9960 hok g1 g3 hvx hvy (show eqD (.agg _ l) (.agg _ l') = some b from hb)
   rw [hx, hy] at hq
   have hgd := fun q => run_eqGuard_agg (P := P) w q t x y cs cs' hg
   cases neg with
   | false =>
    simp at hop
    subst hop
    simp only [execOp, ho, hx, hy, Sem.run_bind, hgd, Result.andThen_ok, run_eql_struct]
    rw [show (10000 : Nat) = 9960 + 40 from rfl, hq]
    simp
   | true =>
    simp at hop
    subst hop
    simp only [execOp, ho, hx, hy, Sem.run_bind, hgd, Result.andThen_ok, run_neq_struct]
    rw [show (10000 : Nat) = 9960 + 40 from rfl, hq]
    simp
  ·exact k2.elim
 ·exact k1.elim
theorem op_sslice {t : TypeId} {x : Operand} {lo hi : Option Operand} {x' : X} {lo' hi' : Option X} (ho : o.op = .slice t x lo hi none) (hu : P.underlying t = some .string)
  (h1 : cX x = some x') (h2 : cXo lo = some lo') (h3 : cXo hi = some hi') (h : aop C env rows (.sslice x' lo' hi') k) : OpGoal P n o ρ T env rows a w k := by
 obtain ⟨d, he, k1⟩ := bnd_some h
 split at k1
 ·rename_i b
  obtain ⟨l, hl, k2⟩ := bnd_some k1
  obtain ⟨hh, hhi, k3⟩ := bnd_some k2
  obtain ⟨b1, b2, b3, b4, hk⟩ := k3
  clear k1 k2
  have hx := ev_raw h1 he hs hG
  refine .here hs hk (VR.raw rfl) ?_
  have := run_sliceBounds (P := P) (isSlice := false) (len := b.size) (cap := b.size) (mx := none) (m := none) (L := (l.getD 0).toNat) (H := (hh.getD b.size).toNat) (M := b.size)
   (evo_sound h2 hl hs hG) (evo_sound h3 hhi hs hG) (.inl ⟨rfl, rfl⟩) (by simp) (by omega) (by omega) rfl (by omega) (by omega) (by omega) w
  simp [execOp, ho, hx, Instr.sliceAt, Instr.slice, run_underlying hu, this]
 ·exact k1.elim
theorem op_minmax {c : Call} {mx : Bool} {l' : List X} (ho : o.op = .call c) (hc : c.callee = .builtin (bif mx then .max else .min)) (h1 : cXs c.args.toList = some l') (h : aop C env rows (.minmax mx l') k) : OpGoal P n o ρ T env rows a w k := by
 obtain ⟨ds, he, k1⟩ := bnd_some h
 obtain ⟨⟨kd, m⟩, hm, hk⟩ := bnd_some k1
 clear k1
 have hall := evs_sound hs hG h1 he
 unfold minmaxI at hm
 split at hm
 ·rename_i k0 i0 l
  split at hm
  ·rename_i m' hf
   cases hm
   refine .here hs hk (VR.raw rfl) ?_
   rw [exec_builtin ho hc]
   cases hv : c.args.toList.map a.eval with
   | nil => rw [hv] at hall; have := hall.len; simp at this
   | cons v vs =>
    rw [hv] at hall
    have e1 := VR.ofRaw hall.head
    subst e1
    have hr := mmFold_sound (P := P) hf hall.tail
    cases mx with
    | true => simp only [if_true] at hr; simp [builtin, Builtin.max_, hv, hr]
    | false => simp only [Bool.false_eq_true, if_false] at hr; simp [builtin, Builtin.min_, hv, hr]
  ·cases hm
 ·cases hm
theorem op_b2s {s t e : TypeId} {x : Operand} {x' : X} (ho : o.op = .convert s t x) (hsrc : P.underlying s = some (.slice e)) (he' : P.underlying e = some (.int .u8)) (ht : P.underlying t = some .string) (h1 : cX x = some x')
  (h : aop C env rows (.b2s x') k) : OpGoal P n o ρ T env rows a w k := by
 obtain ⟨d, he, k1⟩ := bnd_some h
 obtain ⟨hss, k2⟩ := k1
 obtain ⟨l, hl, k3⟩ := bnd_some k2
 obtain ⟨N, hN, hlen, k4⟩ := bnd_some k3
 obtain ⟨bs, hbs, hk⟩ := bnd_some k4
 clear k2 k3 k4
 have hv := (ev_sound h1 he hs hG).toLR (elems_leaf hl)
 obtain ⟨ad, cap, cs, hH⟩ := hs.rowsOK.holds hv hl hN hlen hss
 obtain ⟨ns, rfl, rfl, hnl⟩ := mapO_byte hbs hH.hcs
 refine .here hs hk (VR.raw rfl) ?_
 have hx := hH.hv
 cases had : ad with
 | none =>
  have h0 := hH.nil had
  have hc0 := hH.hcap
  have : ns = [] := List.eq_nil_of_length_eq_zero (by omega)
  subst this
  simp only [execOp, ho, hx, had, Sem.run_bind, run_convert_bytes_string w s t e _ _ _ hsrc he' ht]
  simp [Conv.bytesToString]
  rfl
 | some q =>
  have hf := hH.first (P := P) (w' := w) rfl N (Nat.le_refl _)
  rw [← hH.csLen, List.take_length, hx, had] at hf
  simp only [Builtin.firstCells, Sh.size, Nat.mul_one] at hf
  simp only [execOp, ho, hx, had, Sem.run_bind, run_convert_bytes_string w s t e _ _ _ hsrc he' ht, run_bytesToString w q N cap ns hf, Result.andThen_ok]
  rw [foldl_push]
  simp
theorem op_s2b {s t e : TypeId} {x : Operand} {x' : X} (ho : o.op = .convert s t x) (hsrc : P.underlying s = some .string) (ht : P.underlying t = some (.slice e)) (he' : P.underlying e = some (.int .u8)) (h1 : cX x = some x')
  (h : aop C env rows (.s2b x') k) : OpGoal P n o ρ T env rows a w k := by
 obtain ⟨d, he, k1⟩ := bnd_some h
 split at k1
 ·rename_i b
  have hx := ev_raw h1 he hs hG
  have hb : (Lib.bytesWorld w e b).heap = w.heap.push (.cells (Lib.bytesCells w e b) e ((Lib.bytesCells w e b).size, (Lib.bytesCells w e b).size + 1)) := by
   apply Array.ext_getElem?
   intro i
   rw [Array.getElem?_push]
   split
   ·rename_i h; rw [h]; exact Lib.bytesWorld_at_new w e b
   ·rename_i h
    rcases Nat.lt_trichotomy i w.heap.size with h2 | h2 | h2
    ·exact Lib.bytesWorld_at_old w e b i h2
    ·exact absurd h2 h
    ·rw [Array.getElem?_eq_none (by rw [Lib.bytesWorld_size]; omega), Array.getElem?_eq_none (by omega)]
  obtain ⟨g1, g2⟩ := hs.grow (w' := Lib.bytesWorld w e b) _ hb rfl rfl rfl
  obtain ⟨q1, q2⟩ := ofBytes_all (ρ := ρ) (w := Lib.bytesWorld w e b) (T := fun q => T q ∨ q = w.heap.size) b
  have hl : (ofBytes b).length = b.size := by simp [ofBytes]
  refine goal_of (v := .slice (some ⟨w.heap.size, 0, none⟩) b.size (grownCap w b.size 0 e)) k1 g1 g2 ?_ (fun _ => ⟨fun b' hb' => .inl (Lib.bytesWorld_at_old w e b b' hb'), fun q hq => hq.imp_right (fun e => by omega)⟩) ?_
  ·have := LR.mkLst (ρ := ρ) (w := Lib.bytesWorld w e b) (T := fun q => T q ∨ q = w.heap.size) (b := w.heap.size) (o := 0) (cap := grownCap w b.size 0 e) (ex := false) q1 (.inr rfl) q2 (fun j x hx => ?_) (by rw [hl]; exact grownCap_ge w b.size 0 e) (by simp)
   ·rw [hl] at this; exact VR.ofLeaf this
   ·have hj := lt_of_get hx
    simp at hj
    rw [Nat.zero_add, Lib.bytesWorld_cell w e b j hj]
    simp only [List.getElem?_map] at hx
    rw [← hx]
    simp [List.getD, hj]
  ·simp only [execOp, ho, hx, Sem.run_bind, Lib.run_convert_string_bytes w s t e b hsrc ht he', Result.andThen_ok]
   rfl
 ·exact k1.elim
theorem op_eqnil {neg : Bool} {op : BinOp} {t u e : TypeId} {x y : Operand} {x' y' : X} (ho : o.op = .binOp op t x y u) (hop : op = bif neg then .neq else .eql) (ht : P.underlying t = some (.pointer e)) (h1 : cX x = some x') (h2 : cX y = some y')
  (h : aop C env rows (.eqnil neg x' y') k) : OpGoal P n o ρ T env rows a w k := by
 obtain ⟨dx, he, hk⟩ := bnd_some h
 obtain ⟨dy, he2, hk⟩ := bnd_some hk
 have hvx := ev_sound h1 he hs hG
 split at hk
 ·have hy := ev_raw h2 he2 hs hG
  have e0 : Op.maxDepth = 9999 + 1 := rfl
  have hsome : ∀ ad, (Op.equal t (.pointer (some ad)) (.pointer none)).run P w = .ok false w := by
   intro ad
   rw [Op.equal, e0, Op.equalIn]
   simp only [Sem.run_bind, run_underlying ht, Result.andThen_ok, Sem.run_pure]
  have hnone : (Op.equal t (.pointer none) (.pointer none)).run P w = .ok true w := by
   rw [Op.equal, e0, Op.equalIn]
   simp only [Sem.run_bind, run_underlying ht, Result.andThen_ok, Sem.run_pure]
   rfl
  have fin : ∀ ad, a.eval x = .pointer (some ad) → k (.raw (.bool neg)) rows → OpGoal P n o ρ T env rows a w k := by
   intro ad hx hk
   refine .here hs hk (VR.raw rfl) ?_
   cases neg <;> simp at hop <;> subst hop <;> simp only [execOp, ho, hx, hy, binOp] <;> simp [eqGuard, hsome]
  split at hk
  ·have hx := ev_raw h1 he hs hG
   refine .here hs hk (VR.raw rfl) ?_
   cases neg <;> simp at hop <;> subst hop <;> simp only [execOp, ho, hx, hy, binOp] <;> simp [eqGuard, hnone]
  ·have hv' : LR ρ w T _ _ := hvx
   generalize hx : a.eval x = v at hv'
   cases hv' with
   | ptr => exact fin _ hx hk
  ·have hv' : LR ρ w T _ _ := hvx
   generalize hx : a.eval x = v at hv'
   cases hv' with
   | cptr => exact fin _ hx hk
  ·exact hk.elim
 ·exact hk.elim
theorem op_eqsn {neg : Bool} {op : BinOp} {t u e : TypeId} {x y : Operand} {x' y' : X} (ho : o.op = .binOp op t x y u) (hop : op = bif neg then .neq else .eql) (ht : P.underlying t = some (.slice e)) (h1 : cX x = some x') (h2 : cX y = some y')
  (h : aop C env rows (.eqsn neg x' y') k) : OpGoal P n o ρ T env rows a w k := by
 obtain ⟨dx, he, hk⟩ := bnd_some h
 obtain ⟨dy, he2, hk⟩ := bnd_some hk
 have hvx := ev_sound h1 he hs hG
 split at hk
 ·have hy := ev_raw h2 he2 hs hG
  have e0 : Op.maxDepth = 9999 + 1 := rfl
  have hsome : ∀ ad len cap, (Op.equal t (.slice (some ad) len cap) (.slice none 0 0)).run P w = .ok false w := by
   intro ad len cap
   rw [Op.equal, e0, Op.equalIn]
   simp only [Sem.run_bind, run_underlying ht, Result.andThen_ok, Sem.run_pure]
  have hnone : ∀ len cap, (Op.equal t (.slice none len cap) (.slice none 0 0)).run P w = .ok true w := by
   intro len cap
   rw [Op.equal, e0, Op.equalIn]
   simp only [Sem.run_bind, run_underlying ht, Result.andThen_ok, Sem.run_pure]
   rfl
  have fin1 : ∀ ad len cap, a.eval x = .slice (some ad) len cap → k (.raw (.bool neg)) rows → OpGoal P n o ρ T env rows a w k := by
   intro ad len cap hx hk
   refine .here hs hk (VR.raw rfl) ?_
   cases neg <;> simp at hop <;> subst hop <;> simp only [execOp, ho, hx, hy, binOp] <;> simp [eqGuard, hsome]
  have fin0 : ∀ len cap, a.eval x = .slice none len cap → k (.raw (.bool (!neg))) rows → OpGoal P n o ρ T env rows a w k := by
   intro len cap hx hk
   refine .here hs hk (VR.raw rfl) ?_
   cases neg <;> simp at hop <;> subst hop <;> simp only [execOp, ho, hx, hy, binOp] <;> simp [eqGuard, hnone]
  split at hk
  ·exact fin0 0 0 (ev_raw h1 he hs hG) hk
  ·have hv' : LR ρ w T _ _ := hvx
   generalize hx : a.eval x = v at hv'
   cases hv' with
   | lst0 _ _ ad cap =>
    cases ad with
    | none => exact fin0 _ _ hx (hk.1 rfl)
    | some ad => exact fin1 _ _ _ hx hk.2
   | lst => exact fin1 _ _ _ hx hk.2
  ·have hv' : LR ρ w T _ _ := hvx
   generalize hx : a.eval x = v at hv'
   cases hv' with
   | slz _ _ _ _ _ ad =>
    cases ad with
    | none => exact fin0 _ _ hx (hk.1 rfl)
    | some ad => exact fin1 _ _ _ hx hk.2
   | sl => exact fin1 _ _ _ hx hk.2
  ·exact hk.elim
 ·exact hk.elim
theorem op_mnz {c : Call} {f : FuncId} {fn : Func} {x : Operand} {x' : X} {t e : TypeId} (ho : o.op = .call c) (hc : c.callee = .value (.func f)) (hf : P.funcs[f]? = some fn) (hb : fn.body.isSome = false)
  (hn : mnzName fn.name = true) (hn2 : fn.origin = "") (ha : c.args.toList = [x]) (hr : fn.resultTypes.toList = [t]) (ht : P.underlying t = some (.slice e)) (hsh : sh P e = some (.leaf u8s)) (h1 : cX x = some x')
  (h : aop C env rows (.mnz x') k) : OpGoal P n o ρ T env rows a w k := by
 obtain ⟨d, he, hk⟩ := bnd_some h
 split at hk
 ·rename_i kd m
  have hx := ev_raw h1 he hs hG
  obtain ⟨rfl, b1, b2, hk⟩ := hk
  obtain ⟨m0, rfl⟩ := Int.eq_ofNat_of_zero_le b1
  have hm0 : m0 ≤ most := by have := b2; omega
  obtain ⟨cs, l, r1, r2, r3⟩ := run_mnz (P := P) ht fn.params m0 hm0 w
  have hl : m0 ≤ l.length := by
   have : cs.toList.length = l.length := by rw [r3]; simp
   simp at this; omega
  have hargs : c.args = #[x] := by apply Array.ext'; simpa using ha
  have hres : fn.resultTypes = #[t] := by apply Array.ext'; simpa using hr
  have hk' := hk (l.take m0) (by simp; omega)
  have hels : ∀ d ∈ (l.take m0).map (fun b => D.raw (.int .u8 (b.toNat : Int))), HasSh L8 d := fun d hd => by
   obtain ⟨b, _, rfl⟩ := List.mem_map.1 hd
   exact .leaf _ _ rfl
  have hfl : ∀ l : List (BitVec 8), flatL (l.map fun b => D.raw (.int .u8 (b.toNat : Int))) = l.map fun b => D.raw (.int .u8 (b.toNat : Int)) := by
   intro l
   induction l with
   | nil => rfl
   | cons b l ih => simp [flatL, D.flat, ih]
  have hall : ∀ l : List (BitVec 8), All2 (LR ρ w T) (l.map fun b => D.raw (.int .u8 (b.toNat : Int))) (l.map fun b => Value.int .u8 (b.toNat : Int)) := by
   intro l
   induction l with
   | nil => exact .nil
   | cons b l ih => exact .cons (.raw _ rfl) ih
  obtain ⟨q1, q2⟩ := (hs.heap (w' := w.drew.drew) rfl).push (w' := w.drew.drew.alloc (.cells cs e)) ⟨L8, (l.take m0).map fun b => D.raw (.int .u8 (b.toNat : Int))⟩ cs e rfl rfl rfl rfl hels (by rw [hfl]; simp; omega) (by
   rw [hfl, r3]
   have e1 : ((l.take m0).map fun b => D.raw (.int .u8 (b.toNat : Int))).length = m0 := by simp; omega
   rw [e1, ← List.map_take]
   exact (hall (l.take m0)).mono fun a b h => h.mono (fun _ _ h => h) (fun _ _ => rfl) (fun _ h => h))
  refine goal_of (v := .slice (some ⟨w.heap.size, 0, none⟩) m0 cs.size) hk' q1 ⟨q2.pl, q2.tt, q2.tnew, q2.size, q2.keep, q2.fresh, q2.os, q2.tape, q2.output, q2.len, q2.same⟩ ?_ (fun _ => ⟨fun b hb => .inl (push_old (w := w.drew.drew) hb), fun _ h => .inl h⟩) ?_
  ·have := LR.sl (ρ := upd ρ rows.length ⟨w.heap.size, L8, cs.size, false⟩) (w := w.drew.drew.alloc (.cells cs e)) (T := T) L8 rows.length [] 0 m0 false ⟨w.heap.size, L8, cs.size, false⟩ cs.size (by simp [upd]) r2 (by simp) (.inl ⟨rfl, rfl, rfl, by simp [Sh.size]⟩)
   simpa [Loc.off] using VR.ofLeaf this
  ·have hb' : fn.body.isNone = true := by cases hq : fn.body <;> simp_all
   have hx' : c.args.map a.eval = #[Value.int .i64 m0] := by rw [hargs]; simp [hx]
   have he := find_mnz hn
   rw [hres] at he
   have := run_callFunc_extern hf (findNext_mnz hn hn2).2 hb' (findNext_mnz hn hn2).1 he #[.int .i64 m0] w
   rw [r1] at this
   simp [execOp, ho, resolve, hc, Act.eval, Deferred.ofValue, invoke]
   rw [hx', this]
   rfl
 ·exact hk.elim
theorem op_s2a {t e : TypeId} {m : Nat} {x : Operand} {x' : X} {s : Sh} (ho : o.op = .sliceToArrayPointer t x) (ht : P.underlying t = some (.array m e)) (h1 : cX x = some x')
  (h : aop C env rows (.s2a m s x') k) : OpGoal P n o ρ T env rows a w k := by
 obtain ⟨d, he, hk⟩ := bnd_some h
 have hv := ev_sound h1 he hs hG
 have hrun : ∀ ad len cap, m ≤ len → (Instr.arrayAt t (.slice ad len cap)).run P w = .ok (.pointer ad) w := by
  intro ad len cap hlen
  simp [Instr.arrayAt, run_underlying ht, Nat.not_lt.2 hlen]
 split at hk
 ·rename_i t' r p off len ex
  obtain ⟨rfl, hn, h0, hk⟩ := hk
  have hv' : LR ρ w T (.sl t' r p off len ex) _ := hv
  generalize hx : a.eval x = v at hv'
  cases hv' with
  | slz => omega
  | sl _ _ _ _ _ _ L cap hL g1 g2 g3 =>
   refine .here hs hk (VR.ofLeaf (.aptr m t' r p off L hL ?_)) (v := .pointer (some ⟨L.b, L.off p + off * t'.size, none⟩)) ?_
   ·rcases g3 with ⟨q1, q2, q3⟩ | ⟨q, q1, q2⟩
    ·exact .inl ⟨q1, q2, q3.1, Nat.le_trans (Nat.mul_le_mul_right _ (by omega)) q3.2⟩
    ·exact .inr ⟨q, q1, by omega⟩
   ·simp [execOp, ho, hx, hrun _ _ _ hn]
 ·rename_i t' l ex
  obtain ⟨rfl, hn, h0, hk⟩ := hk
  have hv' : LR ρ w T (.lst t' l ex) _ := hv
  generalize hx : a.eval x = v at hv'
  cases hv' with
  | lst0 => simp at hn; omega
  | lst _ _ _ b o' cap f c1 hb c2 c3 c4 c5 =>
   obtain ⟨q1, q2⟩ := lr_at (d := default) c2 c3
   have hsub : flatL (l.take m) = (flatL l).take (flatL (l.take m)).length := by
    have : flatL l = flatL (l.take m) ++ flatL (l.drop m) := by rw [← flatL_append, List.take_append_drop]
    rw [this, List.take_left]
   have hels : ∀ d ∈ l.take m, HasSh t' d := fun d hd => c1 d (List.mem_of_mem_take hd)
   have hsh : HasSh (.ar m t') (.agg (.ar m t') (l.take m)) := .agg _ _ rfl (by simp [Sh.count]; omega) (fun i e d hi hd => by
    simp only [Sh.sub] at hi
    split at hi
    ·cases hi; exact hels d (mem_of_get hd)
    ·cases hi)
   have q3 := q1.take (flatL (l.take m)).length
   rw [← hsub] at q3
   refine .here hs hk (VR.ofLeaf (LR.mkCptr hsh hb (by simpa [D.flat] using q3) (q2.take _))) ?_
   simp [execOp, ho, hx, hrun _ _ _ hn]
 ·exact hk.elim
end ops
end Go.Am
namespace Go.Am
set_option linter.unusedVariables false
set_option linter.unusedSimpArgs false
variable {C : Ctx} {P : Program} {n : Nat} {ρ : Pl} {T : Nat → Prop} {env : Env} {rows : Rows} {a : Act} {w : World}
def noPl : Pl := fun _ => none
theorem pure_flat {s : Sh} {d : D} (h : HasSh s d) (hp : s.pure = true) : ∀ x ∈ d.flat, ∃ v, x = .raw v := by
 induction h with
 | leaf k v hv => intro x hx; simp [D.flat] at hx; exact ⟨v, hx⟩
 | ref d hd => simp [Sh.pure] at hp
 | agg s l ha hl hsub ih =>
  intro x hx
  simp only [D.flat] at hx
  have key : ∀ (s : Sh) (l : List D), s.isAgg = true → s.pure = true → l.length = s.count → (∀ i e d, s.sub i = some e → l[i]? = some d → e.pure = true → ∀ x ∈ d.flat, ∃ v, x = .raw v) → ∀ x ∈ flatL l, ∃ v, x = .raw v := by
   intro s
   induction s with
   | leaf _ => intro l h; simp [Sh.isAgg] at h
   | ref => intro l h; simp [Sh.isAgg] at h
   | nil => intro l _ _ hl _ x hx; simp [Sh.count] at hl; subst hl; simp [flatL] at hx
   | cons a b _ ihb =>
    intro l ha hp hl h x hx
    cases l with
    | nil => simp [flatL] at hx
    | cons d l =>
     simp only [Sh.pure, Bool.and_eq_true] at hp
     simp only [flatL, List.mem_append] at hx
     rcases hx with hx | hx
     ·exact h 0 a d rfl rfl hp.1 x hx
     ·exact ihb l (by simpa [Sh.isAgg] using ha) hp.2 (by simpa [Sh.count] using hl) (fun i e d' h1 h2 => h (i + 1) e d' (by simpa [Sh.sub] using h1) (by simpa using h2)) x hx
   | ar m e _ =>
    intro l _ hp hl h x hx
    simp [Sh.count] at hl
    clear ih
    have : ∀ (l : List D) (k : Nat), (∀ (i : Nat) (d : D), l[i]? = some d → ∀ x ∈ d.flat, ∃ v, x = D.raw v) → ∀ x ∈ flatL l, ∃ v, x = D.raw v := by
     intro l
     induction l with
     | nil => intro _ _ x hx; simp [flatL] at hx
     | cons d l ih =>
      intro k h x hx
      simp only [flatL, List.mem_append] at hx
      rcases hx with hx | hx
      ·exact h 0 d rfl x hx
      ·exact ih k (fun i d' hd' => h (i + 1) d' (by simpa using hd')) x hx
    exact this l 0 (fun i d hd => h i e d (by simp [Sh.sub]; have := lt_of_get hd; omega) hd (by simpa [Sh.pure] using hp)) x hx
  exact key s l ha hp hl (fun i e d h1 h2 h3 => ih i e d h1 h2 h3) x hx
theorem pure_flatL {s : Sh} {l : List D} (h : ∀ d ∈ l, HasSh s d) (hp : s.pure = true) : ∀ x ∈ flatL l, ∃ v, x = .raw v := by
 induction l with
 | nil => intro x hx; simp [flatL] at hx
 | cons d l ih =>
  intro x hx
  simp only [flatL, List.mem_append] at hx
  rcases hx with hx | hx
  ·exact pure_flat (h d (by simp)) hp x hx
  ·exact ih (fun e he => h e (by simp [he])) x hx
theorem LR.ofRaw {ρ' : Pl} {w' : World} {T' : Nat → Prop} {d : D} {v : Value} (h : LR ρ w T d v) (hr : ∃ x, d = .raw x) : LR ρ' w' T' d v := by
 obtain ⟨x, rfl⟩ := hr
 cases h
 rename_i h
 exact .raw _ h
theorem All2.ofRaw {ρ' : Pl} {w' : World} {T' : Nat → Prop} {l : List D} {cs : List Value} (h : All2 (LR ρ w T) l cs) (hr : ∀ x ∈ l, ∃ v, x = .raw v) : All2 (LR ρ' w' T') l cs :=
 ⟨h.len, fun i x y hx hy => (h.at_ i x y hx hy).ofRaw (hr x (mem_of_get hx))⟩
theorem hasRefL_mem : ∀ {l : List D}, hasRefL l = false → ∀ d ∈ l, hasRef d = false
 | [], _, d, hd => by simp at hd
 | x :: l, h, d, hd => by
  simp [hasRefL] at h
  rcases List.mem_cons.1 hd with rfl | hd
  ·exact h.1
  ·exact hasRefL_mem h.2 d hd
theorem hasRef_flat {s : Sh} {d : D} (h : HasSh s d) (hr : hasRef d = false) : ∀ x ∈ d.flat, hasRef x = false := by
 induction h with
 | leaf k v hv => intro x hx; simp [D.flat] at hx; subst hx; rfl
 | ref d hd => rw [leaf_flat hd]; intro x hx; simp at hx; subst hx; exact hr
 | agg s l ha hl hsub ih =>
  simp only [hasRef] at hr
  cases hp : s.pure with
  | true =>
   intro x hx
   obtain ⟨v, rfl⟩ := pure_flat (HasSh.agg s l ha hl hsub) hp x hx
   rfl
  | false =>
   simp [hp] at hr
   intro x hx
   simp only [D.flat] at hx
   have hm := hasRefL_mem hr
   have : ∀ (l : List D), (∀ d ∈ l, ∀ x ∈ d.flat, hasRef x = false) → ∀ x ∈ flatL l, hasRef x = false := by
    intro l
    induction l with
    | nil => intro _ x hx; simp [flatL] at hx
    | cons d l ih =>
     intro h x hx
     simp only [flatL, List.mem_append] at hx
     rcases hx with hx | hx
     ·exact h d (by simp) x hx
     ·exact ih (fun e he => h e (by simp [he])) x hx
   refine this l (fun d hd => ?_) x hx
   obtain ⟨i, hi, rfl⟩ := List.mem_iff_getElem.1 hd
   obtain ⟨e, he⟩ := count_sub (s := s) (i := i) (by omega)
   exact ih i e _ he (List.getElem?_eq_getElem hi) (hm _ hd)
theorem hasRef_flatL {s : Sh} {l : List D} (h : ∀ d ∈ l, HasSh s d) (hr : hasRefL l = false) : ∀ x ∈ flatL l, hasRef x = false := by
 induction l with
 | nil => intro x hx; simp [flatL] at hx
 | cons d l ih =>
  simp [hasRefL] at hr
  intro x hx
  simp only [flatL, List.mem_append] at hx
  rcases hx with hx | hx
  ·exact hasRef_flat (h d (by simp)) hr.1 x hx
  ·exact ih (fun e he => h e (by simp [he])) hr.2 x hx
theorem LR.closed {d : D} {v : Value} (h : LR ρ w T d v) (hr : hasRef d = false) : LR noPl w T d v := by
 induction h with
 | raw v hv => exact .raw v hv
 | ptr => simp [hasRef] at hr
 | sl => simp [hasRef] at hr
 | slz => simp [hasRef] at hr
 | aptr => simp [hasRef] at hr
 | mp => simp [hasRef] at hr
 | om s l b es clock h1 h2 h3 h4 => exact .om s l b es clock h1 h2 h3 h4
 | lst0 s ex a cap h1 h2 => exact .lst0 s ex a cap h1 h2
 | lst s l ex b o cap f h1 hb h2 h3 h4 h5 ih =>
  refine .lst s l ex b o cap f h1 hb h2 (fun i d hd => ?_) h4 h5
  simp only [hasRef] at hr
  cases hp : s.pure with
  | true => exact (h3 i d hd).ofRaw (pure_flatL h1 hp d (mem_of_get hd))
  | false =>
   simp [hp] at hr
   exact ih i d hd (hasRef_flatL h1 hr d (mem_of_get hd))
 | cptr s d b o f h1 hb h2 h3 ih =>
  simp only [hasRef] at hr
  exact .cptr s d b o f h1 hb h2 (fun i x hx => ih i x hx (hasRef_flat h1 hr x (mem_of_get hx)))
theorem VR1.closed {d : D} {v : Value} (h : VR1 ρ w T d v) (hr : hasRef d = false) : VR1 noPl w T d v := by
 cases d with
 | agg s l =>
  obtain ⟨cs, rfl, h1, h2⟩ := h
  have := hasRef_flat h1 hr
  simp only [D.flat] at this
  exact ⟨cs, rfl, h1, h2.len, fun i x y hx hy => (h2.at_ i x y hx hy).closed (this x (mem_of_get hx))⟩
 | _ => exact LR.closed h hr
theorem VR.closed {d : D} {v : Value} (h : VR ρ w T d v) (hr : hasRef d = false) : VR noPl w T d v := by
 cases d with
 | tup l =>
  obtain ⟨vs, rfl, h1⟩ := h
  simp only [hasRef] at hr
  exact ⟨vs, rfl, h1.len, fun i x y hx hy => (h1.at_ i x y hx hy).closed (hasRefL_mem hr x (mem_of_get hx))⟩
 | agg s l => exact VR1.closed (d := .agg s l) h hr
 | _ => exact LR.closed h hr
theorem noLstL_mem : ∀ {l : List D}, noLstL l = true → ∀ d ∈ l, noLst d = true
 | [], _, d, hd => by simp at hd
 | x :: l, h, d, hd => by
  simp [noLstL] at h
  rcases List.mem_cons.1 hd with rfl | hd
  ·exact h.1
  ·exact noLstL_mem h.2 d hd
theorem LR.noLst {T' : Nat → Prop} {w' : World} {d : D} {v : Value} (h : LR ρ w T d v) (hr : noLst d = true) : LR ρ w' T' d v := by
 cases h with
 | raw v hv => exact .raw v hv
 | ptr s r p L h1 h2 => exact .ptr s r p L h1 h2
 | sl s r p off len ex L cap h1 h2 h3 h4 => exact .sl s r p off len ex L cap h1 h2 h3 h4
 | slz s r p off ex a => exact .slz s r p off ex a
 | aptr n s r p off L h1 h2 => exact .aptr n s r p off L h1 h2
 | mp r L h1 h2 => exact .mp r L h1 h2
 | om => simp [Am.noLst] at hr
 | lst0 => simp [Am.noLst] at hr
 | lst => simp [Am.noLst] at hr
 | cptr => simp [Am.noLst] at hr
theorem noLst_flat {s : Sh} {d : D} (h : HasSh s d) (hr : noLst d = true) : ∀ x ∈ d.flat, noLst x = true := by
 induction h with
 | leaf k v hv => intro x hx; simp [D.flat] at hx; subst hx; rfl
 | ref d hd => rw [leaf_flat hd]; intro x hx; simp at hx; subst hx; exact hr
 | agg s l ha hl hsub ih =>
  simp only [noLst] at hr
  cases hp : s.pure with
  | true =>
   intro x hx
   obtain ⟨v, rfl⟩ := pure_flat (HasSh.agg s l ha hl hsub) hp x hx
   rfl
  | false =>
   simp [hp] at hr
   intro x hx
   simp only [D.flat] at hx
   have hm := noLstL_mem hr
   have : ∀ (l : List D), (∀ d ∈ l, ∀ x ∈ d.flat, noLst x = true) → ∀ x ∈ flatL l, noLst x = true := by
    intro l
    induction l with
    | nil => intro _ x hx; simp [flatL] at hx
    | cons d l ih =>
     intro h x hx
     simp only [flatL, List.mem_append] at hx
     rcases hx with hx | hx
     ·exact h d (by simp) x hx
     ·exact ih (fun e he => h e (by simp [he])) x hx
   refine this l (fun d hd => ?_) x hx
   obtain ⟨i, hi, rfl⟩ := List.mem_iff_getElem.1 hd
   obtain ⟨e, he⟩ := count_sub (s := s) (i := i) (by omega)
   exact ih i e _ he (List.getElem?_eq_getElem hi) (hm _ hd)
theorem VR1.noLst {T' : Nat → Prop} {w' : World} {d : D} {v : Value} (h : VR1 ρ w T d v) (hr : noLst d = true) : VR1 ρ w' T' d v := by
 cases d with
 | agg s l =>
  obtain ⟨cs, rfl, h1, h2⟩ := h
  have := noLst_flat h1 hr
  simp only [D.flat] at this
  exact ⟨cs, rfl, h1, h2.len, fun i x y hx hy => (h2.at_ i x y hx hy).noLst (this x (mem_of_get hx))⟩
 | _ => exact LR.noLst h hr
theorem VR.noLst {T' : Nat → Prop} {w' : World} {d : D} {v : Value} (h : VR ρ w T d v) (hr : noLst d = true) : VR ρ w' T' d v := by
 cases d with
 | tup l =>
  obtain ⟨vs, rfl, h1⟩ := h
  simp only [Am.noLst] at hr
  exact ⟨vs, rfl, h1.len, fun i x y hx hy => (h1.at_ i x y hx hy).noLst (noLstL_mem hr x (mem_of_get hx))⟩
 | agg s l => exact VR1.noLst (d := .agg s l) h hr
 | _ => exact LR.noLst h hr
theorem shift_leaf {k : Nat} {d : D} (h : d.isLeaf = true) : (shift k d).isLeaf = true := by
 cases d with
 | lst s l e => simp only [shift]; cases s.pure <;> rfl
 | raw v => exact h
 | agg => simp [D.isLeaf] at h
 | tup => simp [D.isLeaf] at h
 | _ => rfl
theorem shiftL_len (k : Nat) : ∀ (l : List D), (shiftL k l).length = l.length
 | [] => rfl
 | d :: l => by simp [shiftL, shiftL_len k l]
theorem shiftL_get (k : Nat) : ∀ (l : List D) (i : Nat), (shiftL k l)[i]? = (l[i]?).map (shift k)
 | [], i => by simp [shiftL]
 | d :: l, 0 => by simp [shiftL]
 | d :: l, i + 1 => by simp [shiftL, shiftL_get k l i]
theorem map_id_raw {k : Nat} {l : List D} (h : ∀ x ∈ l, ∃ v, x = .raw v) : l.map (shift k) = l := by
 have : l.map (shift k) = l.map id := by
  apply List.map_congr_left
  intro x hx
  obtain ⟨v, rfl⟩ := h x hx
  simp [shift]
 rw [this, List.map_id]
theorem shift_sh {k : Nat} {s : Sh} {d : D} (h : HasSh s d) : HasSh s (shift k d) ∧ (shift k d).flat = d.flat.map (shift k) := by
 induction h with
 | leaf j v hv => exact ⟨by simp only [shift]; exact .leaf j v hv, by simp [shift, D.flat]⟩
 | ref d hd => exact ⟨.ref _ (shift_leaf hd), by rw [leaf_flat hd, leaf_flat (shift_leaf hd)]; rfl⟩
 | agg s l ha hl hsub ih =>
  simp only [shift]
  cases hp : s.pure with
  | true =>
   have hr := pure_flat (HasSh.agg s l ha hl hsub) hp
   simp only [cond_true]
   exact ⟨.agg s l ha hl hsub, (map_id_raw hr).symm⟩
  | false =>
   simp only [cond_false]
   refine ⟨.agg s _ ha (by rw [shiftL_len]; exact hl) (fun i e d hi hd => ?_), ?_⟩
   ·rw [shiftL_get] at hd
    cases hx : l[i]? with
    | none => simp [hx] at hd
    | some x =>
     simp [hx] at hd
     subst hd
     exact (ih i e x hi hx).1
   ·simp only [D.flat]
    have : ∀ (l : List D), (∀ d ∈ l, (shift k d).flat = d.flat.map (shift k)) → flatL (shiftL k l) = (flatL l).map (shift k) := by
     intro l
     induction l with
     | nil => intro _; simp [shiftL, flatL]
     | cons d l ih =>
      intro h
      simp only [shiftL, flatL, List.map_append]
      rw [h d (by simp), ih (fun e he => h e (by simp [he]))]
    refine this l (fun d hd => ?_)
    obtain ⟨i, hi, rfl⟩ := List.mem_iff_getElem.1 hd
    obtain ⟨e, he⟩ := count_sub (s := s) (i := i) (by omega)
    exact (ih i e _ he (List.getElem?_eq_getElem hi)).2
theorem shift_shL {k : Nat} {s : Sh} : ∀ {l : List D}, (∀ d ∈ l, HasSh s d) → (∀ d ∈ shiftL k l, HasSh s d) ∧ flatL (shiftL k l) = (flatL l).map (shift k)
 | [], _ => ⟨by simp [shiftL], by simp [shiftL, flatL]⟩
 | d :: l, h => by
  obtain ⟨h1, h2⟩ := shift_shL (k := k) (l := l) (fun e he => h e (by simp [he]))
  obtain ⟨h3, h4⟩ := shift_sh (k := k) (h d (by simp))
  refine ⟨fun x hx => ?_, by simp [shiftL, flatL, h2, h4]⟩
  simp only [shiftL, List.mem_cons] at hx
  rcases hx with rfl | hx
  ·exact h3
  ·exact h1 x hx
def joinPl (k : Nat) (ρ ρ' : Pl) : Pl := fun r => if r < k then ρ r else ρ' (r - k)
theorem LR.shift {ρ' : Pl} {d : D} {v : Value} (k : Nat) (ρ0 : Pl) (h : LR ρ' w T d v) : LR (joinPl k ρ0 ρ') w T (Am.shift k d) v := by
 induction h with
 | raw v hv => exact .raw v hv
 | ptr s r p L h1 h2 => exact .ptr s (r + k) p L (by simp [joinPl, show ¬ (r + k < k) by omega, h1]) h2
 | sl s r p off len ex L cap h1 h2 h3 h4 => exact .sl s (r + k) p off len ex L cap (by simp [joinPl, show ¬ (r + k < k) by omega, h1]) h2 h3 h4
 | slz s r p off ex a => exact .slz s (r + k) p off ex a
 | aptr n s r p off L h1 h2 => exact .aptr n s (r + k) p off L (by simp [joinPl, show ¬ (r + k < k) by omega, h1]) h2
 | mp r L h1 h2 => exact .mp (r + k) L (by simp [joinPl, show ¬ (r + k < k) by omega, h1]) h2
 | om s l b es clock h1 h2 h3 h4 => exact .om s l b es clock h1 h2 h3 h4
 | lst0 s ex a cap h1 h2 =>
  simp only [Am.shift, shiftL]
  cases s.pure <;> exact .lst0 s ex a cap h1 h2
 | lst s l ex b o cap f h1 hb h2 h3 h4 h5 ih =>
  simp only [Am.shift]
  cases hp : s.pure with
  | true => exact .lst s l ex b o cap f h1 hb h2 (fun i d hd => (h3 i d hd).ofRaw (pure_flatL h1 hp d (mem_of_get hd))) h4 h5
  | false =>
   simp only [cond_false]
   obtain ⟨g1, g2⟩ := shift_shL (k := k) h1
   have hl := shiftL_len k l
   have : LR (joinPl k ρ0 ρ') w T (.lst s (shiftL k l) ex) (.slice (some ⟨b, o, none⟩) (shiftL k l).length cap) := by
    refine .lst s _ ex b o cap f g1 hb (fun i d hd => ?_) (fun i d hd => ?_) (by omega) (by rw [hl]; exact h5)
    ·rw [g2, List.getElem?_map] at hd
     cases hx : (flatL l)[i]? with
     | none => simp [hx] at hd
     | some x => exact h2 i x hx
    ·rw [g2, List.getElem?_map] at hd
     cases hx : (flatL l)[i]? with
     | none => simp [hx] at hd
     | some x =>
      simp [hx] at hd
      subst hd
      exact ih i x hx
   rwa [hl] at this
 | cptr s d b o f h1 hb h2 h3 ih =>
  obtain ⟨g1, g2⟩ := shift_sh (k := k) h1
  simp only [Am.shift]
  refine .cptr s _ b o f g1 hb (fun i x hx => ?_) (fun i x hx => ?_)
  ·rw [g2, List.getElem?_map] at hx
   cases hy : d.flat[i]? with
   | none => simp [hy] at hx
   | some y => exact h2 i y hy
  ·rw [g2, List.getElem?_map] at hx
   cases hy : d.flat[i]? with
   | none => simp [hy] at hx
   | some y =>
    simp [hy] at hx
    subst hx
    exact ih i y hy
theorem All2.shift {ρ' : Pl} {l : List D} {cs : List Value} (k : Nat) (ρ0 : Pl) (h : All2 (LR ρ' w T) l cs) : All2 (LR (joinPl k ρ0 ρ') w T) (l.map (Am.shift k)) cs := by
 refine ⟨by simp [h.len], fun i x y hx hy => ?_⟩
 rw [List.getElem?_map] at hx
 cases hz : l[i]? with
 | none => simp [hz] at hx
 | some z =>
  simp [hz] at hx
  subst hx
  exact (h.at_ i z y hz hy).shift k ρ0
theorem VR1.shift {ρ' : Pl} {d : D} {v : Value} (k : Nat) (ρ0 : Pl) (h : VR1 ρ' w T d v) : VR1 (joinPl k ρ0 ρ') w T (Am.shift k d) v := by
 cases d with
 | agg s l =>
  obtain ⟨cs, rfl, h1, h2⟩ := h
  obtain ⟨g1, g2⟩ := shift_sh (k := k) h1
  have h3 : All2 (LR ρ' w T) (D.agg s l).flat cs.toList := by simpa [D.flat] using h2
  have h4 := h3.shift k ρ0
  rw [← g2] at h4
  have ha := (agg_sh h1).2
  exact VR1.ofAgg g1 ha h4
 | tup l => cases h
 | _ => exact VR1.ofLeaf (LR.shift k ρ0 h)
theorem VR.shift {ρ' : Pl} {d : D} {v : Value} (k : Nat) (ρ0 : Pl) (h : VR ρ' w T d v) : VR (joinPl k ρ0 ρ') w T (Am.shift k d) v := by
 cases d with
 | tup l =>
  obtain ⟨vs, rfl, h1⟩ := h
  refine ⟨vs, rfl, by rw [shiftL_len]; exact h1.len, fun i x y hx hy => ?_⟩
  rw [shiftL_get] at hx
  cases hz : l[i]? with
  | none => simp [hz] at hx
  | some z =>
   simp [hz] at hx
   subst hx
   exact (h1.at_ i z y hz hy).shift k ρ0
 | agg s l => exact VR.ofVR1 (VR1.shift (d := .agg s l) k ρ0 h)
 | _ => exact VR.ofLeaf (LR.shift k ρ0 h)
theorem op_frzb (hs : Sim n ρ T env rows a w) (hG : Glob C ρ w T) {o : Oper} {k : D → Rows → Prop} {t e : TypeId} {x : Operand} {x' : X} {s : Sh} (ho : o.op = .convert t t x) (ht : P.underlying t = some (.slice e)) (he8 : P.underlying e = some (.int .u8)) (h1 : cX x = some x')
  (h : aop C env rows (.frzb s x') k) : OpGoal P n o ρ T env rows a w k := by
 obtain ⟨d, he, hk⟩ := bnd_some h
 have hv := ev_sound h1 he hs hG
 split at hk
 ·rename_i t' r off len ex
  obtain ⟨rfl, h0, hk⟩ := hk
  obtain ⟨row, hl, hk⟩ := bnd_some hk
  obtain ⟨hle, hk⟩ := hk
  have hv' : LR ρ w T (.sl t' r [] off len ex) _ := hv
  generalize hx : a.eval x = v at hv'
  cases hv' with
  | slz => omega
  | sl _ _ _ _ _ _ L cap hL g1 g2 g3 =>
   have hr := hs.rowsOK.row r row L hl hL
   obtain ⟨cur, tt, ⟨fr, c1, c0⟩, c2, c3, c4⟩ := hr.cells (LR.slCell g3)
   let w' : World := w.freeze ⟨L.b, cur.size, none⟩ 1
   have hw' : ∀ b, b ≠ L.b → w'.heap[b]? = w.heap[b]? := by
    intro b hb
    show (w.freeze ⟨L.b, cur.size, none⟩ 1).heap[b]? = _
    simp only [World.freeze, Nat.succ_ne_zero, if_false, Array.getElem?_modify]
    rw [if_neg (fun e => hb e.symm)]
   have hfr : FrOnly w w' L.b := by
    refine ⟨cur, tt, fr, (if fr.1 == fr.2 then (cur.size, cur.size + 1) else (min fr.1 cur.size, max fr.2 (cur.size + 1))), c1, ?_, ?_⟩
    ·show (w.freeze ⟨L.b, cur.size, none⟩ 1).heap[L.b]? = _
     simp only [World.freeze, Nat.succ_ne_zero, if_false, Array.getElem?_modify, c1]
     simp
    ·split
     ·exact .inr (Nat.le_refl _)
     ·rename_i hne
      rcases c0 with c0 | c0
      ·rw [c0] at hne; simp at hne
      ·exact .inr (by simp; omega)
   have hsz : w'.heap.size = w.heap.size := by
    show (w.freeze ⟨L.b, cur.size, none⟩ 1).heap.size = _
    simp [World.freeze]
   obtain ⟨g4, g5⟩ := hs.mark (w' := w') hl hL hsz hw' hfr rfl rfl rfl
   refine goal_of (v := .slice (some ⟨L.b, L.off [] + off * t'.size, none⟩) len cap) hk g4 g5 (VR.ofLeaf (.sl _ _ _ _ _ _ L cap hL g1 g2 g3)) (fun _ => ⟨fun b hb => ?_, fun _ h => .inl h⟩) ?_
   ·by_cases e : b = L.b
    ·exact .inr ⟨e ▸ hfr, r, row, L, hl, hL, e.symm⟩
    ·exact .inl (hw' b e)
   ·have hshape : w.shape? L.b = some (tt, cur.size) := by simp [World.shape?, c1]
    simp only [execOp, ho, hx, Sem.run_bind, convert, run_underlying ht, run_underlying he8, Result.andThen_ok, beq_self_eq_true, markStringish]
    simp [shape, freeze, Sem.run, Sem.bind, hshape]
    rfl
 ·exact hk.elim
end Go.Am
