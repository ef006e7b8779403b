import Derived.Test.YtpepmhbdblldeaaDoorPg5
import Derived.MapKept
import Derived.LoopN
namespace Go.Am
set_option linter.unusedVariables false
set_option linter.unusedSimpArgs false
variable {C : Ctx} {P : Program} {n : Nat} {ρ : Pl} {T : Nat → Prop} {env : Env} {rows : Rows} {a : Act} {w : World}
def KeySh (s : Sh) : Prop := s = .leaf .str ∨ (s.isAgg = true ∧ leafL s = true)
theorem keyOK_sh {t : TypeId} {s : Sh} (h : keyOK P t s = true) : KeySh s := by
 unfold keyOK at h
 split at h
 ·exact .inl (by simpa using h)
 ·simp only [Bool.and_eq_true] at h
  exact .inr ⟨h.1.1.1, h.1.1.2⟩
 ·cases h
theorem leafL_sub : ∀ {s : Sh} {i : Nat} {e : Sh}, leafL s = true → s.sub i = some e → ∃ k, e = .leaf k
 | .nil, i, e, _, h => by simp [Sh.sub] at h
 | .cons (.leaf k) b, 0, e, _, h => by simp [Sh.sub] at h; exact ⟨k, h.symm⟩
 | .cons (.leaf k) b, i + 1, e, hl, h => leafL_sub (s := b) (by simpa [leafL] using hl) (by simpa [Sh.sub] using h)
 | .cons .ref b, _, _, hl, _ | .cons .nil b, _, _, hl, _ | .cons (.cons _ _) b, _, _, hl, _ | .cons (.ar _ _) b, _, _, hl, _ => by simp [leafL] at hl
 | .leaf _, _, _, hl, _ | .ref, _, _, hl, _ | .ar _ _, _, _, hl, _ => by simp [leafL] at hl
def Raws (l : List D) : Prop := ∀ x ∈ l, ∃ v k, x = .raw v ∧ isSc v k = true
theorem raws_of {s : Sh} {l : List D} (h : leafL s = true) (ha : s.isAgg = true) (hs : HasSh s (.agg s l)) : Raws l := by
 obtain ⟨l', e, hlen, hsub⟩ := hs.aggOf ha
 cases e
 intro x hx
 obtain ⟨i, hi, rfl⟩ := List.mem_iff_getElem.1 hx
 obtain ⟨e, he⟩ := count_sub (s := s) (i := i) (by omega)
 obtain ⟨k, rfl⟩ := leafL_sub h he
 obtain ⟨v, hv, hk⟩ := leafSh (hsub i _ _ he (List.getElem?_eq_getElem hi))
 exact ⟨v, k, hv, hk⟩
theorem raws_flat : ∀ {l : List D}, Raws l → flatL l = l
 | [], _ => rfl
 | x :: l, h => by
  obtain ⟨v, k, rfl, _⟩ := h x (by simp)
  simp [flatL, D.flat, raws_flat (l := l) fun y hy => h y (by simp [hy])]
theorem raws_vals : ∀ {l : List D} {cs : List Value}, Raws l → All2 (LR ρ w T) l cs → cs = l.map rawV
 | [], cs, _, h => List.eq_nil_of_length_eq_zero (by simpa using h.len.symm)
 | x :: l, [], _, h => by simpa using h.len
 | x :: l, c :: cs, h, hc => by
  obtain ⟨v, k, rfl, _⟩ := h x (by simp)
  have h1 := VR.ofRaw (VR.ofLeaf hc.head)
  have h2 := raws_vals (l := l) (fun y hy => h y (by simp [hy])) hc.tail
  simp [rawV, h1, h2]
theorem raws_LR : ∀ {l : List D}, Raws l → All2 (LR ρ w T) l (l.map rawV)
 | [], _ => .nil
 | x :: l, h => by
  obtain ⟨v, k, rfl, hk⟩ := h x (by simp)
  exact .cons (.raw v (isSc_one hk)) (raws_LR (l := l) fun y hy => h y (by simp [hy]))
theorem kv_agg {s t : Sh} {l : List D} (h : Raws l) : kv (.agg t l) = .agg (l.map rawV).toArray := by simp [kv, raws_flat h]
theorem kv_VR {s : Sh} {d : D} {v : Value} (h : KeySh s) (hd : HasSh s d) (hv : VR ρ w T d v) : v = kv d := by
 rcases h with rfl | ⟨ha, hl⟩
 ·obtain ⟨x, rfl, _⟩ := leafSh hd
  exact VR.ofRaw hv
 ·obtain ⟨l, rfl, _, _⟩ := hd.aggOf ha
  obtain ⟨cs, rfl, _, hc⟩ := hv
  have hr := raws_of hl ha hd
  rw [raws_flat hr] at hc
  rw [kv_agg (s := s) hr, ← raws_vals hr hc]
theorem VR_kv {s : Sh} {d : D} (h : KeySh s) (hd : HasSh s d) : VR ρ w T d (kv d) := by
 rcases h with rfl | ⟨ha, hl⟩
 ·obtain ⟨x, rfl, hk⟩ := leafSh hd
  exact VR.raw (isSc_one hk)
 ·obtain ⟨l, rfl, _, _⟩ := hd.aggOf ha
  have hr := raws_of hl ha hd
  rw [kv_agg (s := s) hr]
  exact ⟨_, rfl, hd, by rw [raws_flat hr]; simpa using raws_LR hr⟩
theorem eqLeaf_iff {x y : Value} {b : Bool} (h : eqLeaf (.raw x) (.raw y) = some b) : b = true ↔ x = y := by
 cases x <;> cases y <;> simp only [eqLeaf] at h <;> try cases h
 ·simp
 ·split at h
  ·rename_i hk; cases h; simp [hk]
  ·cases h
 ·simp
  rename_i p q
  constructor
  ·intro h
   obtain ⟨⟨p⟩⟩ := p
   obtain ⟨⟨q⟩⟩ := q
   simp [ByteArray.toList_eq] at h
   simpa using h
  ·rintro rfl; rfl
theorem eqL_raw : ∀ {l l' : List D} {b : Bool}, Raws l → Raws l' → eqL l l' = some b → (b = true ↔ l.map rawV = l'.map rawV)
 | [], [], b, _, _, h => by simp [eqL] at h; simp [← h]
 | [], _ :: _, b, _, _, h => by simp [eqL] at h
 | _ :: _, [], b, _, _, h => by simp [eqL] at h
 | x :: l, y :: l', b, h1, h2, h => by
  obtain ⟨u, _, rfl, _⟩ := h1 x (by simp)
  obtain ⟨v, _, rfl, _⟩ := h2 y (by simp)
  simp only [eqL, eqD] at h
  split at h
  ·rename_i t ht
   split at h
   ·rename_i q hq
    cases h
    have e1 := eqLeaf_iff ht
    have e2 := eqL_raw (l := l) (l' := l') (fun y hy => h1 y (by simp [hy])) (fun y hy => h2 y (by simp [hy])) hq
    simp only [Bool.and_eq_true, List.map_cons, rawV, List.cons.injEq, e1, e2]
   ·cases h
  ·cases h
theorem eqLeaf_tot {x y : Value} {k : Sc} (hx : isSc x k = true) (hy : isSc y k = true) : ∃ b, eqLeaf (.raw x) (.raw y) = some b := by
 cases k <;> cases x <;> simp [isSc] at hx <;> cases y <;> simp [isSc] at hy
 ·subst hx; subst hy; exact ⟨_, by simp only [eqLeaf, if_true]; rfl⟩
 ·exact ⟨_, rfl⟩
 ·exact ⟨_, rfl⟩
theorem eqL_tot : ∀ {s : Sh} {l l' : List D}, leafL s = true → l.length = s.count → l'.length = s.count → (∀ i e d, s.sub i = some e → l[i]? = some d → HasSh e d) → (∀ i e d, s.sub i = some e → l'[i]? = some d → HasSh e d) → ∃ b, eqL l l' = some b
 | .nil, l, l', _, h1, h2, _, _ => by
  have e1 : l = [] := List.eq_nil_of_length_eq_zero (by simpa [Sh.count] using h1)
  have e2 : l' = [] := List.eq_nil_of_length_eq_zero (by simpa [Sh.count] using h2)
  exact ⟨true, by rw [e1, e2]; rfl⟩
 | .cons (.leaf k) b, l, l', hl, h1, h2, h3, h4 => by
  cases l with
  | nil => simp [Sh.count] at h1
  | cons x l =>
   cases l' with
   | nil => simp [Sh.count] at h2
   | cons y l' =>
    obtain ⟨u, rfl, hu⟩ := leafSh (h3 0 (.leaf k) x rfl rfl)
    obtain ⟨v, rfl, hv⟩ := leafSh (h4 0 (.leaf k) y rfl rfl)
    obtain ⟨t, ht⟩ := eqLeaf_tot hu hv
    obtain ⟨q, hq⟩ := eqL_tot (s := b) (l := l) (l' := l') (by simpa [leafL] using hl) (by simpa [Sh.count] using h1) (by simpa [Sh.count] using h2)
     (fun i e d he hd => h3 (i + 1) e d (by simpa [Sh.sub] using he) (by simpa using hd)) (fun i e d he hd => h4 (i + 1) e d (by simpa [Sh.sub] using he) (by simpa using hd))
    exact ⟨t && q, by simp [eqL, eqD, ht, hq]⟩
 | .cons .ref b, _, _, hl, _, _, _, _ | .cons .nil b, _, _, hl, _, _, _, _ | .cons (.cons _ _) b, _, _, hl, _, _, _, _ | .cons (.ar _ _) b, _, _, hl, _, _, _, _ => by simp [leafL] at hl
 | .leaf _, _, _, hl, _, _, _, _ | .ref, _, _, hl, _, _, _, _ | .ar _ _, _, _, hl, _, _, _, _ => by simp [leafL] at hl
theorem eqD_key {s : Sh} {x y : D} (h : KeySh s) (hx : HasSh s x) (hy : HasSh s y) : ∃ b, eqD x y = some b ∧ (b = true ↔ kv x = kv y) := by
 rcases h with rfl | ⟨ha, hl⟩
 ·obtain ⟨u, rfl, hu⟩ := leafSh hx
  obtain ⟨v, rfl, hv⟩ := leafSh hy
  obtain ⟨b, hb⟩ := eqLeaf_tot hu hv
  exact ⟨b, by simpa [eqD] using hb, by simpa [kv] using eqLeaf_iff hb⟩
 ·obtain ⟨l, rfl, h1, h2⟩ := hx.aggOf ha
  obtain ⟨l', rfl, h3, h4⟩ := hy.aggOf ha
  obtain ⟨b, hb⟩ := eqL_tot hl h1 h3 h2 h4
  have r1 := raws_of hl ha hx
  have r2 := raws_of hl ha hy
  refine ⟨b, by simpa [eqD] using hb, ?_⟩
  rw [eqL_raw r1 r2 hb, kv_agg (s := s) r1, kv_agg (s := s) r2]
  simp
theorem mfind_spec {ks vs : Sh} {k : D} (h : KeySh ks) (hk : HasSh ks k) : ∀ {l : List D} {o : Option Value}, (∀ d ∈ l, HasSh (mpS ks vs) d) → mfind k l = some o →
  (∀ v, firstM l (kv k) v ↔ o = some v)
 | [], o, _, hm => by simp [mfind] at hm; subst hm; simp [firstM]
 | d :: l, o, hl, hm => by
  obtain ⟨l0, rfl, hlen, hsub⟩ := (hl d (by simp)).aggOf rfl
  simp only [mfind] at hm
  split at hm
  ·rename_i k' v' he
   have hk' : HasSh ks k' := by
    unfold entOf at he
    split at he
    ·rename_i heq; cases heq; cases he; exact hsub 0 ks _ rfl rfl
    ·cases he
   obtain ⟨b, hb, hiff⟩ := eqD_key h hk hk'
   rw [hb] at hm
   intro v
   simp only [firstM, he]
   cases b with
   | true =>
    cases hm
    have e : kv k' = kv k := (hiff.1 rfl).symm
    simp [e]
   | false =>
    have e : ¬ kv k' = kv k := fun q => by have := hiff.2 q.symm; cases this
    have ih := mfind_spec h hk (l := l) (o := o) (fun d hd => hl d (by simp [hd])) hm v
    simp [e, ih]
  ·cases hm
theorem kv_isKey {ks : Sh} {k : D} (hs : ks = .leaf .str) (hk : HasSh ks k) : MapKept.IsKey .string (kv k) := by
 subst hs
 obtain ⟨v, rfl, hv⟩ := leafSh hk
 cases v <;> simp [isSc] at hv
 simp [kv, MapKept.IsKey]
def Keys (ks : Sh) (es : List MapEntry) : Prop := ∀ e ∈ es, ∃ kd, HasSh ks kd ∧ e.key = kv kd
theorem run_findAsking {t : TypeId} {ks : Sh} {k : D} (hok : eqOk P 40 t ks = true) (h : KeySh ks) (hk : HasSh ks k) (w : World) : ∀ (es : List MapEntry) (i : Nat), Keys ks es →
  ((Instr.findAsking t (kv k) es i).run P w = .ok none w ∧ ∀ e ∈ es, e.key ≠ kv k) ∨ ∃ j e, (Instr.findAsking t (kv k) es i).run P w = .ok (some (i + j, e.val)) w ∧ es[j]? = some e ∧ e.key = kv k
 | [], i, _ => .inl ⟨by simp [Instr.findAsking], by simp⟩
 | e :: es, i, hes => by
  obtain ⟨kd, hkd, he⟩ := hes e (by simp)
  obtain ⟨b, hb, hiff⟩ := eqD_key h hk hkd
  have hq := eqD_sound (P := P) (ρ := noPl) (w := w) (T := fun _ => True) 40 9960 hok hk hkd (VR_kv h hk) (VR_kv h hkd) hb
  have hq' : (Op.equal t (kv k) e.key).run P w = .ok b w := by rw [he]; exact hq
  cases b with
  | true => exact .inr ⟨0, e, by simp [Instr.findAsking, Sem.run_bind, hq', Result.andThen], rfl, by rw [he]; exact (hiff.1 rfl).symm⟩
  | false =>
   have hne : e.key ≠ kv k := fun q => by have := hiff.2 (by rw [← q, he]); cases this
   rcases run_findAsking hok h hk w es (i + 1) (fun x hx => hes x (by simp [hx])) with ⟨h1, h2⟩ | ⟨j, e', h1, h2, h3⟩
   ·refine .inl ⟨by simp [Instr.findAsking, Sem.run_bind, hq', Result.andThen, h1], fun x hx => ?_⟩
    rcases List.mem_cons.1 hx with rfl | hx
    ·exact hne
    ·exact h2 x hx
   ·exact .inr ⟨j + 1, e', by simp [Instr.findAsking, Sem.run_bind, hq', Result.andThen, h1]; omega, by simpa using h2, h3⟩
theorem run_findK {t : TypeId} {ks : Sh} {k : D} (hok : keyOK P t ks = true) (hk : HasSh ks k) (w : World) (es : List MapEntry) (hes : Keys ks es) :
  ((Instr.findKey t (kv k) es).run P w = .ok none w ∧ ∀ e ∈ es, e.key ≠ kv k) ∨ ∃ j e, (Instr.findKey t (kv k) es).run P w = .ok (some (j, e.val)) w ∧ es[j]? = some e ∧ e.key = kv k := by
 have h := keyOK_sh hok
 unfold keyOK at hok
 split at hok
 ·rename_i hu
  have hs : ks = .leaf .str := by simpa using hok
  rcases MapKept.findNow_spec (kv_isKey hs hk) es 0 (fun x hx => by obtain ⟨kd, h1, h2⟩ := hes x hx; rw [h2]; exact kv_isKey hs h1) with ⟨h1, h2⟩ | ⟨j, e, h1, h2, h3⟩
  ·exact .inl ⟨MapKept.run_findKey hu h1, h2⟩
  ·exact .inr ⟨j, e, by simpa using MapKept.run_findKey (w := w) hu h1, h2, h3⟩
 ·rename_i fs hu
  simp only [Bool.and_eq_true] at hok
  cases es with
  | nil => exact .inl ⟨by simp [Instr.findKey, run_underlying hu, Result.andThen, Instr.findNow], by simp⟩
  | cons e es =>
   have hn : Instr.findNow (.struct fs) (kv k) (e :: es) 0 = none := by simp [Instr.findNow, Instr.sameNow]
   have := run_findAsking hok.1.2 h hk w (e :: es) 0 hes
   simp only [Nat.zero_add] at this
   have e1 : (Instr.findKey t (kv k) (e :: es)).run P w = (Instr.findAsking t (kv k) (e :: es) 0).run P w := by
    simp [Instr.findKey, run_underlying hu, Result.andThen, hn]
   rw [e1]
   exact this
 ·cases hok
theorem run_checkPlain {t : TypeId} (h : plainT P t = true) (em : Bool) (m : Nat) (v : Value) (w : World) : (Instr.checkKey em (m + 1) t v).run P w = .ok () w := by
 unfold plainT at h
 split at h
 all_goals first
  | (rename_i hu; unfold Instr.checkKey; simp only [Sem.run_bind, run_underlying hu, Result.andThen_ok]; cases v <;> rfl)
  | cases h
theorem run_checkK {t : TypeId} {ks : Sh} {k : D} (hok : keyOK P t ks = true) (hk : HasSh ks k) (em : Bool) (w : World) : (Instr.checkKey em 10000 t (kv k)).run P w = .ok () w := by
 unfold keyOK at hok
 split at hok
 ·rename_i hu
  exact MapKept.run_checkKey hu (kv_isKey (by simpa using hok) hk) em 9999
 ·rename_i fs hu
  simp only [Bool.and_eq_true] at hok
  obtain ⟨⟨⟨ha, hl⟩, he⟩, hp⟩ := hok
  obtain ⟨l, rfl, hlen, hsub⟩ := hk.aggOf ha
  have hr := raws_of hl ha hk
  have hvr := VR_kv (ρ := noPl) (w := w) (T := fun _ => True) (.inr ⟨ha, hl⟩) hk
  rw [kv_agg (s := ks) hr] at hvr ⊢
  obtain ⟨cs, hcs, _, hall⟩ := hvr
  cases hcs
  have he' : (!P.stoodInHeld t && ks.isAgg && fs.toList.length == ks.count && eqFs P (eqOk P 39) ks 0 fs.toList) = true := by
   have := he
   unfold eqOk at this
   rw [hu] at this
   exact this
  simp only [Bool.and_eq_true, beq_iff_eq] at he'
  obtain ⟨⟨_, hc⟩, hf⟩ := he'
  rw [show (10000 : Nat) = 9999 + 1 from rfl, Instr.checkKey]
  simp only [Sem.run_bind, run_underlying hu, Result.andThen_ok]
  rw [← Array.forIn_toList]
  have hlist : ∀ f ∈ fs.toList, ∃ v, f.name ≠ "_" ∧ (part f.type (l.map rawV).toArray f.offset).run P w = .ok v w ∧ plainT P f.type = true := by
   have key : ∀ (gs : List Field) (i : Nat), i + gs.length = ks.count → eqFs P (eqOk P 39) ks i gs = true → (gs.all fun f => plainT P f.type) = true →
     ∀ f ∈ gs, ∃ v, f.name ≠ "_" ∧ (part f.type (l.map rawV).toArray f.offset).run P w = .ok v w ∧ plainT P f.type = true := by
    intro gs
    induction gs with
    | nil => intro i _ _ _ f hf; simp at hf
    | cons f gs ih =>
     intro i hi hf hp
     simp only [eqFs, Bool.and_eq_true] at hf
     obtain ⟨⟨⟨f1, f2⟩, f3⟩, f4⟩ := hf
     simp only [List.length_cons] at hi
     simp only [List.all_cons, Bool.and_eq_true] at hp
     split at f3
     ·rename_i e hse
      simp only [Bool.and_eq_true, beq_iff_eq] at f3
      obtain ⟨⟨f5, f6⟩, f7⟩ := f3
      obtain ⟨va, r1, r2, r3⟩ := partVR (P := P) hk hall hse (List.getElem?_eq_getElem (by omega)) f5 f6
      have f1' : f.name ≠ "_" := by simpa using f1
      have f2' : f.offset = ks.offs i := by simpa using f2
      intro g hg
      rcases List.mem_cons.1 hg with rfl | hg
      ·exact ⟨va, f1', by rw [f2']; exact r1, hp.1⟩
      ·exact ih (i + 1) (by omega) f4 hp.2 g hg
     ·cases f3
   exact key fs.toList 0 (by omega) hf hp
  generalize fs.toList = L at hlist
  induction L with
  | nil => simp
  | cons f L ih =>
   obtain ⟨v, h1, h2, h3⟩ := hlist f (by simp)
   have h4 := run_checkPlain h3 em 9998 v w
   simp only [List.forIn_cons, Sem.run_bind, h1, ne_eq, not_false_eq_true, if_true, h2, Result.andThen_ok, h4, Sem.run_pure]
   exact ih (fun g hg => hlist g (by simp [hg]))
 ·cases hok
theorem sameBits_raw {v : Value} {k : Sc} (h : isSc v k = true) (m : Nat) : Instr.sameBits m v v = true := by
 cases k <;> cases v <;> simp [isSc] at h <;> simp [Instr.sameBits, MapKept.bytes_beq]
theorem run_staysK {t : TypeId} {ks : Sh} {k : D} (hok : keyOK P t ks = true) (hk : HasSh ks k) (w : World) : (Instr.keyThatStays (kv k) (kv k)).run P w = .ok (kv k) w := by
 have hb : Instr.sameBits 10000 (kv k) (kv k) = true := by
  rcases keyOK_sh hok with rfl | ⟨ha, hl⟩
  ·obtain ⟨v, rfl, hv⟩ := leafSh hk
   exact sameBits_raw hv _
  ·obtain ⟨l, rfl, hlen, hsub⟩ := hk.aggOf ha
   have hr := raws_of hl ha hk
   rw [kv_agg (s := ks) hr]
   show (_ && _) = true
   simp only [beq_self_eq_true, Bool.true_and, List.all_eq_true]
   intro p hp
   have : ∀ (l : List D), Raws l → ∀ p ∈ (l.map rawV).zip (l.map rawV), Instr.sameBits 9999 p.1 p.2 = true := by
    intro l
    induction l with
    | nil => intro _ p hp; simp at hp
    | cons x l ih =>
     intro hr p hp
     simp only [List.map_cons, List.zip_cons_cons, List.mem_cons] at hp
     rcases hp with rfl | hp
     ·obtain ⟨v, k, rfl, hk⟩ := hr x (by simp)
      exact sameBits_raw hk _
     ·exact ih (fun y hy => hr y (by simp [hy])) p hp
   exact this l hr p (by simpa using hp)
 simp [Instr.keyThatStays, hb]
theorem MapRel.push {s : Sh} {l : List D} {es : Array MapEntry} (h : MapRel s l es) {ks : Sh} {kd d : D} {val : Value} {born : Nat} (hs : s.sub 0 = some ks) (hk : HasSh ks kd) (hd : entOf d = some (kd, val)) (hn : ∀ e ∈ es.toList, e.key ≠ kv kd) :
  MapRel s (d :: l) (es.push ⟨kv kd, val, born⟩) := by
 refine ⟨h.pure, fun e he => ?_, ?_, fun k v => ?_⟩
 ·simp only [Array.toList_push, List.mem_append, List.mem_singleton] at he
  rcases he with he | rfl
  ·exact h.key e he
  ·exact ⟨kd, ks, hs, hk, rfl⟩
 ·simp only [Array.toList_push]
  refine List.pairwise_append.2 ⟨h.dist, by simp, fun a ha b hb => ?_⟩
  simp only [List.mem_singleton] at hb
  subst hb
  exact hn a ha
 ·simp only [firstM, hd, Array.toList_push, List.mem_append, List.mem_singleton]
  constructor
  ·rintro ⟨e, he | rfl, h1, h2⟩
   ·exact .inr ⟨fun q => hn e he (by rw [h1, q]), (h.at_ k v).1 ⟨e, he, h1, h2⟩⟩
   ·exact .inl ⟨h1, h2⟩
  ·rintro (⟨h1, h2⟩ | ⟨h1, h2⟩)
   ·exact ⟨_, .inr rfl, h1, h2⟩
   ·obtain ⟨e, he, h3⟩ := (h.at_ k v).2 h2
    exact ⟨e, .inl he, h3⟩
theorem MapRel.modify {s : Sh} {l : List D} {es : Array MapEntry} (h : MapRel s l es) {kd d : D} {val : Value} {j : Nat} {e0 : MapEntry} (hd : entOf d = some (kd, val)) (hj : es[j]? = some e0) (h0 : e0.key = kv kd) :
  MapRel s (d :: l) (es.modify j fun e => { e with key := kv kd, val := val }) := by
 have hget : ∀ i : Nat, (es.modify j fun e => { e with key := kv kd, val := val })[i]? = if j = i then some { e0 with key := kv kd, val := val } else es[i]? := by
  intro i
  rw [Array.getElem?_modify]
  split
  ·rename_i e; subst e; simp [hj]
  ·rfl
 have hmem : ∀ e : MapEntry, e ∈ (es.modify j fun e => { e with key := kv kd, val := val }).toList ↔ ∃ i : Nat, (es.modify j fun e => { e with key := kv kd, val := val })[i]? = some e := by
  intro e
  rw [List.mem_iff_getElem?]
  simp only [Array.getElem?_toList]
 have hmem0 : ∀ e : MapEntry, e ∈ es.toList ↔ ∃ i : Nat, es[i]? = some e := by
  intro e
  rw [List.mem_iff_getElem?]
  simp
 have hone : ∀ (i : Nat) (e : MapEntry), es[i]? = some e → e.key = kv kd → i = j := by
  intro i e hi he
  have hp := List.pairwise_iff_getElem.1 h.dist
  obtain ⟨l1, rfl⟩ := Array.getElem?_eq_some_iff.1 hi
  obtain ⟨l2, rfl⟩ := Array.getElem?_eq_some_iff.1 hj
  rcases Nat.lt_trichotomy i j with h1 | h1 | h1
  ·exact absurd (show (es.toList[i]'(by simpa using l1)).key = (es.toList[j]'(by simpa using l2)).key from he.trans h0.symm) (hp i j (by simpa using l1) (by simpa using l2) h1)
  ·exact h1
  ·exact absurd (show (es.toList[j]'(by simpa using l2)).key = (es.toList[i]'(by simpa using l1)).key from h0.trans he.symm) (hp j i (by simpa using l2) (by simpa using l1) h1)
 refine ⟨h.pure, fun e he => ?_, ?_, fun k v => ?_⟩
 ·obtain ⟨i, hi⟩ := (hmem e).1 he
  rw [hget] at hi
  split at hi
  ·cases hi
   obtain ⟨kd', ks, g1, g2, g3⟩ := h.key e0 ((hmem0 _).2 ⟨j, hj⟩)
   exact ⟨kd', ks, g1, g2, by rw [← g3, h0]⟩
  ·exact h.key e ((hmem0 _).2 ⟨i, hi⟩)
 ·have hkeys : (es.modify j fun e => { e with key := kv kd, val := val }).toList.map (·.key) = es.toList.map (·.key) := by
   apply List.ext_getElem?
   intro i
   simp only [List.getElem?_map, Array.getElem?_toList, hget]
   split
   ·rename_i e; subst e; simp [hj, h0]
   ·rfl
  have := h.dist
  rw [← List.pairwise_map (f := fun e : MapEntry => e.key) (R := fun a b => a ≠ b)] at this ⊢
  rw [hkeys]
  exact this
 ·simp only [firstM, hd]
  constructor
  ·rintro ⟨e, he, h1, h2⟩
   obtain ⟨i, hi⟩ := (hmem e).1 he
   rw [hget] at hi
   split at hi
   ·cases hi; exact .inl ⟨h1, h2⟩
   ·rename_i hne
    exact .inr ⟨fun q => hne (hone i e hi (by rw [h1, q])).symm, (h.at_ k v).1 ⟨e, (hmem0 _).2 ⟨i, hi⟩, h1, h2⟩⟩
  ·rintro (⟨h1, h2⟩ | ⟨h1, h2⟩)
   ·exact ⟨_, (hmem _).2 ⟨j, by rw [hget, if_pos rfl]⟩, h1, h2⟩
   ·obtain ⟨e, he, h3, h4⟩ := (h.at_ k v).2 h2
    obtain ⟨i, hi⟩ := (hmem0 e).1 he
    refine ⟨e, (hmem _).2 ⟨i, ?_⟩, h3, h4⟩
    rw [hget, if_neg]
    ·exact hi
    ·intro q
     subst q
     rw [hj] at hi
     cases hi
     exact h1 (by rw [← h3, h0])
theorem zero_leaf {t : TypeId} {kk : Sc} {z : D} (hs : sh P t = some (.leaf kk)) (hz : zero P t = some z) : ∃ zx, z = .raw zx ∧ zx.oneCell' = true ∧ ∀ w, (zeroValue t).run P w = .ok zx w := by
 obtain ⟨h1, v0, h2, h3, h4⟩ := zero_spec hs hz
 obtain ⟨zx, rfl, hk⟩ := leafSh h1
 refine ⟨zx, rfl, isSc_one hk, ?_⟩
 have hv : v0 = zx := by
  have h5 := h4 noPl default (fun _ => True)
  have h6 := raws_vals (l := [D.raw zx]) (fun x hx => by simp at hx; exact ⟨zx, kk, hx, hk⟩) (by simpa [D.flat] using h5)
  unfold zero at hz
  split at hz
  ·split at hz
   ·rename_i i hi
    split at hz
    ·rename_i v hv
     obtain ⟨hb', hdz⟩ := bif_some hz
     have hb := (Bool.and_eq_true_iff.1 hb').2
     rw [hdz] at hb
     have e0 : v0 = v := by
      have := h2 default
      simp [zeroValue, typeInfo, hi, hv] at this
      exact this.symm
     subst e0
     cases v0 <;> simp_all [D.isAgg, Value.cells, rawV]
    ·cases hz
   ·cases hz
  ·cases hz
 rw [← hv]
 exact h2
theorem firstM_one {ks vs : Sh} (hv : valSh vs = true) : ∀ {l : List D} {k v : Value}, (∀ d ∈ l, HasSh (mpS ks vs) d) → firstM l k v → v.oneCell' = true
 | [], _, _, _, h => h.elim
 | d :: l, k, v, hl, h => by
  obtain ⟨l0, rfl, hlen, hsub⟩ := (hl d (by simp)).aggOf rfl
  simp only [firstM] at h
  split at h
  ·rename_i k' v' he
   rcases h with ⟨_, rfl⟩ | ⟨_, h⟩
   ·unfold entOf at he
    split at he
    ·rename_i heq
     cases heq
     cases he
     have := hsub 1 vs _ rfl rfl
     cases vs with
     | leaf kk =>
      obtain ⟨x, e, hk⟩ := leafSh this
      cases e
      exact isSc_one hk
     | _ => simp [valSh] at hv
    ·cases he
   ·exact firstM_one hv (fun d hd => hl d (by simp [hd])) h
  ·exact h.elim
theorem leafL_pure : ∀ {s : Sh}, leafL s = true → s.pure = true
 | .nil, _ => rfl
 | .cons (.leaf _) b, h => by simp [Sh.pure, leafL_pure (s := b) (by simpa [leafL] using h)]
 | .cons .ref b, h | .cons .nil b, h | .cons (.cons _ _) b, h | .cons (.ar _ _) b, h => by simp [leafL] at h
 | .leaf _, h | .ref, h | .ar _ _, h => by simp [leafL] at h
theorem mpS_pure {t : TypeId} {ks vs : Sh} (hok : keyOK P t ks = true) (hv : valSh vs = true) : (mpS ks vs).pure = true := by
 have h1 : ks.pure = true := by
  rcases keyOK_sh hok with rfl | ⟨_, h⟩
  ·rfl
  ·exact leafL_pure h
 have h2 : vs.pure = true := by
  cases vs with
  | leaf _ => rfl
  | _ => simp [valSh] at hv
 simp [Sh.pure, h1, h2]
theorem mapSh_some {t : TypeId} {ks vs : Sh} (h : mapSh P t = some (ks, vs)) : ∃ kt et, P.underlying t = some (.map kt et) ∧ sh P kt = some ks ∧ sh P et = some vs ∧ keyOK P kt ks = true ∧ valSh vs = true := by
 unfold mapSh mapT at h
 obtain ⟨⟨kt, et⟩, h1, h⟩ := o2_some h
 split at h1
 ·rename_i hu
  cases h1
  obtain ⟨ks', h2, h⟩ := o2_some h
  obtain ⟨vs', h3, h⟩ := o2_some h
  obtain ⟨h4, h⟩ := ifo_some h
  cases h
  simp only [Bool.and_eq_true] at h4
  exact ⟨_, _, hu, h2, h3, h4.1, h4.2⟩
 ·cases h1
section ops
variable (hs : Sim n ρ T env rows a w) (hG : Glob C ρ w T) {o : Oper} {k : D → Rows → Prop}
include hs hG
omit hG in
theorem op_mkm {t kt : TypeId} {ks vs : Sh} (ho : o.op = .makeMap t none) (hok : keyOK P kt ks = true) (hvs : valSh vs = true) (h : aop C env rows (.mkm ks vs) k) : OpGoal P n o ρ T env rows a w k := by
 obtain ⟨g1, g2⟩ := hs.pushMap (w' := { w with heap := w.heap.push (.map #[] 0) }) (mpS ks vs) (mpS_pure hok hvs) rfl rfl rfl rfl
 refine goal_of (v := .map (some w.heap.size)) h g1 g2 (VR.ofLeaf (.mp rows.length ⟨w.heap.size, mpS ks vs, 0, true⟩ (by simp [upd]) rfl)) (fun _ => ⟨fun b hb => .inl (push_old hb), fun _ h => .inl h⟩) ?_
 simp only [execOp, ho]
 rfl
theorem op_mset {t kt et : TypeId} {ks vs : Sh} {m x v : Operand} {m' x' v' : X} (ho : o.op = .mapUpdate t m x v) (hu : P.underlying t = some (.map kt et)) (hok : keyOK P kt ks = true)
  (h1 : cX m = some m') (h2 : cX x = some x') (h3 : cX v = some v') (h : aop C env rows (.mset ks vs m' x' v') k) : OpGoal P n o ρ T env rows a w k := by
 obtain ⟨dm, he1, hk⟩ := bnd_some h
 have hvm := ev_sound h1 he1 hs hG
 split at hk
 ·rename_i r
  obtain ⟨kd, he2, hk⟩ := bnd_some hk
  obtain ⟨dv, he3, hk⟩ := bnd_some hk
  have hvk := ev_sound h2 he2 hs hG
  have hvv := ev_sound h3 he3 hs hG
  split at hk
  ·rename_i val
   obtain ⟨hf, hfv, hk⟩ := hk
   obtain ⟨row, hl, hk⟩ := bnd_some hk
   obtain ⟨hsh, hk⟩ := hk
   have hKs := (hvk.cells hf).1
   have hVs := (hvv.cells hfv).1
   have ek := kv_VR (keyOK_sh hok) hKs hvk
   have ev' := VR.ofRaw hvv
   have hlm : LR ρ w T (.mp r) _ := hvm
   generalize hm : a.eval m = vm at hlm
   cases hlm with
   | mp _ L hL hmp =>
    have hrow := hs.rowsOK.row r row L hl hL
    obtain ⟨es, clock, hb, hR⟩ := hrow.mcells hmp
    have hKeys : Keys ks es.toList := fun e he => by
     obtain ⟨kd', ks', g1, g2, g3⟩ := hR.key e he
     rw [hsh] at g1
     cases g1
     exact ⟨kd', g2, g3⟩
    have hels : ∀ d ∈ D.agg (mpS ks vs) [kd, .raw val] :: row.els, HasSh row.sh d := by
     intro d hd
     rcases List.mem_cons.1 hd with rfl | hd
     ·rw [hsh]
      refine .agg _ _ rfl rfl fun i e d hi hd => ?_
      match i, hi, hd with
      | 0, hi, hd => simp [Sh.sub] at hi hd; subst hi; subst hd; exact hKs
      | 1, hi, hd => simp [Sh.sub] at hi hd; subst hi; subst hd; exact hVs
      | i + 2, hi, hd => simp [Sh.sub] at hi
     ·exact hrow.els d hd
    have hlt : L.b < w.heap.size := hrow.lt
    have fin : ∀ es' clock', MapRel row.sh (D.agg (mpS ks vs) [kd, .raw val] :: row.els) es' → (Instr.mapUpdate t (.map (some L.b)) (kv kd) val).run P w = .ok () { w with heap := w.heap.setIfInBounds L.b (.map es' clock') } → OpGoal P n o ρ T env rows a w k := by
     intro es' clock' hR' hrun
     obtain ⟨u1, u2⟩ := hs.writeMap (w' := { w with heap := w.heap.setIfInBounds L.b (.map es' clock') }) hl hL _ es' clock' hmp hels hR' (by simp [hlt]) (fun b hb => by simp [Ne.symm hb]) (by simp) rfl rfl rfl
     refine ⟨_, _, ρ, T, undef, _, hk, u1, u2, ?_, .inr ⟨?_, rfl⟩, fun hq => by rw [ho] at hq; cases hq⟩
     ·exact ⟨#[], rfl, .nil⟩
     ·simp [execOp, ho, hm, ek, ev', hrun]
    rcases run_findK hok hKs w es.toList hKeys with ⟨q1, q2⟩ | ⟨j, e, q1, q2, q3⟩
    ·refine fin _ (clock + 1) (hR.push (born := clock) (by rw [hsh]; rfl) hKs rfl q2) ?_
     simp [Instr.mapUpdate, run_underlying hu, MapKept.run_getObj_map hb, run_checkK hok hKs, q1, MapKept.run_setObj_map _ hb, Result.andThen]
    ·have q2' : es[j]? = some e := by simpa using q2
     refine fin _ clock (hR.modify (d := .agg (mpS ks vs) [kd, .raw val]) rfl q2' q3) ?_
     simp [Instr.mapUpdate, run_underlying hu, MapKept.run_getObj_map hb, run_checkK hok hKs, q1, q2', q3, run_staysK hok hKs, MapKept.run_setObj_map _ hb, Result.andThen]
  ·exact hk.elim
 ·exact hk.elim
theorem op_mget {t kt et : TypeId} {ks vs : Sh} {ok : Bool} {z : D} {m x : Operand} {m' x' : X} (ho : o.op = .lookup t m x ok) (hu : P.underlying t = some (.map kt et)) (hok : keyOK P kt ks = true) (hse : sh P et = some vs) (hz : zero P et = some z) (hzf : z.fits vs = true) (hvs : valSh vs = true)
  (h1 : cX m = some m') (h2 : cX x = some x') (h : aop C env rows (.mget ks vs ok z m' x') k) : OpGoal P n o ρ T env rows a w k := by
 obtain ⟨dm, he1, hk⟩ := bnd_some h
 obtain ⟨kd, he2, hk⟩ := bnd_some hk
 obtain ⟨hf, hk⟩ := hk
 obtain ⟨els, hels, hk⟩ := bnd_some hk
 obtain ⟨r, hr, hk⟩ := bnd_some hk
 have hvm := ev_sound h1 he1 hs hG
 have hvk := ev_sound h2 he2 hs hG
 have hKs := (hvk.cells hf).1
 have ek := kv_VR (keyOK_sh hok) hKs hvk
 have hall : ∃ b es clock, a.eval m = .map (some b) ∧ w.heap[b]? = some (.map es clock) ∧ MapRel (mpS ks vs) els es ∧ ∀ d ∈ els, HasSh (mpS ks vs) d := by
  unfold melems at hels
  split at hels
  ·rename_i r' hdm
   split at hels
   ·rename_i row hl
    have hlm : LR ρ w T (.mp r') _ := hvm
    generalize hm : a.eval m = vm at hlm
    cases hlm with
    | mp _ L hL hmp =>
     have hrow := hs.rowsOK.row r' row L hl hL
     obtain ⟨es, clock, hb, hR⟩ := hrow.mcells hmp
     cases hq : (row.sh == mpS ks vs) with
     | false => simp [hq] at hels
     | true =>
      have hsh : row.sh = mpS ks vs := by simpa using hq
      simp [hq] at hels
      subst hels
      exact ⟨L.b, es, clock, rfl, hb, by rw [← hsh]; exact hR, fun d hd => by rw [← hsh]; exact hrow.els d hd⟩
   ·cases hels
  ·rename_i s' l' hdm
   have hlm : LR ρ w T (.om s' l') _ := hvm
   generalize hm : a.eval m = vm at hlm
   cases hlm with
   | om _ _ b es clock g1 g2 g3 g4 =>
    cases hq : (s' == mpS ks vs) with
    | false => simp [hq] at hels
    | true =>
     have hsh : s' = mpS ks vs := by simpa using hq
     simp [hq] at hels
     subst hels
     exact ⟨b, es, clock, rfl, g3, by rw [← hsh]; exact g4, fun d hd => by rw [← hsh]; exact g1 d hd⟩
  ·cases hels
 obtain ⟨b, es, clock, hm, hb, hR, hE⟩ := hall
 have hspec := mfind_spec (keyOK_sh hok) hKs hE hr
 have hKeys : Keys ks es.toList := fun e he => by
  obtain ⟨kd', ks', g1, g2, g3⟩ := hR.key e he
  cases g1
  exact ⟨kd', g2, g3⟩
 obtain ⟨kk, rfl⟩ : ∃ kk, vs = .leaf kk := by
  cases vs with
  | leaf kk => exact ⟨kk, rfl⟩
  | _ => simp [valSh] at hvs
 obtain ⟨zv, rfl, hzo, z2⟩ := zero_leaf hse hz
 rcases run_findK hok hKs w es.toList hKeys with ⟨q1, q2⟩ | ⟨j, e, q1, q2, q3⟩
 ·have hnone : r = none := by
   cases r with
   | none => rfl
   | some v =>
    obtain ⟨e, he, h3, _⟩ := (hR.at_ _ _).2 ((hspec v).2 rfl)
    exact absurd h3 (q2 e he)
  subst hnone
  have hrun : (Instr.lookup t (.map (some b)) (kv kd) ok).run P w = .ok (if ok then .tuple #[zv, .bool false] else zv) w := by
   simp [Instr.lookup, run_underlying hu, MapKept.run_getObj_map hb, run_checkK hok hKs, q1, z2, Result.andThen]
  cases ok with
  | false =>
   refine .here hs hk (v := zv) (VR.raw hzo) ?_
   simp [execOp, ho, hm, ek, hrun]
  | true =>
   refine .here hs hk (v := .tuple #[zv, .bool false]) ⟨_, rfl, .cons (VR1.ofLeaf (.raw _ hzo)) (.cons (VR1.ofLeaf (.raw _ rfl)) .nil)⟩ ?_
   simp [execOp, ho, hm, ek, hrun]
 ·have hsome : r = some e.val := (hspec e.val).1 ((hR.at_ _ _).1 ⟨e, mem_of_get q2, q3, rfl⟩)
  subst hsome
  have hvo : e.val.oneCell' = true := firstM_one rfl hE ((hR.at_ _ _).1 ⟨e, mem_of_get q2, q3, rfl⟩)
  have hrun : (Instr.lookup t (.map (some b)) (kv kd) ok).run P w = .ok (if ok then .tuple #[e.val, .bool true] else e.val) w := by
   simp [Instr.lookup, run_underlying hu, MapKept.run_getObj_map hb, run_checkK hok hKs, q1, Result.andThen]
  cases ok with
  | false =>
   refine .here hs hk (v := e.val) (VR.raw hvo) ?_
   simp [execOp, ho, hm, ek, hrun]
  | true =>
   refine .here hs hk (v := .tuple #[e.val, .bool true]) ⟨_, rfl, .cons (VR1.ofLeaf (.raw _ hvo)) (.cons (VR1.ofLeaf (.raw _ rfl)) .nil)⟩ ?_
   simp [execOp, ho, hm, ek, hrun]
end ops
end Go.Am
namespace Go.Am
set_option linter.unusedVariables false
set_option linter.unusedSimpArgs false
variable {C : Ctx} {P : Program} {n : Nat} {ρ : Pl} {T : Nat → Prop} {env : Env} {rows : Rows} {a : Act} {w : World}
theorem mapO_get {α β : Type} {f : α → Option β} : ∀ {l : List α} {l' : List β}, mapO f l = some l' → l'.length = l.length ∧ ∀ (i : Nat) (x : α) (y : β), l[i]? = some x → l'[i]? = some y → f x = some y
 | [], l', h => by simp [mapO] at h; subst h; simp
 | x :: l, l', h => by
  simp only [mapO] at h
  split at h
  ·rename_i y hy
   split at h
   ·rename_i ys hys
    cases h
    obtain ⟨h1, h2⟩ := mapO_get hys
    refine ⟨by simp [h1], fun i a b ha hb => ?_⟩
    cases i with
    | zero => simp at ha hb; subst ha; subst hb; exact hy
    | succ i => exact h2 i a b (by simpa using ha) (by simpa using hb)
   ·cases h
  ·cases h
theorem flatL_mapO {f : D → Option D} {R : D → Value → Prop} : ∀ {l l' : List D} {cs : List Value}, mapO f l = some l' → All2 (LR ρ w T) (flatL l) cs →
  (∀ d ∈ l, ∃ s, HasSh s d) → (∀ d ∈ l, ∀ d' s cs, f d = some d' → HasSh s d → All2 (LR ρ w T) d.flat cs → HasSh s d' ∧ All2 R d'.flat cs) → All2 R (flatL l') cs
 | [], l', cs, h, hc, _, _ => by
  simp [mapO] at h; subst h
  have : cs = [] := List.eq_nil_of_length_eq_zero (by simpa [flatL] using hc.len.symm)
  subst this
  exact .nil
 | x :: l, l', cs, h, hc, hs, hf => by
  simp only [mapO] at h
  split at h
  ·rename_i y hy
   split at h
   ·rename_i ys hys
    cases h
    simp only [flatL] at hc ⊢
    obtain ⟨s, hsx⟩ := hs x (by simp)
    have h1 := hc.take x.flat.length
    have h2 := hc.drop x.flat.length
    rw [List.take_left] at h1
    rw [List.drop_left] at h2
    obtain ⟨g1, g2⟩ := hf x (by simp) y s _ hy hsx h1
    have g3 := flatL_mapO hys h2 (fun d hd => hs d (by simp [hd])) (fun d hd => hf d (by simp [hd]))
    have := g2.append g3
    rwa [List.take_append_drop] at this
   ·cases h
  ·cases h
theorem RowsOK.readPtrB (h : RowsOK ρ rows w T) {s : Sh} {r : Nat} {p : List Nat} {v : Value} {row : Row} {d : D} (hv : LR ρ w T (.ptr s r p) v) (hl : live rows r = some row) (hg : rowGet row.els p = some d) :
  ∃ b o cs, v = .pointer (some ⟨b, o, none⟩) ∧ HasSh s d ∧ All2 (LR ρ w T) d.flat cs ∧ At w b o cs ∧ Blk ρ T rows b := by
 cases hv with
 | ptr _ _ _ L hL hp =>
  obtain ⟨b, o, cs, h1, h2, h3, h4⟩ := h.readPtr (.ptr s r p L hL hp) hl hg
  cases h1
  exact ⟨L.b, L.off p, cs, rfl, h2, h3, h4, .inr ⟨r, row, L, hl, hL, rfl⟩⟩
theorem view_sound (hr : RowsOK ρ rows w T) : ∀ (k : Nat) (d d' : D) (s : Sh) (cs : List Value), view rows k d = some d' → HasSh s d → All2 (LR ρ w T) d.flat cs →
  HasSh s d' ∧ All2 (LR noPl w (Blk ρ T rows)) d'.flat cs
 | 0, d, d', s, cs, h, _, _ => by simp [view] at h
 | k + 1, d, d', s, cs, h, hsh, hc => by
  have ih := fun d d' s cs => view_sound hr k d d' s cs
  cases d with
  | raw v =>
   simp [view] at h
   subst h
   exact ⟨hsh, hc.ofRaw (by simp [D.flat])⟩
  | aptr => simp [view] at h
  | ptr t r p =>
   have hleaf : (D.ptr t r p).isLeaf = true := rfl
   rw [leaf_flat hleaf] at hc
   have hlen1 := hc.len
   match cs, hlen1 with
   | [v], _ =>
    have hv := hc.head
    have hsref : s = .ref := by
     cases hsh with
     | ref => rfl
    subst hsref
    simp only [view] at h
    split at h
    ·rename_i row hl
     split at h
     ·rename_i d0 hg
      obtain ⟨b, o', cs', hx, m1, m2, m3⟩ := hr.readPtrB hv hl hg
      cases hp : t.pure with
      | true =>
       simp [hp] at h
       subst h
       refine ⟨.ref _ rfl, ?_⟩
       rw [leaf_flat rfl, hx]
       exact All2.single (LR.mkCptr m1 m3.2 (m2.ofRaw (pure_flat m1 hp)) m3.1)
      | false =>
       simp only [hp, cond_false] at h
       split at h
       ·rename_i d1 hd1
        cases h
        obtain ⟨q1, q2⟩ := ih d0 d1 t cs' hd1 m1 m2
        refine ⟨.ref _ rfl, ?_⟩
        rw [leaf_flat rfl, hx]
        exact All2.single (LR.mkCptr q1 m3.2 q2 m3.1)
       ·cases h
     ·cases h
    ·cases h
  | cptr d0 =>
   have hleaf : (D.cptr d0).isLeaf = true := rfl
   rw [leaf_flat hleaf] at hc
   have hlen1 := hc.len
   match cs, hlen1 with
   | [v], _ =>
    have hv := hc.head
    simp only [view] at h
    cases hh : hasRef d0 with
    | true => simp [hh] at h
    | false =>
     simp [hh] at h
     subst h
     refine ⟨hsh, ?_⟩
     rw [leaf_flat hleaf]
     exact All2.single ((hv.closed hh).mono (fun _ _ e => e) (fun _ _ => rfl) (fun _ hb => .inl hb))
  | tup => simp [view] at h
  | mp r =>
   have hleaf : (D.mp r).isLeaf = true := rfl
   rw [leaf_flat hleaf] at hc
   have hlen1 := hc.len
   match cs, hlen1 with
   | [v], _ =>
    have hv := hc.head
    have hsref : s = .ref := by
     cases hsh with
     | ref => rfl
    subst hsref
    simp only [view] at h
    split at h
    ·rename_i row hl
     cases h
     refine ⟨.ref _ rfl, ?_⟩
     rw [leaf_flat rfl]
     cases hv with
     | mp _ L hL hm =>
      have hrow := hr.row r row L hl hL
      obtain ⟨es, clock, h1, h2⟩ := hrow.mcells hm
      exact All2.single (.om _ _ _ es clock hrow.els (.inr ⟨r, row, L, hl, hL, rfl⟩) h1 h2)
    ·cases h
  | om t l =>
   have hleaf : (D.om t l).isLeaf = true := rfl
   rw [leaf_flat hleaf] at hc
   have hlen1 := hc.len
   match cs, hlen1 with
   | [v], _ =>
    have hv := hc.head
    have hsref : s = .ref := by
     cases hsh with
     | ref => rfl
    subst hsref
    simp only [view] at h
    cases h
    refine ⟨.ref _ rfl, ?_⟩
    rw [leaf_flat rfl]
    cases hv with
    | om _ _ b es clock h1 hb h2 h3 => exact All2.single (.om _ _ _ es clock h1 (.inl hb) h2 h3)
  | agg t l =>
   obtain ⟨rfl, ha⟩ := agg_sh hsh
   simp only [view] at h
   cases hp : s.pure with
   | true =>
    simp [hp] at h
    subst h
    exact ⟨hsh, hc.ofRaw (pure_flat hsh hp)⟩
   | false =>
    simp only [hp, cond_false] at h
    split at h
    ·rename_i l' hl'
     cases h
     obtain ⟨l2, e2, hlen, hsub⟩ := hsh.aggOf ha
     cases e2
     obtain ⟨g1, g2⟩ := mapO_get hl'
     have hex : ∀ d ∈ l, ∃ e, HasSh e d := by
      intro d hd
      obtain ⟨i, hi, rfl⟩ := List.mem_iff_getElem.1 hd
      obtain ⟨e, he⟩ := count_sub (s := s) (i := i) (by omega)
      exact ⟨e, hsub i e _ he (List.getElem?_eq_getElem hi)⟩
     simp only [D.flat] at hc
     have hc2 := flatL_mapO (R := LR noPl w (Blk ρ T rows)) hl' hc hex (fun d _ d' s cs h1 h2 h3 => ih d d' s cs h1 h2 h3)
     refine ⟨.agg s l' ha (by omega) (fun i e d' hi hd' => ?_), by simpa [D.flat] using hc2⟩
     have hi2 : i < l.length := by have := lt_of_get hd'; omega
     have hd := List.getElem?_eq_getElem hi2
     have hv := g2 i _ d' hd hd'
     have hsd := hsub i e _ hi hd
     obtain ⟨q1, q2, q3⟩ := hsh.part ha hi
     -- its own cells
     have hex2 : ∃ c, All2 (LR ρ w T) (l[i]).flat c := by
      rw [flatL_get hd] at hc
      have := (hc.drop (flatL (l.take i)).length).take (l[i]).flat.length
      rw [List.drop_left, List.take_left] at this
      exact ⟨_, this⟩
     obtain ⟨c, hcc⟩ := hex2
     exact (ih _ _ e c hv hsd hcc).1
    ·cases h
  | lst t l ex =>
   have hleaf : (D.lst t l ex).isLeaf = true := rfl
   rw [leaf_flat hleaf] at hc
   have hlen1 := hc.len
   match cs, hlen1 with
   | [v], _ =>
    have hv := hc.head
    have hsref : s = .ref := by
     cases hsh with
     | ref => rfl
    subst hsref
    have key : ∀ l', (∀ d ∈ l', HasSh t d) → l'.length = l.length → (∀ c, All2 (LR ρ w T) (flatL l) c → All2 (LR noPl w (Blk ρ T rows)) (flatL l') c) → d' = .lst t l' ex → HasSh .ref d' ∧ All2 (LR noPl w (Blk ρ T rows)) d'.flat [v] := by
     intro l' h1 h2 h3 h4
     subst h4
     refine ⟨.ref _ rfl, ?_⟩
     rw [leaf_flat rfl]
     refine All2.single ?_
     cases hv with
     | lst0 _ _ ad cap c1 c2 =>
      have : l' = [] := List.eq_nil_of_length_eq_zero (by simpa using h2)
      subst this
      exact .lst0 _ _ _ _ c1 c2
     | lst _ _ _ b o' cap f c1 hb c2 c3 c4 c5 =>
      obtain ⟨q1, q2⟩ := lr_at (d := default) c2 c3
      rw [← h2]
      exact LR.mkLst h1 (.inl hb) (h3 _ q1) q2 (by omega) (by rw [h2]; exact c5)
    have hels : ∀ d ∈ l, HasSh t d := by
     cases hv with
     | lst0 => simp
     | lst _ _ _ _ _ _ _ c1 => exact c1
    simp only [view] at h
    cases hp : t.pure with
    | true =>
     simp [hp] at h
     exact key l hels rfl (fun c hc => hc.ofRaw (pure_flatL hels hp)) h.symm
    | false =>
     simp only [hp, cond_false] at h
     split at h
     ·rename_i l' hl'
      cases h
      obtain ⟨g1, g2⟩ := mapO_get hl'
      refine key l' (fun d' hd' => ?_) g1 (fun c hc => flatL_mapO (R := LR noPl w (Blk ρ T rows)) hl' hc (fun d hd => ⟨t, hels d hd⟩) (fun d _ d' s cs h1 h2 h3 => ih d d' s cs h1 h2 h3)) rfl
      obtain ⟨i, hi, rfl⟩ := List.mem_iff_getElem.1 hd'
      have hi2 : i < l.length := by omega
      have hd := List.getElem?_eq_getElem hi2
      have hv2 := g2 i _ _ hd (List.getElem?_eq_getElem hi)
      have hex2 : ∃ c, All2 (LR ρ w T) (l[i]).flat c := by
       cases hv with
       | lst0 => simp at hi2
       | lst _ _ _ b o' cap f c1 hb c2 c3 c4 c5 =>
        obtain ⟨q1, q2⟩ := lr_at (d := default) c2 c3
        rw [flatL_get hd] at q1
        have := (q1.drop (flatL (l.take i)).length).take (l[i]).flat.length
        rw [List.drop_left, List.take_left] at this
        exact ⟨_, this⟩
      obtain ⟨c, hcc⟩ := hex2
      exact (ih _ _ t c hv2 (hels _ (List.getElem_mem hi2)) hcc).1
     ·cases h
  | sl t r p off len ex =>
   have hleaf : (D.sl t r p off len ex).isLeaf = true := rfl
   rw [leaf_flat hleaf] at hc
   have hlen1 := hc.len
   match cs, hlen1 with
   | [v], _ =>
    have hv := hc.head
    have hsref : s = .ref := by
     cases hsh with
     | ref => rfl
    subst hsref
    simp only [view] at h
    split at h
    ·rename_i l hl
     cases hll : (l.length == len) with
     | false => rw [hll] at h; simp at h
     | true =>
      rw [hll] at h
      simp only [Bool.not_true, cond_false] at h
      have hlen : l.length = len := by simpa using hll
      obtain ⟨ad, cap, c, hH⟩ := hr.holds (s := t) hv hl rfl hlen (by simp [sshape])
      have hexc : ex = true → cap = len := by
       intro hx
       have hv' := hv
       rw [hH.hv] at hv'
       cases hv' with
       | sl _ _ _ _ _ _ _ _ _ _ c2 _ => exact c2 hx
       | slz => rfl
      have key : ∀ l', (∀ d ∈ l', HasSh t d) → l'.length = l.length → All2 (LR noPl w (Blk ρ T rows)) (flatL l') c → d' = .lst t l' ex → HasSh .ref d' ∧ All2 (LR noPl w (Blk ρ T rows)) d'.flat [v] := by
       intro l' h1 h2 h3 h4
       subst h4
       refine ⟨.ref _ rfl, ?_⟩
       rw [leaf_flat rfl, hH.hv]
       refine All2.single ?_
       by_cases hz : len = 0
       ·have : l' = [] := List.eq_nil_of_length_eq_zero (by omega)
        subst this
        rw [hz]
        exact .lst0 _ _ _ _ (fun hx => by rw [hexc hx, hz]) hH.nil
       ·obtain ⟨b, o', had, hB⟩ := hH.adr hz
        have hat : At w b o' c := by
         intro j x hx
         obtain ⟨b2, o2', e1, e2⟩ := hH.at_ j x hx
         rw [had] at e1
         cases e1
         exact e2
        rw [had]
        have e : len = l'.length := by omega
        have hcap := hH.hcap
        rw [e]
        exact LR.mkLst h1 hB h3 hat (by omega) (fun hx => by rw [hexc hx, e])
      cases hp : t.pure with
      | true =>
       simp [hp] at h
       exact key l hH.els rfl (hH.hcs.ofRaw (pure_flatL hH.els hp)) h.symm
      | false =>
       simp only [hp, cond_false] at h
       split at h
       ·rename_i l' hl'
        cases h
        obtain ⟨g1, g2⟩ := mapO_get hl'
        refine key l' (fun d' hd' => ?_) g1 (flatL_mapO (R := LR noPl w (Blk ρ T rows)) hl' hH.hcs (fun d hd => ⟨t, hH.els d hd⟩) (fun d _ d' s cs h1 h2 h3 => ih d d' s cs h1 h2 h3)) rfl
        obtain ⟨i, hi, rfl⟩ := List.mem_iff_getElem.1 hd'
        have hi2 : i < l.length := by omega
        have hd := List.getElem?_eq_getElem hi2
        have hv2 := g2 i _ _ hd (List.getElem?_eq_getElem hi)
        have hex2 : ∃ c, All2 (LR ρ w T) (l[i]).flat c := by
         have q1 := hH.hcs
         rw [flatL_get hd] at q1
         have := (q1.drop (flatL (l.take i)).length).take (l[i]).flat.length
         rw [List.drop_left, List.take_left] at this
         exact ⟨_, this⟩
        obtain ⟨cc, hcc⟩ := hex2
        exact (ih _ _ t cc hv2 (hH.els _ (List.getElem_mem hi2)) hcc).1
       ·cases h
    ·cases h
theorem view_VR (hr : RowsOK ρ rows w T) {k : Nat} {d d' : D} {v : Value} (h : view rows k d = some d') (hv : VR ρ w T d v) : VR noPl w (Blk ρ T rows) d' v := by
 cases d with
 | agg s l =>
  obtain ⟨cs, rfl, h1, h2⟩ := hv
  obtain ⟨g1, g2⟩ := view_sound hr k _ d' s cs.toList h h1 (by simpa [D.flat] using h2)
  exact VR.ofVR1 (VR1.ofAgg g1 (agg_sh h1).2 g2)
 | tup l => cases k <;> simp [view] at h
 | _ =>
  have hl := LR.leaf hv
  obtain ⟨g1, g2⟩ := view_sound hr k _ d' .ref [v] h (.ref _ hl) (by rw [leaf_flat hl]; exact All2.single hv)
  have hl' := g1.leafOf rfl
  rw [leaf_flat hl'] at g2
  exact VR.ofLeaf g2.head
structure Back (K : D → Rows → Prop) (ρ : Pl) (T : Nat → Prop) (rows : Rows) (w : World) (e : Ending) (w' : World) : Prop where
 ex : ∃ v d rows' ρ' T', e = .returned v ∧ K d rows' ∧ RowsOK ρ' rows' w' T' ∧ (∀ r, rows'.length ≤ r → ρ' r = none) ∧ (∀ b, T' b → b < w'.heap.size) ∧ Step ρ T rows w ρ' T' rows' w' ∧ VR ρ' w' T' d v
def Meets (G : Nat → Option D) (P : Program) (f : FuncId) (A : AFun) : Prop :=
 ∀ ds rows K, A ds rows K → ∀ (ρ : Pl) (w : World) (T : Nat → Prop) (args : Array Value), RowsOK ρ rows w T → (∀ r, rows.length ≤ r → ρ r = none) → (∀ b, T b → b < w.heap.size) →
  All2 (VR ρ w T) ds args.toList → (∀ g d, G g = some d → LR noPl w T (.cptr d) (.pointer (some ⟨g, 0, none⟩))) → Calls P f args w (Back K ρ T rows w)
def Fn.run (F : Fn) : AFun := fun ds rows K => bnd (F ds rows) fun r => K r.1 r.2
structure BackQ (K : D → Rows → Prop) (ρ : Pl) (T : Nat → Prop) (rows : Rows) (w : World) (e : Ending) (w' : World) : Prop where
 ex : ∃ v d rows' ρ' T', e = .returned v ∧ K d rows' ∧ RowsOK ρ' rows' w' T' ∧ (∀ r, rows'.length ≤ r → ρ' r = none) ∧ (∀ b, T' b → b < w'.heap.size) ∧ Step ρ T rows w ρ' T' rows' w' ∧ VR ρ' w' T' d v ∧ QH ρ rows w w' ∧ ∀ b, T' b → T b ∨ w.heap.size ≤ b
def MeetsQ (G : Nat → Option D) (P : Program) (f : FuncId) (A : AFun) : Prop :=
 ∀ ds rows K, A ds rows K → ∀ (ρ : Pl) (w : World) (T : Nat → Prop) (args : Array Value), RowsOK ρ rows w T → (∀ r, rows.length ≤ r → ρ r = none) → (∀ b, T b → b < w.heap.size) →
  All2 (VR ρ w T) ds args.toList → (∀ g d, G g = some d → LR noPl w T (.cptr d) (.pointer (some ⟨g, 0, none⟩))) → Calls P f args w (BackQ K ρ T rows w)
def CtxOK (C : Ctx) (P : Program) : Prop := (∀ f F, C.fn f = some F → Meets C.glob P f (Fn.run F)) ∧ (∀ f A, C.fnr f = some A → Meets C.glob P f A) ∧ (∀ f q, C.fnq f = some q → MeetsQ C.glob P f (qrun q))
theorem CtxOK.quiet {C : Ctx} {P : Program} (h : CtxOK C P) : CtxOK C.quiet P := ⟨h.1, (fun f A hA => by cases hA), h.2.2⟩
end Go.Am
