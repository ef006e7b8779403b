/- Calls, regions, code, functions. -/
import Derived.Test.YtloclegkilgglaaAm14
import Derived.LoopN
namespace Go.Am
set_option linter.unusedVariables false
set_option linter.unusedSimpArgs false

variable {C : Ctx} {P : Program} {n : Nat} {ρ : Pl} {T : Nat → Prop} {env : Env} {rows : Rows} {a : Act} {w : World}

theorem mapO_get {α β : Type} {f : α → Option β} : ∀ {l : List α} {l' : List β}, mapO f l = some l' → l'.length = l.length ∧ ∀ (i : Nat) (x : α) (y : β), l[i]? = some x → l'[i]? = some y → f x = some y
  | [], l', h => by simp [mapO] at h; subst h; simp
  | x :: l, l', h => by
    simp only [mapO] at h
    split at h
    · rename_i y hy
      split at h
      · rename_i ys hys
        cases h
        obtain ⟨h1, h2⟩ := mapO_get hys
        refine ⟨by simp [h1], fun i a b ha hb => ?_⟩
        cases i with
        | zero => simp at ha hb; subst ha; subst hb; exact hy
        | succ i => exact h2 i a b (by simpa using ha) (by simpa using hb)
      · cases h
    · cases h

/-- a list of values' cells, value by value -/
theorem flatL_mapO {f : D → Option D} {R : D → Value → Prop} : ∀ {l l' : List D} {cs : List Value}, mapO f l = some l' → All2 (LR ρ w T) (flatL l) cs →
    (∀ d ∈ l, ∃ s, HasSh s d) → (∀ d ∈ l, ∀ d' s cs, f d = some d' → HasSh s d → All2 (LR ρ w T) d.flat cs → HasSh s d' ∧ All2 R d'.flat cs) → All2 R (flatL l') cs
  | [], l', cs, h, hc, _, _ => by
    simp [mapO] at h; subst h
    have : cs = [] := List.eq_nil_of_length_eq_zero (by simpa [flatL] using hc.len.symm)
    subst this
    exact .nil
  | x :: l, l', cs, h, hc, hs, hf => by
    simp only [mapO] at h
    split at h
    · rename_i y hy
      split at h
      · rename_i ys hys
        cases h
        simp only [flatL] at hc ⊢
        obtain ⟨s, hsx⟩ := hs x (by simp)
        have h1 := hc.take x.flat.length
        have h2 := hc.drop x.flat.length
        rw [List.take_left] at h1
        rw [List.drop_left] at h2
        obtain ⟨g1, g2⟩ := hf x (by simp) y s _ hy hsx h1
        have g3 := flatL_mapO hys h2 (fun d hd => hs d (by simp [hd])) (fun d hd => hf d (by simp [hd]))
        have := g2.append g3
        rwa [List.take_append_drop] at this
      · cases h
    · cases h

theorem RowsOK.readPtrB (h : RowsOK ρ rows w T) {s : Sh} {r : Nat} {p : List Nat} {v : Value} {row : Row} {d : D} (hv : LR ρ w T (.ptr s r p) v) (hl : live rows r = some row) (hg : rowGet row.els p = some d) :
    ∃ b o cs, v = .pointer (some ⟨b, o, none⟩) ∧ HasSh s d ∧ All2 (LR ρ w T) d.flat cs ∧ At w b o cs ∧ Blk ρ T rows b := by
  cases hv with
  | ptr _ _ _ L hL hp =>
    obtain ⟨b, o, cs, h1, h2, h3, h4⟩ := h.readPtr (.ptr s r p L hL hp) hl hg
    cases h1
    exact ⟨L.b, L.off p, cs, rfl, h2, h3, h4, .inr ⟨r, row, L, hl, hL, rfl⟩⟩

theorem view_sound (hr : RowsOK ρ rows w T) : ∀ (k : Nat) (d d' : D) (s : Sh) (cs : List Value), view rows k d = some d' → HasSh s d → All2 (LR ρ w T) d.flat cs →
    HasSh s d' ∧ All2 (LR noPl w (Blk ρ T rows)) d'.flat cs
  | 0, d, d', s, cs, h, _, _ => by simp [view] at h
  | k + 1, d, d', s, cs, h, hsh, hc => by
    have ih := fun d d' s cs => view_sound hr k d d' s cs
    cases d with
    | raw v =>
      simp [view] at h
      subst h
      exact ⟨hsh, hc.ofRaw (by simp [D.flat])⟩
    | aptr => simp [view] at h
    | ptr t r p =>
      have hleaf : (D.ptr t r p).isLeaf = true := rfl
      rw [leaf_flat hleaf] at hc
      have hlen1 := hc.len
      match cs, hlen1 with
      | [v], _ =>
        have hv := hc.head
        have hsref : s = .ref := by
          cases hsh with
          | ref => rfl
        subst hsref
        simp only [view] at h
        split at h
        · rename_i row hl
          split at h
          · rename_i d0 hg
            obtain ⟨b, o', cs', hx, m1, m2, m3⟩ := hr.readPtrB hv hl hg
            cases hp : t.pure with
            | true =>
              simp [hp] at h
              subst h
              refine ⟨.ref _ rfl, ?_⟩
              rw [leaf_flat rfl, hx]
              exact All2.single (LR.mkCptr m1 m3.2 (m2.ofRaw (pure_flat m1 hp)) m3.1)
            | false =>
              simp only [hp, cond_false] at h
              split at h
              · rename_i d1 hd1
                cases h
                obtain ⟨q1, q2⟩ := ih d0 d1 t cs' hd1 m1 m2
                refine ⟨.ref _ rfl, ?_⟩
                rw [leaf_flat rfl, hx]
                exact All2.single (LR.mkCptr q1 m3.2 q2 m3.1)
              · cases h
          · cases h
        · cases h
    | cptr => simp [view] at h
    | tup => simp [view] at h
    | agg t l =>
      obtain ⟨rfl, ha⟩ := agg_sh hsh
      simp only [view] at h
      cases hp : s.pure with
      | true =>
        simp [hp] at h
        subst h
        exact ⟨hsh, hc.ofRaw (pure_flat hsh hp)⟩
      | false =>
        simp only [hp, cond_false] at h
        split at h
        · rename_i l' hl'
          cases h
          obtain ⟨l2, e2, hlen, hsub⟩ := hsh.aggOf ha
          cases e2
          obtain ⟨g1, g2⟩ := mapO_get hl'
          have hex : ∀ d ∈ l, ∃ e, HasSh e d := by
            intro d hd
            obtain ⟨i, hi, rfl⟩ := List.mem_iff_getElem.1 hd
            obtain ⟨e, he⟩ := count_sub (s := s) (i := i) (by omega)
            exact ⟨e, hsub i e _ he (List.getElem?_eq_getElem hi)⟩
          simp only [D.flat] at hc
          have hc2 := flatL_mapO (R := LR noPl w (Blk ρ T rows)) hl' hc hex (fun d _ d' s cs h1 h2 h3 => ih d d' s cs h1 h2 h3)
          refine ⟨.agg s l' ha (by omega) (fun i e d' hi hd' => ?_), by simpa [D.flat] using hc2⟩
          have hi2 : i < l.length := by have := lt_of_get hd'; omega
          have hd := List.getElem?_eq_getElem hi2
          have hv := g2 i _ d' hd hd'
          have hsd := hsub i e _ hi hd
          obtain ⟨q1, q2, q3⟩ := hsh.part ha hi
          -- its own cells
          have hex2 : ∃ c, All2 (LR ρ w T) (l[i]).flat c := by
            rw [flatL_get hd] at hc
            have := (hc.drop (flatL (l.take i)).length).take (l[i]).flat.length
            rw [List.drop_left, List.take_left] at this
            exact ⟨_, this⟩
          obtain ⟨c, hcc⟩ := hex2
          exact (ih _ _ e c hv hsd hcc).1
        · cases h
    | lst t l ex =>
      have hleaf : (D.lst t l ex).isLeaf = true := rfl
      rw [leaf_flat hleaf] at hc
      have hlen1 := hc.len
      match cs, hlen1 with
      | [v], _ =>
        have hv := hc.head
        have hsref : s = .ref := by
          cases hsh with
          | ref => rfl
        subst hsref
        have key : ∀ l', (∀ d ∈ l', HasSh t d) → l'.length = l.length → (∀ c, All2 (LR ρ w T) (flatL l) c → All2 (LR noPl w (Blk ρ T rows)) (flatL l') c) → d' = .lst t l' ex → HasSh .ref d' ∧ All2 (LR noPl w (Blk ρ T rows)) d'.flat [v] := by
          intro l' h1 h2 h3 h4
          subst h4
          refine ⟨.ref _ rfl, ?_⟩
          rw [leaf_flat rfl]
          refine All2.single ?_
          cases hv with
          | lst0 _ _ ad cap c1 c2 =>
            have : l' = [] := List.eq_nil_of_length_eq_zero (by simpa using h2)
            subst this
            exact .lst0 _ _ _ _ c1 c2
          | lst _ _ _ b o' cap f c1 hb c2 c3 c4 c5 =>
            obtain ⟨q1, q2⟩ := lr_at (d := default) c2 c3
            rw [← h2]
            exact LR.mkLst h1 (.inl hb) (h3 _ q1) q2 (by omega) (by rw [h2]; exact c5)
        have hels : ∀ d ∈ l, HasSh t d := by
          cases hv with
          | lst0 => simp
          | lst _ _ _ _ _ _ _ c1 => exact c1
        simp only [view] at h
        cases hp : t.pure with
        | true =>
          simp [hp] at h
          exact key l hels rfl (fun c hc => hc.ofRaw (pure_flatL hels hp)) h.symm
        | false =>
          simp only [hp, cond_false] at h
          split at h
          · rename_i l' hl'
            cases h
            obtain ⟨g1, g2⟩ := mapO_get hl'
            refine key l' (fun d' hd' => ?_) g1 (fun c hc => flatL_mapO (R := LR noPl w (Blk ρ T rows)) hl' hc (fun d hd => ⟨t, hels d hd⟩) (fun d _ d' s cs h1 h2 h3 => ih d d' s cs h1 h2 h3)) rfl
            obtain ⟨i, hi, rfl⟩ := List.mem_iff_getElem.1 hd'
            have hi2 : i < l.length := by omega
            have hd := List.getElem?_eq_getElem hi2
            have hv2 := g2 i _ _ hd (List.getElem?_eq_getElem hi)
            have hex2 : ∃ c, All2 (LR ρ w T) (l[i]).flat c := by
              cases hv with
              | lst0 => simp at hi2
              | lst _ _ _ b o' cap f c1 hb c2 c3 c4 c5 =>
                obtain ⟨q1, q2⟩ := lr_at (d := default) c2 c3
                rw [flatL_get hd] at q1
                have := (q1.drop (flatL (l.take i)).length).take (l[i]).flat.length
                rw [List.drop_left, List.take_left] at this
                exact ⟨_, this⟩
            obtain ⟨c, hcc⟩ := hex2
            exact (ih _ _ t c hv2 (hels _ (List.getElem_mem hi2)) hcc).1
          · cases h
    | sl t r p off len ex =>
      have hleaf : (D.sl t r p off len ex).isLeaf = true := rfl
      rw [leaf_flat hleaf] at hc
      have hlen1 := hc.len
      match cs, hlen1 with
      | [v], _ =>
        have hv := hc.head
        have hsref : s = .ref := by
          cases hsh with
          | ref => rfl
        subst hsref
        simp only [view] at h
        split at h
        · rename_i l hl
          cases hll : (l.length == len) with
          | false => rw [hll] at h; simp at h
          | true =>
            rw [hll] at h
            simp only [Bool.not_true, cond_false] at h
            have hlen : l.length = len := by simpa using hll
            obtain ⟨ad, cap, c, hH⟩ := hr.holds (s := t) hv hl rfl hlen (by simp [sshape])
            have hexc : ex = true → cap = len := by
              intro hx
              have hv' := hv
              rw [hH.hv] at hv'
              cases hv' with
              | sl _ _ _ _ _ _ _ _ _ _ c2 _ => exact c2 hx
              | slz => rfl
            have key : ∀ l', (∀ d ∈ l', HasSh t d) → l'.length = l.length → All2 (LR noPl w (Blk ρ T rows)) (flatL l') c → d' = .lst t l' ex → HasSh .ref d' ∧ All2 (LR noPl w (Blk ρ T rows)) d'.flat [v] := by
              intro l' h1 h2 h3 h4
              subst h4
              refine ⟨.ref _ rfl, ?_⟩
              rw [leaf_flat rfl, hH.hv]
              refine All2.single ?_
              by_cases hz : len = 0
              · have : l' = [] := List.eq_nil_of_length_eq_zero (by omega)
                subst this
                rw [hz]
                exact .lst0 _ _ _ _ (fun hx => by rw [hexc hx, hz]) hH.nil
              · obtain ⟨b, o', had, hB⟩ := hH.adr hz
                have hat : At w b o' c := by
                  intro j x hx
                  obtain ⟨b2, o2', e1, e2⟩ := hH.at_ j x hx
                  rw [had] at e1
                  cases e1
                  exact e2
                rw [had]
                have e : len = l'.length := by omega
                have hcap := hH.hcap
                rw [e]
                exact LR.mkLst h1 hB h3 hat (by omega) (fun hx => by rw [hexc hx, e])
            cases hp : t.pure with
            | true =>
              simp [hp] at h
              exact key l hH.els rfl (hH.hcs.ofRaw (pure_flatL hH.els hp)) h.symm
            | false =>
              simp only [hp, cond_false] at h
              split at h
              · rename_i l' hl'
                cases h
                obtain ⟨g1, g2⟩ := mapO_get hl'
                refine key l' (fun d' hd' => ?_) g1 (flatL_mapO (R := LR noPl w (Blk ρ T rows)) hl' hH.hcs (fun d hd => ⟨t, hH.els d hd⟩) (fun d _ d' s cs h1 h2 h3 => ih d d' s cs h1 h2 h3)) rfl
                obtain ⟨i, hi, rfl⟩ := List.mem_iff_getElem.1 hd'
                have hi2 : i < l.length := by omega
                have hd := List.getElem?_eq_getElem hi2
                have hv2 := g2 i _ _ hd (List.getElem?_eq_getElem hi)
                have hex2 : ∃ c, All2 (LR ρ w T) (l[i]).flat c := by
                  have q1 := hH.hcs
                  rw [flatL_get hd] at q1
                  have := (q1.drop (flatL (l.take i)).length).take (l[i]).flat.length
                  rw [List.drop_left, List.take_left] at this
                  exact ⟨_, this⟩
                obtain ⟨cc, hcc⟩ := hex2
                exact (ih _ _ t cc hv2 (hH.els _ (List.getElem_mem hi2)) hcc).1
              · cases h
        · cases h

theorem leaf_ref {d : D} (h : d.isLeaf = true) : HasSh .ref d := .ref d h

theorem view_VR (hr : RowsOK ρ rows w T) {k : Nat} {d d' : D} {v : Value} (h : view rows k d = some d') (hv : VR ρ w T d v) : VR noPl w (Blk ρ T rows) d' v := by
  cases d with
  | agg s l =>
    obtain ⟨cs, rfl, h1, h2⟩ := hv
    obtain ⟨g1, g2⟩ := view_sound hr k _ d' s cs.toList h h1 (by simpa [D.flat] using h2)
    exact VR.ofVR1 (VR1.ofAgg g1 (agg_sh h1).2 g2)
  | tup l => cases k <;> simp [view] at h
  | _ =>
    have hl := LR.leaf hv
    obtain ⟨g1, g2⟩ := view_sound hr k _ d' .ref [v] h (.ref _ hl) (by rw [leaf_flat hl]; exact All2.single hv)
    have hl' := g1.leafOf rfl
    rw [leaf_flat hl'] at g2
    exact VR.ofLeaf g2.head

/-- what a function's contract says -/
structure Back (K : D → Rows → Prop) (ρ : Pl) (T : Nat → Prop) (rows : Rows) (w : World) (e : Ending) (w' : World) : Prop where
  ex : ∃ v d rows' ρ' T', e = .returned v ∧ K d rows' ∧ RowsOK ρ' rows' w' T' ∧ (∀ r, rows'.length ≤ r → ρ' r = none) ∧ (∀ b, T' b → b < w'.heap.size) ∧ Step ρ T rows w ρ' T' rows' w' ∧ VR ρ' w' T' d v

def Meets (G : Nat → Option D) (P : Program) (f : FuncId) (A : AFun) : Prop :=
  ∀ ds rows K, A ds rows K → ∀ (ρ : Pl) (w : World) (T : Nat → Prop) (args : Array Value), RowsOK ρ rows w T → (∀ r, rows.length ≤ r → ρ r = none) → (∀ b, T b → b < w.heap.size) →
    All2 (VR ρ w T) ds args.toList → (∀ g d, G g = some d → LR noPl w T (.cptr d) (.pointer (some ⟨g, 0, none⟩))) → Calls P f args w (Back K ρ T rows w)

/-- a contract as a transformer -/
def Fn.run (F : Fn) : AFun := fun ds rows K => bnd (F ds rows) fun r => K r.1 r.2

def CtxOK (C : Ctx) (P : Program) : Prop := (∀ f F, C.fn f = some F → Meets C.glob P f (Fn.run F)) ∧ (∀ f A, C.fnr f = some A → Meets C.glob P f A)
theorem CtxOK.quiet {C : Ctx} {P : Program} (h : CtxOK C P) : CtxOK C.quiet P := ⟨h.1, fun f A hA => by cases hA⟩

end Go.Am
