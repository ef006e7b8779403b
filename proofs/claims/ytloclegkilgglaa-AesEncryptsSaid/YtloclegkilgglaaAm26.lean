/- The bridge: what an argument's reading says of it as data. -/
import Derived.Test.YtloclegkilgglaaAm25
import Derived.Test.YtloclegkilgglaaRows
import Derived.OpenShut
namespace Go.Am
open Go.Proofs.Ytloclegkilgglaa.Rows (uptoBulk uptoBulkAll)
set_option linter.unusedVariables false
set_option linter.unusedSimpArgs false

/-- a field list's shapes, their places checked -/
def flX (P : Program) (f : TypeId → Option Sh) : Nat → List Field → Option Sh
  | _, [] => some .nil
  | off, x :: l => match f x.type with
    | some a => bif x.offset == off && P.cellsOf x.type == a.size then (match flX P f (off + a.size) l with
      | some b => some (.cons a b)
      | none => none) else none
    | none => none
/-- a type whose values are data -/
def tyX (P : Program) : Nat → TypeId → Option Sh
  | 0, _ => none
  | n + 1, t => match P.underlying t with
    | some .bool => some (.leaf .bool)
    | some (.int k) => some (.leaf (.int k))
    | some .string => some (.leaf .str)
    | some (.struct fs) => match flX P (tyX P n) 0 fs.toList with
      | some s => bif P.cellsOf t == s.size then some s else none
      | none => none
    | some (.array m e) => match tyX P n e with
      | some a => bif P.cellsOf e == a.size && P.cellsOf t == m * a.size then some (.ar m a) else none
      | none => none
    | some (.slice e) => match tyX P n e with
      | some a => bif P.cellsOf e == a.size && Nat.blt 0 a.size then some .ref else none
      | none => none
    | _ => none
/-- data of a type -/
def DOf (P : Program) : Nat → TypeId → D → Prop
  | 0, _, _ => False
  | n + 1, t, d => match P.underlying t with
    | some .bool => ∃ b, d = .raw (.bool b)
    | some (.int k) => ∃ m, d = .raw (.int k m) ∧ (Lit.int k m).wf = true
    | some .string => ∃ b, d = .raw (.string b) ∧ b.size ≤ maxLen
    | some (.struct fs) => ∃ s l, flX P (tyX P n) 0 fs.toList = some s ∧ d = .agg s l ∧ All2 (fun (f : Field) x => DOf P n f.type x) fs.toList l
    | some (.array m e) => ∃ s l, tyX P n e = some s ∧ d = .agg (.ar m s) l ∧ l.length = m ∧ ∀ x ∈ l, DOf P n e x
    | some (.slice e) => d = .raw (.slice none 0 0) ∨ ∃ s l, tyX P n e = some s ∧ d = .lst s l false ∧ l.length ≤ maxLen ∧ ∀ x ∈ l, DOf P n e x
    | _ => False

mutual
/-- how many values and letters -/
def dbulk : D → Nat
  | .raw (.string b) => b.size + 1
  | .raw _ => 1
  | .lst _ l _ => dbulkL l + 1
  | .agg _ l => dbulkL l + 1
  | _ => 0
def dbulkL : List D → Nat
  | [] => 0
  | d :: l => dbulk d + dbulkL l
end
theorem dbulkL_app (a b : List D) : dbulkL (a ++ b) = dbulkL a + dbulkL b := by
  induction a with
  | nil => simp [dbulkL]
  | cons x a ih => simp [dbulkL, ih]; omega
theorem uall_app {H : Type} (a b : List (DataW H)) : uptoBulkAll (a ++ b) = uptoBulkAll a + uptoBulkAll b := by
  induction a with
  | nil => simp [uptoBulkAll]
  | cons x a ih => simp [uptoBulkAll, ih]; omega

def old (w : World) : Nat → Prop := fun b => b < w.heap.size


section
variable {P : Program} {H : Type} {enc : TypeId × Value → H} {w : World} {base : Nat} {spare : Nat → Bool} {held : Bool}

theorem ubulk_pos (x : DataW H) : 1 ≤ uptoBulk x := by
  cases x with
  | lit l => cases l <;> simp [uptoBulk]
  | _ => simp [uptoBulk]

theorem fields_D {m n : Nat} {cs : List Value} (ih : ∀ (t : TypeId) (cs : List Value) (x : DataW H × List MemPlace) (s : Sh), DataW.trod enc P w base spare held m t cs = some x → tyX P n t = some s → ∃ d, DOf P n t d ∧ HasSh s d ∧ All2 (LR noPl w (old w)) d.flat cs ∧ dbulk d ≤ uptoBulk x.1) :
    ∀ (fs : List Field) (xs : List (DataW H × List MemPlace)) (off : Nat) (s : Sh), flX P (tyX P n) off fs = some s → xs.length = fs.length → (∀ (i : Nat) (f : Field), fs[i]? = some f → DataW.trod enc P w base spare held m f.type ((cs.drop f.offset).take (P.cellsOf f.type)) = xs[i]?) →
    ∃ l, All2 (fun (f : Field) x => DOf P n f.type x) fs l ∧ s.isAgg = true ∧ l.length = s.count ∧ (∀ i e d, s.sub i = some e → l[i]? = some d → HasSh e d) ∧ All2 (LR noPl w (old w)) (flatL l) ((cs.drop off).take s.size) ∧ dbulkL l ≤ uptoBulkAll (xs.map (·.1))
  | [], xs, off, s, h, _, _ => by
    simp [flX] at h; subst h
    exact ⟨[], .nil, rfl, rfl, by simp [Sh.sub], by simp [flatL, Sh.size]; exact .nil, by simp [dbulkL]⟩
  | f :: fs, [], off, s, h, hxl, hx => by simp at hxl
  | f :: fs, x0 :: xs, off, s, h, hxl, hx => by
    simp only [flX] at h
    split at h
    · rename_i a ha
      cases hb : (f.offset == off && P.cellsOf f.type == a.size) with
      | false => rw [hb] at h; cases h
      | true =>
        rw [hb] at h
        simp only [cond_true] at h
        split at h
        · rename_i b hbq
          cases h
          simp only [Bool.and_eq_true, beq_iff_eq] at hb
          have hx1 := hx 0 f rfl
          obtain ⟨d, hd1, hd2, hd3, hd4⟩ := ih _ _ _ _ hx1 ha
          obtain ⟨l, g1, g2, g3, g4, g5, g6⟩ := fields_D ih fs xs (off + a.size) b hbq (by simpa using hxl) (fun i f' hf' => by simpa using hx (i + 1) f' (by simpa using hf'))
          refine ⟨d :: l, .cons hd1 g1, g2, by simp [Sh.count, g3], fun i e d' hi hd' => ?_, ?_, by simp only [dbulkL, List.map_cons, uptoBulkAll]; omega⟩
          · cases i with
            | zero => simp [Sh.sub] at hi hd'; subst hi; subst hd'; exact hd2
            | succ i => exact g4 i e d' (by simpa [Sh.sub] using hi) (by simpa using hd')
          · simp only [flatL, Sh.size]
            rw [hb.1, hb.2] at hd3
            have : (cs.drop off).take (a.size + b.size) = (cs.drop off).take a.size ++ ((cs.drop (off + a.size)).take b.size) := by
              rw [List.take_add, List.drop_drop]
            rw [this]
            exact hd3.append g5
        · cases h
    · cases h

theorem elems_D {m n : Nat} {e : TypeId} {a : Sh} (ih : ∀ (t : TypeId) (cs : List Value) (x : DataW H × List MemPlace) (s : Sh), DataW.trod enc P w base spare held m t cs = some x → tyX P n t = some s → ∃ d, DOf P n t d ∧ HasSh s d ∧ All2 (LR noPl w (old w)) d.flat cs ∧ dbulk d ≤ uptoBulk x.1)
    (ha : tyX P n e = some a) : ∀ (k : Nat) (f : Nat → List Value) (g : Nat → DataW H × List MemPlace), (∀ i, i < k → DataW.trod enc P w base spare held m e (f i) = some (g i)) →
    ∃ l, l.length = k ∧ (∀ x ∈ l, DOf P n e x) ∧ (∀ x ∈ l, HasSh a x) ∧ All2 (LR noPl w (old w)) (flatL l) ((List.range k).flatMap f) ∧ dbulkL l ≤ uptoBulkAll (((List.range k).map g).map (·.1))
  | 0, f, _, _ => ⟨[], rfl, by simp, by simp, by simp [flatL]; exact .nil, by simp [dbulkL]⟩
  | k + 1, f, g, h => by
    obtain ⟨l, g1, g2, g3, g4, g5⟩ := elems_D ih ha k f g (fun i hi => h i (by omega))
    have hx := h k (by omega)
    obtain ⟨d, h1, h2, h3, h4⟩ := ih _ _ _ _ hx ha
    refine ⟨l ++ [d], by simp [g1], ?_, ?_, ?_, by rw [dbulkL_app, List.range_succ, List.map_append, List.map_append, uall_app]; simp only [dbulkL, List.map_cons, List.map_nil, uptoBulkAll]; omega⟩
    · intro y hy
      rcases List.mem_append.1 hy with hy | hy
      · exact g2 y hy
      · simp at hy; subst hy; exact h1
    · intro y hy
      rcases List.mem_append.1 hy with hy | hy
      · exact g3 y hy
      · simp at hy; subst hy; exact h2
    · have e1 : flatL (l ++ [d]) = flatL l ++ d.flat := by
        have : ∀ l : List D, flatL (l ++ [d]) = flatL l ++ d.flat := by
          intro l
          induction l with
          | nil => simp [flatL]
          | cons q l ih => simp [flatL, ih]
        exact this l
      rw [e1, List.range_succ, List.flatMap_append]
      exact g4.append (by simpa using h3)

theorem flatMap_get {α : Type} {f : Nat → List α} {c : Nat} : ∀ (k : Nat), (∀ i, i < k → (f i).length = c) → ((List.range k).flatMap f).length = k * c ∧ ∀ i j, i < k → j < c → ((List.range k).flatMap f)[i * c + j]? = (f i)[j]?
  | 0, _ => ⟨by simp, fun i j hi => by omega⟩
  | k + 1, h => by
    obtain ⟨h1, h2⟩ := flatMap_get (f := f) (c := c) k (fun i hi => h i (by omega))
    have hk := h k (by omega)
    rw [List.range_succ, List.flatMap_append]
    have e : List.flatMap f [k] = f k := by simp
    rw [e]
    refine ⟨by rw [List.length_append, h1, hk, Nat.succ_mul], fun i j hi hj => ?_⟩
    rcases Nat.lt_or_ge i k with h3 | h3
    · have : i * c + j < k * c := by
        have : (i + 1) * c ≤ k * c := Nat.mul_le_mul_right c h3
        rw [Nat.succ_mul] at this
        omega
      rw [List.getElem?_append_left (by omega)]
      exact h2 i j h3 hj
    · have : i = k := by omega
      subst this
      rw [List.getElem?_append_right (by omega), h1]
      congr 1
      omega

theorem cells_get {a : Addr} {c : Nat} {l : List Value} (h : w.cells? base a c = some l) : l.length = c ∧ ∀ j, j < c → w.cell? (a.add j) = l[j]? := by
  unfold World.cells? at h
  split at h
  · refine ⟨by simpa using mapM_some_length h, fun j hj => ?_⟩
    exact mapM_some_get h j j (by simp [hj])
  · cases h

theorem add_add {a : Addr} (h : a.spot = none) (i j : Nat) : (a.add i).add j = ⟨a.block, a.off + (i + j), none⟩ := by
  obtain ⟨b, o, sp⟩ := a
  simp only at h
  subst h
  unfold Addr.add
  by_cases hi : i = 0 <;> by_cases hj : j = 0 <;> simp [hi, hj] <;> omega

theorem slice_D {m n : Nat} {t e : TypeId} {cs : List Value} {x : DataW H × List MemPlace} {a : Sh} (ih : ∀ (t : TypeId) (cs : List Value) (x : DataW H × List MemPlace) (s : Sh), DataW.trod enc P w base spare held m t cs = some x → tyX P n t = some s → ∃ d, DOf P n t d ∧ HasSh s d ∧ All2 (LR noPl w (old w)) d.flat cs ∧ dbulk d ≤ uptoBulk x.1)
    (ht : P.underlying t = some (.slice e)) (h : DataW.trod enc P w base spare held (m + 1) t cs = some x) (ha : tyX P n e = some a) (hc : P.cellsOf e = a.size) (h0 : 0 < a.size) :
    ∃ d v, cs = [v] ∧ (d = .raw (.slice none 0 0) ∨ ∃ s l, tyX P n e = some s ∧ d = .lst s l false ∧ l.length ≤ maxLen ∧ ∀ x ∈ l, DOf P n e x) ∧ d.isLeaf = true ∧ LR noPl w (old w) d v ∧ dbulk d ≤ uptoBulk x.1 := by
  rcases DataW.trod_slice ht h with ⟨rfl, rfl⟩ | ⟨ad, len, cap, elems, rest, m', hm, rfl, rfl, _, hlc, hcm, hel, hget, _⟩
  · exact ⟨_, _, rfl, .inl rfl, rfl, .raw _ rfl, by simp [dbulk, uptoBulk]⟩
  · have : m = m' := by omega
    subst this
    rw [hc] at hget
    let f : Nat → List Value := fun i => (w.cells? base (ad.add (i * a.size)) a.size).getD []
    have hf : ∀ i, i < len → w.cells? base (ad.add (i * a.size)) a.size = some (f i) ∧ DataW.trod enc P w base spare held m e (f i) = some (elems.getD i (.nil, [])) := by
      intro i hi
      have h1 := hget i hi
      rw [List.getElem?_eq_getElem (by omega)] at h1
      cases hcl : w.cells? base (ad.add (i * a.size)) a.size with
      | none => rw [hcl] at h1; cases h1
      | some l =>
        rw [hcl] at h1
        have : f i = l := by simp [f, hcl]
        rw [this]
        refine ⟨rfl, ?_⟩
        simp only [Option.bind_some] at h1
        rw [h1]
        simp [List.getD_eq_getElem?_getD, show i < elems.length by omega]
    obtain ⟨l, g1, g2, g3, g4, g5⟩ := elems_D ih ha len f _ (fun i hi => (hf i hi).2)
    have hmap : (List.range len).map (fun i => elems.getD i (.nil, [])) = elems := by
      apply List.ext_getElem
      · simp [hel]
      · intro i h1 h2
        simp [List.getD_eq_getElem?_getD, h2]
    rw [hmap] at g5
    refine ⟨.lst a l false, _, rfl, .inr ⟨a, l, ha, rfl, by omega, g2⟩, rfl, ?_, by simp only [dbulk, uptoBulk]; omega⟩
    have hlens : ∀ i, i < len → (f i).length = a.size := fun i hi => (cells_get (hf i hi).1).1
    obtain ⟨e1, e2⟩ := flatMap_get (f := f) len hlens
    cases len with
    | zero =>
      have : l = [] := List.eq_nil_of_length_eq_zero g1
      subst this
      exact .lst0 a false (some ad) cap (by simp) (by simp)
    | succ len =>
      have c0 := (cells_get (hf 0 (by omega)).1).2 0 h0
      have hlen0 := hlens 0 (by omega)
      rw [List.getElem?_eq_getElem (by omega)] at c0
      simp only [Nat.zero_mul] at c0
      have e0 : ((ad.add 0).add 0) = ad := by simp [Addr.add]
      rw [e0] at c0
      have hsp : ad.spot = none := by
        unfold World.cell? at c0
        split at c0
        · split at c0
          · cases c0
          · rename_i hs; simpa using hs
        · cases c0
      have hold : old w ad.block := by
        unfold World.cell? at c0
        split at c0
        · rename_i hh; exact (Array.getElem?_eq_some_iff.1 hh).1
        · cases c0
      have had : ad = ⟨ad.block, ad.off, none⟩ := by
        obtain ⟨b, o, sp⟩ := ad
        simp only at hsp
        subst hsp; rfl
      have key : LR noPl w (old w) (.lst a l false) (.slice (some ⟨ad.block, ad.off, none⟩) l.length cap) := by
        refine .lst a l false ad.block ad.off cap (fun i => ((List.range (len + 1)).flatMap f).getD i undef) g3 hold (fun i d hd => ?_) (fun i d hd => ?_) (by omega) (by simp)
        · have hi : i < (flatL l).length := lt_of_get hd
          rw [g4.len, e1] at hi
          have hq : i / a.size < len + 1 := (Nat.div_lt_iff_lt_mul h0).2 hi
          have hr : i % a.size < a.size := Nat.mod_lt _ h0
          have hi2 : i / a.size * a.size + i % a.size = i := by rw [Nat.mul_comm]; exact Nat.div_add_mod i a.size
          have c1 := (cells_get (hf _ hq).1).2 _ hr
          rw [add_add hsp, hi2, ← e2 _ _ hq hr, hi2] at c1
          rw [c1, List.getD_eq_getElem?_getD, List.getElem?_eq_getElem (by omega)]
          rfl
        · have hi : i < (flatL l).length := lt_of_get hd
          rw [g4.len] at hi
          refine g4.at_ i d _ hd ?_
          rw [List.getD_eq_getElem?_getD, List.getElem?_eq_getElem hi]
          rfl
      rw [← had, g1] at key
      exact key

theorem trod_D : ∀ (n fuel : Nat) (t : TypeId) (cs : List Value) (x : DataW H × List MemPlace) (s : Sh), DataW.trod enc P w base spare held fuel t cs = some x → tyX P n t = some s → ∃ d, DOf P n t d ∧ HasSh s d ∧ All2 (LR noPl w (old w)) d.flat cs ∧ dbulk d ≤ uptoBulk x.1
  | 0, _, _, _, _, _, _, h => by simp [tyX] at h
  | _ + 1, 0, _, _, _, _, h, _ => by simp [DataW.trod] at h
  | n + 1, m + 1, t, cs, x, s, h, hs => by
    have ih := trod_D n m
    have h' := h
    simp only [tyX] at hs
    simp only [DOf]
    unfold DataW.trod at h
    cases hu : P.underlying t with
    | none => simp [hu] at hs
    | some u =>
      rw [hu] at h
      simp only [hu] at hs
      cases u with
      | bool =>
        cases hs
        have : ∃ b, cs = [.bool b] := by split at h <;> simp_all
        obtain ⟨b, rfl⟩ := this
        exact ⟨.raw (.bool b), ⟨b, rfl⟩, .leaf _ _ rfl, All2.single (.raw _ rfl), by simp only [dbulk]; exact ubulk_pos _⟩
      | int k =>
        cases hs
        have : ∃ q, cs = [.int k q] ∧ (Lit.int k q).wf = true := by split at h <;> simp_all
        obtain ⟨q, rfl, hw⟩ := this
        exact ⟨.raw (.int k q), ⟨q, rfl, hw⟩, .leaf _ _ (by simp [isSc]), All2.single (.raw _ rfl), by simp only [dbulk]; exact ubulk_pos _⟩
      | string =>
        cases hs
        obtain ⟨b, rfl, rfl, hw⟩ := DataW.trod_string hu h'
        exact ⟨.raw (.string b), ⟨b, rfl, hw⟩, .leaf _ _ rfl, All2.single (.raw _ rfl), by simp [dbulk, uptoBulk]⟩
      | struct fs =>
        clear h
        simp only at hs
        split at hs
        · rename_i s' hfl
          cases hb : (P.cellsOf t == s'.size) with
          | false => rw [hb] at hs; cases hs
          | true =>
            rw [hb] at hs
            cases hs
            obtain ⟨xs, m', hm, rfl, hlen, hxl, hget⟩ := DataW.trod_struct hu h'
            have : m = m' := by omega
            subst this
            obtain ⟨l, g1, g2, g3, g4, g5, g6⟩ := fields_D (cs := cs) ih fs.toList xs 0 s hfl (by simpa using hxl) (fun i f hf => hget i f (by simpa using hf))
            refine ⟨.agg s l, ⟨s, l, hfl, rfl, g1⟩, .agg s l g2 g3 g4, ?_, by simp only [dbulk, uptoBulk]; omega⟩
            have hb' : P.cellsOf t = s.size := by simpa using hb
            simp only [List.drop_zero] at g5
            rw [List.take_of_length_le (by omega)] at g5
            simpa [D.flat] using g5
        · cases hs
      | array k e =>
        clear h
        simp only at hs
        split at hs
        · rename_i a ha
          cases hb : (P.cellsOf e == a.size && P.cellsOf t == k * a.size) with
          | false => rw [hb] at hs; cases hs
          | true =>
            rw [hb] at hs
            cases hs
            simp only [Bool.and_eq_true, beq_iff_eq] at hb
            obtain ⟨xs, m', hm, rfl, hlen, hxl, hget⟩ := DataW.trod_array hu h'
            have : m = m' := by omega
            subst this
            rw [hb.1] at hget
            obtain ⟨l, g1, g2, g3, g4, g5⟩ := elems_D ih ha k (fun i => (cs.drop (i * a.size)).take a.size) (fun i => xs.getD i (.nil, [])) (fun i hi => by
              have := hget i hi
              rw [this]
              simp [List.getD_eq_getElem?_getD, show i < xs.length by omega])
            have hmap : (List.range k).map (fun i => xs.getD i (.nil, [])) = xs := by
              apply List.ext_getElem
              · simp [hxl]
              · intro i h1 h2
                simp [List.getD_eq_getElem?_getD, h2]
            rw [hmap] at g5
            refine ⟨.agg (.ar k a) l, ⟨a, l, ha, rfl, g1, g2⟩, .agg _ l rfl (by simp [Sh.count, g1]) (fun i e' d' hi hd' => ?_), ?_, by simp only [dbulk, uptoBulk]; omega⟩
            · simp only [Sh.sub] at hi
              split at hi
              · cases hi; exact g3 d' (mem_of_get hd')
              · cases hi
            · have e1 : (List.range k).flatMap (fun i => (cs.drop (i * a.size)).take a.size) = cs.take (k * a.size) := by
                clear g4 g5 hmap g1 hget hxl hlen hb hu h'
                induction k with
                | zero => simp
                | succ k ihk =>
                  rw [List.range_succ, List.flatMap_append, ihk, Nat.succ_mul, List.take_add]
                  simp
              rw [e1, List.take_of_length_le (by omega)] at g4
              simpa [D.flat] using g4
        · cases hs
      | slice e =>
        clear h
        simp only at hs
        split at hs
        · rename_i a ha
          cases hb : (P.cellsOf e == a.size && Nat.blt 0 a.size) with
          | false => rw [hb] at hs; cases hs
          | true =>
            rw [hb] at hs
            cases hs
            simp only [Bool.and_eq_true, beq_iff_eq] at hb
            obtain ⟨d, v, rfl, h1, h2, h3, h4⟩ := slice_D ih hu h' ha hb.1 (Nat.blt_eq.mp hb.2)
            exact ⟨d, h1, .ref d h2, by rw [leaf_flat h2]; exact All2.single h3, h4⟩
        · cases hs
      | _ => cases hs
end
end Go.Am
