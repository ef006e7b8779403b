/- Shapes and cells: plain lemmas. -/
import Derived.Test.YtloclegkilgglaaAm2
namespace Go.Am
set_option linter.unusedSimpArgs false
set_option linter.unusedVariables false

/-- two lists, place by place -/
structure All2 {α β : Type} (R : α → β → Prop) (l : List α) (m : List β) : Prop where
  len : l.length = m.length
  at_ : ∀ (i : Nat) (a : α) (b : β), l[i]? = some a → m[i]? = some b → R a b

theorem All2.nil {α β : Type} {R : α → β → Prop} : All2 R [] [] := ⟨rfl, by simp⟩
theorem All2.mono {α β : Type} {R S : α → β → Prop} {l : List α} {m : List β} (h : All2 R l m) (hs : ∀ a b, R a b → S a b) : All2 S l m :=
  ⟨h.len, fun i a b ha hb => hs _ _ (h.at_ i a b ha hb)⟩
theorem All2.append {α β : Type} {R : α → β → Prop} {l l' : List α} {m m' : List β} (h : All2 R l m) (h' : All2 R l' m') : All2 R (l ++ l') (m ++ m') := by
  refine ⟨by simp [h.len, h'.len], fun i a b ha hb => ?_⟩
  rw [List.getElem?_append] at ha hb
  have hl := h.len
  by_cases hi : i < l.length
  · rw [if_pos hi] at ha
    rw [if_pos (by omega)] at hb
    exact h.at_ i a b ha hb
  · rw [if_neg hi] at ha
    rw [if_neg (by omega)] at hb
    exact h'.at_ (i - l.length) a b ha (by rw [hl]; exact hb)
theorem All2.take {α β : Type} {R : α → β → Prop} {l : List α} {m : List β} (h : All2 R l m) (n : Nat) : All2 R (l.take n) (m.take n) := by
  refine ⟨by simp [h.len], fun i a b ha hb => ?_⟩
  rw [List.getElem?_take] at ha hb
  split at ha
  · rename_i hi
    rw [if_pos hi] at hb
    exact h.at_ i a b ha hb
  · cases ha
theorem All2.drop {α β : Type} {R : α → β → Prop} {l : List α} {m : List β} (h : All2 R l m) (n : Nat) : All2 R (l.drop n) (m.drop n) := by
  refine ⟨by simp [h.len], fun i a b ha hb => ?_⟩
  rw [List.getElem?_drop] at ha hb
  exact h.at_ _ a b ha hb
theorem All2.left {α β : Type} {R : α → β → Prop} {l l' : List α} {m m' : List β} (h : All2 R (l ++ l') (m ++ m')) (hl : l.length = m.length) : All2 R l m := by
  have := h.take l.length
  rwa [List.take_left, hl, List.take_left] at this
theorem All2.right {α β : Type} {R : α → β → Prop} {l l' : List α} {m m' : List β} (h : All2 R (l ++ l') (m ++ m')) (hl : l.length = m.length) : All2 R l' m' := by
  have := h.drop l.length
  rwa [List.drop_left, hl, List.drop_left] at this
theorem All2.single {α β : Type} {R : α → β → Prop} {a : α} {b : β} (h : R a b) : All2 R [a] [b] := by
  refine ⟨rfl, fun i x y hx hy => ?_⟩
  cases i with
  | zero => simp at hx hy; subst hx; subst hy; exact h
  | succ i => simp at hx
theorem All2.cons {α β : Type} {R : α → β → Prop} {a : α} {b : β} {l : List α} {m : List β} (h : R a b) (h' : All2 R l m) : All2 R (a :: l) (b :: m) :=
  (All2.single h).append h'
theorem All2.head {α β : Type} {R : α → β → Prop} {a : α} {b : β} {l : List α} {m : List β} (h : All2 R (a :: l) (b :: m)) : R a b := h.at_ 0 a b rfl rfl
theorem All2.tail {α β : Type} {R : α → β → Prop} {a : α} {b : β} {l : List α} {m : List β} (h : All2 R (a :: l) (b :: m)) : All2 R l m :=
  All2.right (l := [a]) (m := [b]) h rfl
theorem All2.some {α β : Type} {R : α → β → Prop} {l : List α} {m : List β} (h : All2 R l m) {i : Nat} {a : α} (ha : l[i]? = some a) : ∃ b, m[i]? = some b ∧ R a b := by
  have hi : i < l.length := by
    rcases Nat.lt_or_ge i l.length with h' | h'
    · exact h'
    · simp [List.getElem?_eq_none h'] at ha
  have hm : i < m.length := by have := h.len; omega
  exact ⟨m[i], List.getElem?_eq_getElem hm, h.at_ i a _ ha (List.getElem?_eq_getElem hm)⟩

theorem flatL_append (l m : List D) : flatL (l ++ m) = flatL l ++ flatL m := by
  induction l with
  | nil => simp [flatL]
  | cons d l ih => simp [flatL, ih]
theorem flatL_get {l : List D} {i : Nat} {d : D} (h : l[i]? = some d) : flatL l = flatL (l.take i) ++ (d.flat ++ flatL (l.drop (i + 1))) := by
  have hi : i < l.length := by
    rcases Nat.lt_or_ge i l.length with h' | h'
    · exact h'
    · simp [List.getElem?_eq_none h'] at h
  have hd : l[i] = d := by rw [List.getElem?_eq_getElem hi] at h; exact Option.some.inj h
  have hsplit : l = l.take i ++ d :: l.drop (i + 1) := by
    rw [← hd, ← List.drop_eq_getElem_cons hi, List.take_append_drop]
  calc flatL l = flatL (l.take i ++ d :: l.drop (i + 1)) := by rw [← hsplit]
    _ = _ := by rw [flatL_append]; simp [flatL]
theorem flatL_set {l : List D} {i : Nat} {d : D} (h : i < l.length) : flatL (l.set i d) = flatL (l.take i) ++ (d.flat ++ flatL (l.drop (i + 1))) := by
  have h1 : (l.set i d)[i]? = some d := by simp [h]
  rw [flatL_get h1]
  congr 2
  · rw [List.take_set_of_le (Nat.le_refl _)]
  · rw [List.drop_set_of_lt (by omega)]

/-- a shape's data has the shape's size; its parts lie one behind the other -/
theorem agg_len : ∀ (s : Sh) (l : List D), s.isAgg = true → l.length = s.count → (∀ i e d, s.sub i = some e → l[i]? = some d → d.flat.length = e.size) →
    (flatL l).length = s.size ∧ ∀ i, i ≤ l.length → (flatL (l.take i)).length = s.offs i ∨ (i = l.length)
  | .nil, l, _, hl, _ => by
    simp [Sh.count] at hl
    subst hl
    simp [flatL, Sh.size]
  | .cons a b, [], _, hl, _ => by simp [Sh.count] at hl
  | .cons a b, x :: l, ha, hl, h => by
    have hb := agg_len b l (by simpa [Sh.isAgg] using ha) (by simpa [Sh.count] using hl) (fun i e d hs hd => h (i + 1) e d (by simpa [Sh.sub] using hs) (by simpa using hd))
    have h0 := h 0 a x rfl rfl
    refine ⟨by simp [flatL, Sh.size, h0, hb.1], fun i hi => ?_⟩
    cases i with
    | zero => left; simp [flatL, Sh.offs]
    | succ i =>
      rcases hb.2 i (by simpa using hi) with h1 | h1
      · left; simp [flatL, Sh.offs, h0, h1]
      · right; simp [h1]
  | .ar n s, l, _, hl, h => by
    have hl' : l.length = n := hl
    have key : ∀ (m : List D) (k : Nat), (∀ d, d ∈ m → d.flat.length = s.size) → (flatL m).length = m.length * s.size := by
      intro m k hm
      induction m with
      | nil => simp [flatL]
      | cons d m ih =>
        have h1 := hm d (by simp)
        have h2 := ih (fun e he => hm e (by simp [he]))
        simp [flatL, h1, h2, Nat.succ_mul, Nat.add_comm]
    have hall : ∀ d, d ∈ l → d.flat.length = s.size := by
      intro d hd
      obtain ⟨i, hi, rfl⟩ := List.mem_iff_getElem.1 hd
      exact h i s _ (by simp [Sh.sub]; omega) (List.getElem?_eq_getElem hi)
    refine ⟨by rw [key l 0 hall, hl']; rfl, fun i hi => .inl ?_⟩
    rw [key (l.take i) 0 (fun d hd => hall d (List.mem_of_mem_take hd)), List.length_take, Nat.min_eq_left hi]
    rfl
  | .leaf _, _, h, _, _ => by simp [Sh.isAgg] at h
  | .ref, _, h, _, _ => by simp [Sh.isAgg] at h

theorem isSc_one {v : Value} {k : Sc} (h : isSc v k = true) : v.oneCell' = true := by
  cases v <;> cases k <;> simp_all [isSc, Value.oneCell']

theorem leaf_flat {d : D} (h : d.isLeaf = true) : d.flat = [d] := by
  cases d <;> simp_all [D.isLeaf, D.flat]

theorem HasSh.len {s : Sh} {d : D} (h : HasSh s d) : d.flat.length = s.size := by
  induction h with
  | leaf k v hv => simp [D.flat, Sh.size]
  | ref d hd => simp [leaf_flat hd, Sh.size]
  | agg s l ha hl hsub ih => simpa [D.flat] using (agg_len s l ha hl ih).1

theorem HasSh.aggOf {s : Sh} {d : D} (h : HasSh s d) (ha : s.isAgg = true) : ∃ l, d = .agg s l ∧ l.length = s.count ∧ ∀ i e d, s.sub i = some e → l[i]? = some d → HasSh e d := by
  cases h with
  | leaf k v hv => simp [Sh.isAgg] at ha
  | ref d hd => simp [Sh.isAgg] at ha
  | agg s l _ hl hsub => exact ⟨l, rfl, hl, hsub⟩
theorem HasSh.leafOf {s : Sh} {d : D} (h : HasSh s d) (ha : s.isAgg = false) : d.isLeaf = true := by
  cases h with
  | leaf k v hv => simp [D.isLeaf]; exact isSc_one hv
  | ref d hd => exact hd
  | agg s l h _ _ => simp [h] at ha

theorem sub_count : ∀ {s : Sh} {i : Nat} {e : Sh}, s.sub i = some e → s.isAgg = true ∨ s.isAgg = false → i < s.count
  | .cons a b, 0, e, h, _ => by simp [Sh.count]
  | .cons a b, i + 1, e, h, _ => by
    have := sub_count (s := b) (i := i) (e := e) (by simpa [Sh.sub] using h) (by cases b.isAgg <;> simp)
    simp [Sh.count]; omega
  | .ar n s, i, e, h, _ => by
    simp only [Sh.sub] at h
    split at h
    · simpa [Sh.count]
    · cases h
  | .leaf _, _, _, h, _ => by simp [Sh.sub] at h
  | .ref, _, _, h, _ => by simp [Sh.sub] at h
  | .nil, _, _, h, _ => by simp [Sh.sub] at h
theorem sub_lt {s : Sh} {i : Nat} {e : Sh} (h : s.sub i = some e) : i < s.count := sub_count h (by cases s.isAgg <;> simp)

theorem count_sub : ∀ {s : Sh} {i : Nat}, i < s.count → ∃ e, s.sub i = some e
  | .cons a b, 0, _ => ⟨a, rfl⟩
  | .cons a b, i + 1, h => by
    obtain ⟨e, he⟩ := count_sub (s := b) (i := i) (by simp [Sh.count] at h; omega)
    exact ⟨e, by simpa [Sh.sub] using he⟩
  | .ar n s, i, h => ⟨s, by simp [Sh.sub]; simpa [Sh.count] using h⟩
  | .leaf _, _, h => by simp [Sh.count] at h
  | .ref, _, h => by simp [Sh.count] at h
  | .nil, _, h => by simp [Sh.count] at h

/-- a part of a struct or an array -/
theorem HasSh.part {s : Sh} {l : List D} (h : HasSh s (.agg s l)) (ha : s.isAgg = true) {i : Nat} {e : Sh} (hs : s.sub i = some e) :
    ∃ d, l[i]? = some d ∧ HasSh e d ∧ (flatL (l.take i)).length = s.offs i := by
  obtain ⟨l', hl', hlen, hsub⟩ := h.aggOf ha
  cases hl'
  have hi : i < l.length := by rw [hlen]; exact sub_lt hs
  refine ⟨l[i], List.getElem?_eq_getElem hi, hsub i e _ hs (List.getElem?_eq_getElem hi), ?_⟩
  rcases (agg_len s l ha hlen (fun i e d h1 h2 => (hsub i e d h1 h2).len)).2 i (by omega) with h1 | h1
  · exact h1
  · omega
theorem HasSh.setPart {s : Sh} {l : List D} (h : HasSh s (.agg s l)) (ha : s.isAgg = true) {i : Nat} {e : Sh} {d : D} (hs : s.sub i = some e) (hd : HasSh e d) : HasSh s (.agg s (l.set i d)) := by
  obtain ⟨l', hl', hlen, hsub⟩ := h.aggOf ha
  cases hl'
  refine .agg s _ ha (by simp [hlen]) fun j e' d' hj hd' => ?_
  rw [List.getElem?_set] at hd'
  split at hd'
  · rename_i hij
    subst hij
    split at hd'
    · cases hd'
      rw [hs] at hj
      cases hj
      exact hd
    · cases hd'
  · exact hsub j e' d' hj hd'

theorem at_isAgg {s : Sh} {i : Nat} {p : List Nat} {e : Sh} {d : D} (hd : HasSh s d) (h : s.at (i :: p) = some e) : ∃ u l, s.sub i = some u ∧ u.at p = some e ∧ s.isAgg = true ∧ d = .agg s l := by
  simp only [Sh.at] at h
  cases hs : s.sub i with
  | none => simp [hs] at h
  | some u =>
    simp only [hs] at h
    have ha : s.isAgg = true := by
      cases hd with
      | leaf k v hv => simp [Sh.sub] at hs
      | ref d hd => simp [Sh.sub] at hs
      | agg s l h _ _ => exact h
    obtain ⟨l, rfl, _⟩ := hd.aggOf ha
    exact ⟨u, l, rfl, h, ha, rfl⟩

/-- what lies at a path: where its cells are -/
theorem get_spec : ∀ (p : List Nat) {s e : Sh} {d : D}, HasSh s d → s.at p = some e →
    ∃ d' pre post, d.get p = some d' ∧ HasSh e d' ∧ d.flat = pre ++ (d'.flat ++ post) ∧ pre.length = s.off p
  | [], s, e, d, h, he => by
    simp [Sh.at] at he
    subst he
    exact ⟨d, [], [], by simp [D.get], h, by simp, by simp [Sh.off]⟩
  | i :: p, s, e, d, h, he => by
    obtain ⟨u, l, hs, hu, ha, rfl⟩ := at_isAgg h he
    obtain ⟨x, hx, hxs, hoff⟩ := h.part ha hs
    obtain ⟨d', pre, post, hg, hd', hf, hp⟩ := get_spec p hxs hu
    refine ⟨d', flatL (l.take i) ++ pre, post ++ flatL (l.drop (i + 1)), by simp [D.get, hx, hg], hd', ?_, ?_⟩
    · simp only [D.flat]
      rw [flatL_get hx, hf]
      simp
    · simp [Sh.off, hs, hoff, hp]
theorem set_spec : ∀ (p : List Nat) {s e : Sh} {d x : D}, HasSh s d → s.at p = some e → HasSh e x →
    ∃ d' o pre post, d.set p x = some d' ∧ HasSh s d' ∧ d.flat = pre ++ (o ++ post) ∧ d'.flat = pre ++ (x.flat ++ post) ∧ pre.length = s.off p ∧ o.length = x.flat.length
  | [], s, e, d, x, h, he, hx => by
    simp [Sh.at] at he
    subst he
    exact ⟨x, d.flat, [], [], by simp [D.set], hx, by simp, by simp, by simp [Sh.off], by rw [h.len, hx.len]⟩
  | i :: p, s, e, d, x, h, he, hx => by
    obtain ⟨u, l, hs, hu, ha, rfl⟩ := at_isAgg h he
    obtain ⟨y, hy, hys, hoff⟩ := h.part ha hs
    obtain ⟨d', o, pre, post, hg, hd', hf, hf', hp, ho⟩ := set_spec p hys hu hx
    have hi : i < l.length := by
      rcases Nat.lt_or_ge i l.length with h' | h'
      · exact h'
      · simp [List.getElem?_eq_none h'] at hy
    refine ⟨.agg s (l.set i d'), o, flatL (l.take i) ++ pre, post ++ flatL (l.drop (i + 1)), by simp [D.set, hy, hg], h.setPart ha hs hd', ?_, ?_, ?_, ho⟩
    · simp only [D.flat]
      rw [flatL_get hy, hf]
      simp
    · simp only [D.flat]
      rw [flatL_set hi, hf']
      simp
    · simp [Sh.off, hs, hoff, hp]

theorem at_snoc : ∀ (p : List Nat) {s e : Sh} (i : Nat), s.at p = some e → s.at (p ++ [i]) = e.sub i
  | [], s, e, i, h => by
    simp [Sh.at] at h
    subst h
    simp only [List.nil_append, Sh.at]
    cases s.sub i <;> rfl
  | j :: p, s, e, i, h => by
    simp only [Sh.at, List.cons_append] at h ⊢
    cases hs : s.sub j with
    | none => simp [hs] at h
    | some u => simp only [hs] at h ⊢; exact at_snoc p i h
theorem off_snoc : ∀ (p : List Nat) {s e : Sh} (i : Nat), s.at p = some e → s.off (p ++ [i]) = s.off p + e.offs i
  | [], s, e, i, h => by
    simp [Sh.at] at h
    subst h
    simp only [List.nil_append, Sh.off]
    cases s.sub i <;> simp [Sh.off]
  | j :: p, s, e, i, h => by
    simp only [Sh.at, Sh.off, List.cons_append] at h ⊢
    cases hs : s.sub j with
    | none => simp [hs] at h
    | some u =>
      simp only [hs] at h ⊢
      rw [off_snoc p i h]
      omega

/-- rows -/
theorem flatL_len_all {s : Sh} : ∀ {l : List D}, (∀ d ∈ l, HasSh s d) → (flatL l).length = l.length * s.size
  | [], _ => by simp [flatL]
  | d :: l, h => by
    have h1 := (h d (by simp)).len
    have h2 := flatL_len_all (l := l) (fun e he => h e (by simp [he]))
    simp [flatL, h1, h2, Nat.succ_mul, Nat.add_comm]

theorem mem_of_get {α : Type} {l : List α} {i : Nat} {d : α} (h : l[i]? = some d) : d ∈ l := List.mem_of_getElem? h
theorem lt_of_get {α : Type} {l : List α} {i : Nat} {d : α} (h : l[i]? = some d) : i < l.length := by
  rcases Nat.lt_or_ge i l.length with h' | h'
  · exact h'
  · simp [List.getElem?_eq_none h'] at h

theorem rowGet_spec {s e : Sh} {els : List D} {i : Nat} {p : List Nat} {d : D} (h : ∀ d ∈ els, HasSh s d) (he : s.at p = some e) (hg : rowGet els (i :: p) = some d) :
    HasSh e d ∧ i < els.length ∧ ∃ pre post, flatL els = pre ++ (d.flat ++ post) ∧ pre.length = i * s.size + s.off p := by
  simp only [rowGet] at hg
  cases hx : els[i]? with
  | none => simp [hx] at hg
  | some x =>
    simp only [hx] at hg
    obtain ⟨d', pre, post, h1, h2, h3, h4⟩ := get_spec p (h x (mem_of_get hx)) he
    rw [hg] at h1
    cases h1
    refine ⟨h2, lt_of_get hx, flatL (els.take i) ++ pre, post ++ flatL (els.drop (i + 1)), ?_, ?_⟩
    · rw [flatL_get hx, h3]; simp
    · rw [List.length_append, h4, flatL_len_all (fun d hd => h d (List.mem_of_mem_take hd)), List.length_take, Nat.min_eq_left (Nat.le_of_lt (lt_of_get hx))]
theorem rowSet_spec {s e : Sh} {els els' : List D} {i : Nat} {p : List Nat} {x : D} (h : ∀ d ∈ els, HasSh s d) (he : s.at p = some e) (hx : HasSh e x) (hg : rowSet els (i :: p) x = some els') :
    (∀ d ∈ els', HasSh s d) ∧ els'.length = els.length ∧ i < els.length ∧ ∃ pre o post, flatL els = pre ++ (o ++ post) ∧ flatL els' = pre ++ (x.flat ++ post) ∧ pre.length = i * s.size + s.off p ∧ o.length = x.flat.length := by
  simp only [rowSet] at hg
  cases hy : els[i]? with
  | none => simp [hy] at hg
  | some y =>
    simp only [hy] at hg
    obtain ⟨d', o, pre, post, h1, h2, h3, h4, h5, h6⟩ := set_spec p (h y (mem_of_get hy)) he hx
    simp only [h1] at hg
    cases hg
    have hi := lt_of_get hy
    refine ⟨fun d hd => ?_, by simp, hi, flatL (els.take i) ++ pre, o, post ++ flatL (els.drop (i + 1)), ?_, ?_, ?_, h6⟩
    · rcases List.mem_or_eq_of_mem_set hd with h' | h'
      · exact h d h'
      · exact h' ▸ h2
    · rw [flatL_get hy, h3]; simp
    · rw [flatL_set hi, h4]; simp
    · rw [List.length_append, h5, flatL_len_all (fun d hd => h d (List.mem_of_mem_take hd)), List.length_take, Nat.min_eq_left (Nat.le_of_lt hi)]

end Go.Am
