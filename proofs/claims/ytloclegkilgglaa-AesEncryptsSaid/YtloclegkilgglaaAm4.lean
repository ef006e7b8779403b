/- Data and the model's values: the relation, and how it is kept. -/
import Derived.Test.YtloclegkilgglaaAm3
namespace Go.Am
set_option linter.unusedSimpArgs false
set_option linter.unusedVariables false

structure Loc where
  b : Nat
  sh : Sh
  room : Nat
def Loc.at (L : Loc) : List Nat → Option Sh
  | [] => none
  | i :: p => L.sh.at p
def Loc.off (L : Loc) : List Nat → Nat
  | [] => 0
  | i :: p => i * L.sh.size + L.sh.off p
abbrev Pl := Nat → Option Loc

/-- one cell -/
inductive LR (ρ : Pl) (w : World) (T : Nat → Prop) : D → Value → Prop where
  | raw (v : Value) : v.oneCell' = true → LR ρ w T (.raw v) v
  | ptr (s : Sh) (r : Nat) (p : List Nat) (L : Loc) : ρ r = some L → L.at p = some s → LR ρ w T (.ptr s r p) (.pointer (some ⟨L.b, L.off p, none⟩))
  | sl (s : Sh) (r : Nat) (p : List Nat) (off len : Nat) (ex : Bool) (L : Loc) (cap : Nat) : ρ r = some L → len ≤ cap → (ex = true → cap = len) →
      ((p = [] ∧ s = L.sh ∧ (off + cap) * s.size ≤ L.room) ∨ ∃ n, L.at p = some (.ar n s) ∧ off + cap ≤ n) →
      LR ρ w T (.sl s r p off len ex) (.slice (some ⟨L.b, L.off p + off * s.size, none⟩) len cap)
  | slz (s : Sh) (r : Nat) (p : List Nat) (off : Nat) (ex : Bool) (a : Option Addr) : LR ρ w T (.sl s r p off 0 ex) (.slice a 0 0)
  | aptr (n : Nat) (s : Sh) (r : Nat) (p : List Nat) (off : Nat) (L : Loc) : ρ r = some L → ((p = [] ∧ s = L.sh ∧ (off + n) * s.size ≤ L.room) ∨ ∃ m, L.at p = some (.ar m s) ∧ off + n ≤ m) →
      LR ρ w T (.aptr n s r p off) (.pointer (some ⟨L.b, L.off p + off * s.size, none⟩))
  | lst0 (s : Sh) (ex : Bool) (a : Option Addr) (cap : Nat) : (ex = true → cap = 0) → (a = none → cap = 0) → LR ρ w T (.lst s [] ex) (.slice a 0 cap)
  | lst (s : Sh) (l : List D) (ex : Bool) (b o cap : Nat) (f : Nat → Value) : (∀ d ∈ l, HasSh s d) → T b →
      (∀ i d, (flatL l)[i]? = some d → w.cell? ⟨b, o + i, none⟩ = some (f i)) → (∀ i d, (flatL l)[i]? = some d → LR ρ w T d (f i)) →
      l.length ≤ cap → (ex = true → cap = l.length) → LR ρ w T (.lst s l ex) (.slice (some ⟨b, o, none⟩) l.length cap)
  | cptr (s : Sh) (d : D) (b o : Nat) (f : Nat → Value) : HasSh s d → T b →
      (∀ i x, d.flat[i]? = some x → w.cell? ⟨b, o + i, none⟩ = some (f i)) → (∀ i x, d.flat[i]? = some x → LR ρ w T x (f i)) →
      LR ρ w T (.cptr d) (.pointer (some ⟨b, o, none⟩))

theorem LR.mono {ρ ρ' : Pl} {w w' : World} {T T' : Nat → Prop} {d : D} {v : Value} (h : LR ρ w T d v) (hρ : ∀ r L, ρ r = some L → ρ' r = some L)
    (hw : ∀ b, T b → w'.heap[b]? = w.heap[b]?) (hT : ∀ b, T b → T' b) : LR ρ' w' T' d v := by
  induction h with
  | raw v hv => exact .raw v hv
  | ptr s r p L hL hp => exact .ptr s r p L (hρ _ _ hL) hp
  | sl s r p off len ex L cap hL h1 h2 h3 => exact .sl s r p off len ex L cap (hρ _ _ hL) h1 h2 h3
  | slz s r p off ex a => exact .slz s r p off ex a
  | aptr n s r p off L hL h1 => exact .aptr n s r p off L (hρ _ _ hL) h1
  | lst0 s ex a cap h1 h2 => exact .lst0 s ex a cap h1 h2
  | lst s l ex b o cap f h1 hb h2 _ h4 h5 ih => exact .lst s l ex b o cap f h1 (hT b hb) (fun i d hd => (World.cell?_of_block (a := ⟨b, o + i, none⟩) (hw b hb)).trans (h2 i d hd)) ih h4 h5
  | cptr s d b o f h1 hb h2 _ ih => exact .cptr s d b o f h1 (hT b hb) (fun i x hx => (World.cell?_of_block (a := ⟨b, o + i, none⟩) (hw b hb)).trans (h2 i x hx)) ih

theorem LR.one {ρ : Pl} {w : World} {T : Nat → Prop} {d : D} {v : Value} (h : LR ρ w T d v) : v.oneCell' = true := by
  cases h <;> first | assumption | rfl
theorem LR.leaf {ρ : Pl} {w : World} {T : Nat → Prop} {d : D} {v : Value} (h : LR ρ w T d v) : d.isLeaf = true := by
  cases h <;> first | rfl | (simpa [D.isLeaf])

/-- a value that is no tuple -/
def VR1 (ρ : Pl) (w : World) (T : Nat → Prop) (d : D) (v : Value) : Prop :=
  match d with
  | .agg s l => ∃ cs : Array Value, v = .agg cs ∧ HasSh s (.agg s l) ∧ All2 (LR ρ w T) (flatL l) cs.toList
  | d => LR ρ w T d v
def VR (ρ : Pl) (w : World) (T : Nat → Prop) (d : D) (v : Value) : Prop :=
  match d with
  | .tup l => ∃ vs : Array Value, v = .tuple vs ∧ All2 (VR1 ρ w T) l vs.toList
  | d => VR1 ρ w T d v

theorem VR1.mono {ρ ρ' : Pl} {w w' : World} {T T' : Nat → Prop} {d : D} {v : Value} (h : VR1 ρ w T d v) (hρ : ∀ r L, ρ r = some L → ρ' r = some L)
    (hw : ∀ b, T b → w'.heap[b]? = w.heap[b]?) (hT : ∀ b, T b → T' b) : VR1 ρ' w' T' d v := by
  cases d with
  | agg s l =>
    obtain ⟨cs, rfl, h1, h2⟩ := h
    exact ⟨cs, rfl, h1, h2.mono fun a b h => h.mono hρ hw hT⟩
  | _ => exact LR.mono h hρ hw hT
theorem VR.mono {ρ ρ' : Pl} {w w' : World} {T T' : Nat → Prop} {d : D} {v : Value} (h : VR ρ w T d v) (hρ : ∀ r L, ρ r = some L → ρ' r = some L)
    (hw : ∀ b, T b → w'.heap[b]? = w.heap[b]?) (hT : ∀ b, T b → T' b) : VR ρ' w' T' d v := by
  cases d with
  | tup l =>
    obtain ⟨vs, rfl, h1⟩ := h
    exact ⟨vs, rfl, h1.mono fun a b h => VR1.mono h hρ hw hT⟩
  | agg s l => exact VR1.mono (d := .agg s l) h hρ hw hT
  | _ => exact LR.mono h hρ hw hT

theorem cells_one {v : Value} (h : v.oneCell' = true) : v.cells = #[v] := by cases v <;> simp_all [Value.oneCell', Value.cells]

theorem isLeaf_fits {d : D} (h : d.isLeaf = true) : HasSh .ref d := .ref d h

/-- a value that fits a shape: its cells -/
theorem VR.cells {ρ : Pl} {w : World} {T : Nat → Prop} {d : D} {v : Value} {s : Sh} (h : VR ρ w T d v) (hf : d.fits s = true) :
    HasSh s d ∧ All2 (LR ρ w T) d.flat v.cells.toList ∧ (s.isAgg = true → ∃ cs, v = .agg cs) ∧ (s.isAgg = false → v.oneCell' = true) := by
  cases d with
  | agg t l =>
    simp [D.fits] at hf
    subst hf
    obtain ⟨cs, rfl, h1, h2⟩ := h
    refine ⟨h1, by simpa [D.flat, Value.cells] using h2, fun _ => ⟨cs, rfl⟩, fun ha => ?_⟩
    have := h1.leafOf ha
    simp [D.isLeaf] at this
  | tup l => cases s <;> simp [D.fits] at hf
  | raw x =>
    have h' : LR ρ w T (.raw x) v := h
    have h1 := h'.one
    have hl := h'.leaf
    cases s <;> simp [D.fits] at hf
    · exact ⟨.leaf _ x hf, by rw [cells_one h1, leaf_flat hl]; exact All2.single h', by simp [Sh.isAgg], fun _ => h1⟩
    · exact ⟨.ref _ hl, by rw [cells_one h1, leaf_flat hl]; exact All2.single h', by simp [Sh.isAgg], fun _ => h1⟩
  | _ =>
    have h' : LR ρ w T _ v := h
    have h1 := h'.one
    have hl := h'.leaf
    cases s <;> simp [D.fits] at hf
    exact ⟨.ref _ hl, by rw [cells_one h1, leaf_flat hl]; exact All2.single h', by simp [Sh.isAgg], fun _ => h1⟩

/-- and back -/
theorem VR1.ofAgg {ρ : Pl} {w : World} {T : Nat → Prop} {d : D} {s : Sh} {cs : Array Value} (h : HasSh s d) (ha : s.isAgg = true) (hc : All2 (LR ρ w T) d.flat cs.toList) : VR1 ρ w T d (.agg cs) := by
  obtain ⟨l, rfl, _⟩ := h.aggOf ha
  exact ⟨cs, rfl, h, by simpa [D.flat] using hc⟩
theorem VR1.ofLeaf {ρ : Pl} {w : World} {T : Nat → Prop} {d : D} {v : Value} (hc : LR ρ w T d v) : VR1 ρ w T d v := by
  cases d <;> first | exact hc | cases hc
theorem VR.ofVR1 {ρ : Pl} {w : World} {T : Nat → Prop} {d : D} {v : Value} (hc : VR1 ρ w T d v) : VR ρ w T d v := by
  cases d <;> first | exact hc | (cases hc)
theorem VR.ofLeaf {ρ : Pl} {w : World} {T : Nat → Prop} {d : D} {v : Value} (hc : LR ρ w T d v) : VR ρ w T d v := VR.ofVR1 (VR1.ofLeaf hc)
theorem VR.raw {ρ : Pl} {w : World} {T : Nat → Prop} {v : Value} (h : v.oneCell' = true) : VR ρ w T (.raw v) v := VR.ofLeaf (.raw v h)
theorem VR.ofRaw {ρ : Pl} {w : World} {T : Nat → Prop} {v x : Value} (h : VR ρ w T (.raw x) v) : v = x := by
  have h' : LR ρ w T (.raw x) v := h
  cases h'
  rfl
theorem VR.toLR {ρ : Pl} {w : World} {T : Nat → Prop} {d : D} {v : Value} (h : VR ρ w T d v) (hl : d.isLeaf = true) : LR ρ w T d v := by
  cases d <;> first | exact h | simp [D.isLeaf] at hl

/-- a block of ours: what is marked of it lies behind its cells -/
def FrOK (n : Nat) (fr : Nat × Nat) : Prop := fr = (0, 0) ∨ n ≤ fr.1
def RowAt (w : World) (b : Nat) (cur : Array Value) (t : TypeId) : Prop := ∃ fr, w.heap[b]? = some (.cells cur t fr) ∧ FrOK cur.size fr
theorem RowAt.same {w w' : World} {b : Nat} {cur : Array Value} {t : TypeId} (h : RowAt w b cur t) (hb : w'.heap[b]? = w.heap[b]?) : RowAt w' b cur t := by
  obtain ⟨fr, h1, h2⟩ := h
  exact ⟨fr, hb.trans h1, h2⟩
theorem RowAt.uniq {w : World} {b : Nat} {cur cur' : Array Value} {t t' : TypeId} (h : RowAt w b cur t) (h' : RowAt w b cur' t') : cur = cur' ∧ t = t' := by
  obtain ⟨fr, h1, _⟩ := h
  obtain ⟨fr', h2, _⟩ := h'
  rw [h1] at h2
  cases h2
  exact ⟨rfl, rfl⟩
theorem RowAt.setRow {w : World} {b : Nat} {cur cur' : Array Value} {t : TypeId} (h : RowAt w b cur t) (hs : cur'.size = cur.size) : RowAt (w.setRow b cur') b cur' t := by
  obtain ⟨fr, h1, h2⟩ := h
  exact ⟨fr, setRow_heap w b cur cur' t fr h1, by rw [hs]; exact h2⟩
theorem FrOK.not {w : World} {b o : Nat} {cur : Array Value} {t : TypeId} {fr : Nat × Nat} (h1 : w.heap[b]? = some (.cells cur t fr)) (h2 : FrOK cur.size fr) (ho : o < cur.size) : w.frozen? ⟨b, o, none⟩ = false := by
  obtain ⟨lo, hi⟩ := fr
  rcases h2 with h2 | h2
  · cases h2
    simp [World.frozen?, h1]
  · simp only [World.frozen?, h1]
    simp at h2
    simp
    omega
/-- what a quiet operation does to old memory -/
def FrOnly (w w' : World) (b : Nat) : Prop := ∃ cur t fr fr', w.heap[b]? = some (.cells cur t fr) ∧ w'.heap[b]? = some (.cells cur t fr') ∧ FrOK cur.size fr'
theorem FrOnly.row {w w' : World} {b : Nat} {cur : Array Value} {t : TypeId} (h : FrOnly w w' b) (hr : RowAt w b cur t) : RowAt w' b cur t := by
  obtain ⟨c, t', fr, fr', h1, h2, h3⟩ := h
  obtain ⟨fr0, h4, _⟩ := hr
  rw [h1] at h4
  cases h4
  exact ⟨fr', h2, h3⟩

/-- one row of ours -/
structure RowOK (ρ : Pl) (row : Row) (L : Loc) (w : World) (T : Nat → Prop) : Prop where
  sh : L.sh = row.sh
  notT : ¬ T L.b
  els : ∀ d ∈ row.els, HasSh row.sh d
  cells : ∃ cur t, RowAt w L.b cur t ∧ L.room ≤ cur.size ∧ (flatL row.els).length ≤ L.room ∧ All2 (LR ρ w T) (flatL row.els) (cur.toList.take (flatL row.els).length)
def QH (ρ : Pl) (rows : Rows) (w w' : World) : Prop := ∀ b, b < w.heap.size → w'.heap[b]? = w.heap[b]? ∨ (FrOnly w w' b ∧ ∃ r row L, live rows r = some row ∧ ρ r = some L ∧ L.b = b)
structure RowsOK (ρ : Pl) (rows : Rows) (w : World) (T : Nat → Prop) : Prop where
  row : ∀ r row L, live rows r = some row → ρ r = some L → RowOK ρ row L w T
  dist : ∀ r r' row row' L L', live rows r = some row → live rows r' = some row' → ρ r = some L → ρ r' = some L' → r ≠ r' → L.b ≠ L'.b

theorem RowOK.lt {ρ : Pl} {row : Row} {L : Loc} {w : World} {T : Nat → Prop} (h : RowOK ρ row L w T) : L.b < w.heap.size := by
  obtain ⟨cur, t, ⟨_, hh, _⟩, _⟩ := h.cells
  exact (Array.getElem?_eq_some_iff.1 hh).1
theorem RowOK.mono {ρ ρ' : Pl} {row : Row} {L : Loc} {w w' : World} {T T' : Nat → Prop} (h : RowOK ρ row L w T) (hρ : ∀ r L, ρ r = some L → ρ' r = some L)
    (hw : ∀ b, T b → w'.heap[b]? = w.heap[b]?) (hT : ∀ b, T b → T' b) (hb : w'.heap[L.b]? = w.heap[L.b]?) (hn : ¬ T' L.b) : RowOK ρ' row L w' T' := by
  refine ⟨h.sh, hn, h.els, ?_⟩
  obtain ⟨cur, t, h1, h2, h3, h4⟩ := h.cells
  exact ⟨cur, t, h1.same hb, h2, h3, h4.mono fun a b h => h.mono hρ hw hT⟩

theorem RowOK.monoQ {ρ ρ' : Pl} {row : Row} {L : Loc} {w w' : World} {T T' : Nat → Prop} (h : RowOK ρ row L w T) (hρ : ∀ r L, ρ r = some L → ρ' r = some L)
    (hw : ∀ b, T b → w'.heap[b]? = w.heap[b]?) (hT : ∀ b, T b → T' b) (hb : w'.heap[L.b]? = w.heap[L.b]? ∨ FrOnly w w' L.b) (hn : ¬ T' L.b) : RowOK ρ' row L w' T' := by
  refine ⟨h.sh, hn, h.els, ?_⟩
  obtain ⟨cur, t, h1, h2, h3, h4⟩ := h.cells
  refine ⟨cur, t, ?_, h2, h3, h4.mono fun a b h => h.mono hρ hw hT⟩
  rcases hb with hb | hb
  · exact h1.same hb
  · exact hb.row h1

def EnvOK (ρ : Pl) (w : World) (T : Nat → Prop) (env : Env) (tmps : Array Value) : Prop := ∀ t d, look env t = some d → VR ρ w T d (tmps.getD t undef)
theorem EnvOK.mono {ρ ρ' : Pl} {w w' : World} {T T' : Nat → Prop} {env : Env} {tmps : Array Value} (h : EnvOK ρ w T env tmps) (hρ : ∀ r L, ρ r = some L → ρ' r = some L)
    (hw : ∀ b, T b → w'.heap[b]? = w.heap[b]?) (hT : ∀ b, T b → T' b) : EnvOK ρ' w' T' env tmps := fun t d hd => (h t d hd).mono hρ hw hT
theorem EnvOK.put {ρ : Pl} {w : World} {T : Nat → Prop} {env : Env} {a : Act} {dst : Option Nat} {d : D} {v : Value} (h : EnvOK ρ w T env a.tmps) (hv : VR ρ w T d v)
    (hd : ∀ t, dst = some t → t < a.tmps.size) : EnvOK ρ w T (Am.put dst d env) (a.put dst v).tmps := by
  cases dst with
  | none => exact h
  | some t =>
    intro t' d' hl
    have ht := hd t rfl
    simp only [Am.put, look] at hl
    simp only [Act.put]
    cases hb : (t == t') with
    | true =>
      have : t = t' := by simpa using hb
      subst this
      simp [hb] at hl
      subst hl
      simpa [Array.getD, ht] using hv
    | false =>
      have hne : t ≠ t' := by simpa using hb
      simp [hb] at hl
      have := h t' d' hl
      simpa [Array.getElem?_setIfInBounds, hne] using this

/-- what a step does to the world -/
structure Step (ρ : Pl) (T : Nat → Prop) (rows : Rows) (w : World) (ρ' : Pl) (T' : Nat → Prop) (rows' : Rows) (w' : World) : Prop where
  pl : ∀ r L, ρ r = some L → ρ' r = some L
  tt : ∀ b, T b → T' b
  tnew : ∀ b, T' b → T b ∨ w.heap.size ≤ b ∨ ∃ r row L, live rows r = some row ∧ ρ r = some L ∧ L.b = b
  size : w.heap.size ≤ w'.heap.size
  keep : ∀ b, b < w.heap.size → (∀ r row L, live rows r = some row → ρ r = some L → L.b ≠ b) → w'.heap[b]? = w.heap[b]?
  fresh : ∀ r row L, live rows' r = some row → ρ' r = some L → (∃ r0 row0 L0, live rows r0 = some row0 ∧ ρ r0 = some L0 ∧ L0.b = L.b) ∨ w.heap.size ≤ L.b
  os : w'.os = w.os
  tape : w'.tape = w.tape
  output : w'.output = w.output
  len : rows.length ≤ rows'.length
  same : ∀ r, r < rows.length → ρ' r = ρ r

theorem Step.refl (ρ : Pl) (T : Nat → Prop) (rows : Rows) (w : World) : Step ρ T rows w ρ T rows w :=
  ⟨fun _ _ h => h, fun _ h => h, fun _ h => .inl h, Nat.le_refl _, fun _ _ _ => rfl, fun r row L h1 h2 => .inl ⟨r, row, L, h1, h2, rfl⟩, rfl, rfl, rfl, Nat.le_refl _, fun _ _ => rfl⟩
theorem Step.trans {ρ ρ' ρ'' : Pl} {T T' T'' : Nat → Prop} {rows rows' rows'' : Rows} {w w' w'' : World} (h : Step ρ T rows w ρ' T' rows' w') (h' : Step ρ' T' rows' w' ρ'' T'' rows'' w'') :
    Step ρ T rows w ρ'' T'' rows'' w'' := by
  refine ⟨fun r L hr => h'.pl r L (h.pl r L hr), fun b hb => h'.tt b (h.tt b hb), fun b hb => ?_, Nat.le_trans h.size h'.size, fun b hb hn => ?_, fun r row L h1 h2 => ?_,
    h'.os.trans h.os, h'.tape.trans h.tape, h'.output.trans h.output, Nat.le_trans h.len h'.len, fun r hr => (h'.same r (Nat.lt_of_lt_of_le hr h.len)).trans (h.same r hr)⟩
  · rcases h'.tnew b hb with h1 | h1 | ⟨r, row, L, h1, h2, h3⟩
    · exact h.tnew b h1
    · exact .inr (.inl (Nat.le_trans h.size h1))
    · rcases h.fresh r row L h1 h2 with ⟨r0, row0, L0, h4, h5, h6⟩ | h4
      · exact .inr (.inr ⟨r0, row0, L0, h4, h5, h6.trans h3⟩)
      · exact .inr (.inl (by omega))
  · rw [h'.keep b (Nat.lt_of_lt_of_le hb h.size), h.keep b hb hn]
    intro r row L h1 h2 he
    rcases h.fresh r row L h1 h2 with ⟨r0, row0, L0, h3, h4, h5⟩ | h3
    · exact hn r0 row0 L0 h3 h4 (h5.trans he)
    · omega
  · rcases h'.fresh r row L h1 h2 with ⟨r0, row0, L0, h3, h4, h5⟩ | h3
    · rcases h.fresh r0 row0 L0 h3 h4 with ⟨r1, row1, L1, h6, h7, h8⟩ | h6
      · exact .inl ⟨r1, row1, L1, h6, h7, h8.trans h5⟩
      · exact .inr (h5 ▸ h6)
    · exact .inr (Nat.le_trans h.size h3)

structure Sim (n : Nat) (ρ : Pl) (T : Nat → Prop) (env : Env) (rows : Rows) (a : Act) (w : World) : Prop where
  rowsOK : RowsOK ρ rows w T
  env : EnvOK ρ w T env a.tmps
  size : a.tmps.size = n
  tlt : ∀ b, T b → b < w.heap.size
  dom : ∀ r, rows.length ≤ r → ρ r = none
  defers : a.defers = []

theorem Sim.put {n : Nat} {ρ : Pl} {T : Nat → Prop} {env : Env} {rows : Rows} {a : Act} {w : World} (h : Sim n ρ T env rows a w) {dst : Option Nat} {d : D} {v : Value} (hv : VR ρ w T d v)
    (hd : ∀ t, dst = some t → t < n) : Sim n ρ T (Am.put dst d env) rows (a.put dst v) w :=
  ⟨h.rowsOK, h.env.put hv (fun t ht => by rw [h.size]; exact hd t ht), by cases dst <;> simp [Act.put, h.size], h.tlt, h.dom, by cases dst <;> simp [Act.put, h.defers]⟩

def upd (ρ : Pl) (r : Nat) (L : Loc) : Pl := fun r' => if r' = r then some L else ρ r'
theorem upd_mono {ρ : Pl} {r : Nat} {L : Loc} (h : ρ r = none) : ∀ r' L', ρ r' = some L' → upd ρ r L r' = some L' := by
  intro r' L' h'
  unfold upd
  split
  · rename_i e; subst e; simp [h] at h'
  · exact h'

/-- a block is new, or changed: all else stays -/
theorem Sim.build {n : Nat} {ρ ρ' : Pl} {T : Nat → Prop} {env : Env} {rows rows' : Rows} {a : Act} {w w' : World} (h : Sim n ρ T env rows a w) (B : Nat) (r0 : Nat) (row0 : Row) (L0 : Loc)
    (hρ : ∀ r L, ρ r = some L → ρ' r = some L) (hB : ¬ T B) (hL0 : L0.b = B) (hρ0 : ρ' r0 = some L0) (hsz : w.heap.size ≤ w'.heap.size)
    (hw : ∀ b, b ≠ B → b < w.heap.size → w'.heap[b]? = w.heap[b]?) (hos : w'.os = w.os) (htape : w'.tape = w.tape) (hout : w'.output = w.output)
    (hrow0 : RowOK ρ' row0 L0 w' T) (hBlive : (∃ r row L, live rows r = some row ∧ ρ r = some L ∧ L.b = B) ∨ w.heap.size ≤ B)
    (hlive : ∀ r row, live rows' r = some row → (r = r0 ∧ row = row0) ∨ (r ≠ r0 ∧ live rows r = some row ∧ ∀ L, ρ' r = some L → ρ r = some L ∧ L.b ≠ B))
    (hdom : ∀ r, rows'.length ≤ r → ρ' r = none) (hlen : rows.length ≤ rows'.length) (hsame : ∀ r, r < rows.length → ρ' r = ρ r) : Sim n ρ' T env rows' a w' ∧ Step ρ T rows w ρ' T rows' w' := by
  have hTw : ∀ b, T b → w'.heap[b]? = w.heap[b]? := fun b hb => hw b (fun e => hB (e ▸ hb)) (h.tlt b hb)
  refine ⟨⟨⟨?_, ?_⟩, h.env.mono hρ hTw (fun _ h => h), h.size, fun b hb => Nat.lt_of_lt_of_le (h.tlt b hb) hsz, hdom, h.defers⟩,
    ⟨hρ, fun _ h => h, fun _ h => .inl h, hsz, ?_, ?_, hos, htape, hout, hlen, hsame⟩⟩
  · intro r row L h1 h2
    rcases hlive r row h1 with ⟨rfl, rfl⟩ | ⟨hr, h3, h4⟩
    · rw [hρ0] at h2; cases h2; exact hrow0
    · obtain ⟨h5, h6⟩ := h4 L h2
      have := h.rowsOK.row r row L h3 h5
      exact this.mono hρ hTw (fun _ h => h) (hw _ h6 this.lt) this.notT
  · intro r r' row row' L L' h1 h2 h3 h4 hne
    rcases hlive r row h1 with ⟨rfl, rfl⟩ | ⟨hr, h5, h6⟩
    · rw [hρ0] at h3; cases h3
      rcases hlive r' row' h2 with ⟨rfl, rfl⟩ | ⟨hr', h7, h8⟩
      · exact absurd rfl hne
      · rw [hL0]; exact fun e => (h8 L' h4).2 e.symm
    · rcases hlive r' row' h2 with ⟨rfl, rfl⟩ | ⟨hr', h7, h8⟩
      · rw [hρ0] at h4; cases h4
        rw [hL0]; exact (h6 L h3).2
      · exact h.rowsOK.dist r r' row row' L L' h5 h7 (h6 L h3).1 (h8 L' h4).1 hne
  · intro b hb hn
    refine hw b ?_ hb
    rintro rfl
    rcases hBlive with ⟨r, row, L, h1, h2, h3⟩ | h1
    · exact hn r row L h1 h2 h3
    · omega
  · intro r row L h1 h2
    rcases hlive r row h1 with ⟨rfl, rfl⟩ | ⟨hr, h3, h4⟩
    · rw [hρ0] at h2; cases h2
      rcases hBlive with ⟨r, row, L, h1, h2, h3⟩ | h1
      · exact .inl ⟨r, row, L, h1, h2, by rw [h3, hL0]⟩
      · exact .inr (by rw [hL0]; exact h1)
    · exact .inl ⟨r, row, L, h3, (h4 L h2).1, rfl⟩

/-- the world has another heap's draws, nothing else -/
theorem Sim.heap {n : Nat} {ρ : Pl} {T : Nat → Prop} {env : Env} {rows : Rows} {a : Act} {w w' : World} (h : Sim n ρ T env rows a w) (hh : w'.heap = w.heap) : Sim n ρ T env rows a w' := by
  have hT : ∀ b, T b → w'.heap[b]? = w.heap[b]? := fun b _ => by rw [hh]
  refine ⟨⟨fun r row L h1 h2 => ?_, h.rowsOK.dist⟩, h.env.mono (fun _ _ h => h) hT (fun _ h => h), h.size, fun b hb => by rw [hh]; exact h.tlt b hb, h.dom, h.defers⟩
  exact (h.rowsOK.row r row L h1 h2).mono (fun _ _ h => h) hT (fun _ h => h) (by rw [hh]) (h.rowsOK.row r row L h1 h2).notT

theorem live_append_new (rows : Rows) (row : Row) : live (rows ++ [some row]) rows.length = some row := by simp [live]
theorem live_append {rows : Rows} {row row' : Row} {r : Nat} (h : live (rows ++ [some row']) r = some row) : (r = rows.length ∧ row = row') ∨ (r < rows.length ∧ live rows r = some row) := by
  unfold live at h ⊢
  rcases Nat.lt_trichotomy r rows.length with h1 | h1 | h1
  · right
    rw [List.getElem?_append_left h1] at h
    exact ⟨h1, h⟩
  · left
    subst h1
    simp at h
    exact ⟨rfl, h.symm⟩
  · rw [List.getElem?_append_right (by omega)] at h
    have : r - rows.length ≠ 0 := by omega
    obtain ⟨k, hk⟩ := Nat.exists_eq_succ_of_ne_zero this
    rw [hk] at h
    simp at h
theorem live_lt {rows : Rows} {r : Nat} {row : Row} (h : live rows r = some row) : r < rows.length := by
  unfold live at h
  split at h
  · rename_i hh; exact lt_of_get hh
  · cases h
theorem live_set {rows : Rows} {x : Option Row} {r r' : Nat} {row : Row} (h : live (rows.set r x) r' = some row) : (r' = r ∧ x = some row) ∨ (r' ≠ r ∧ live rows r' = some row) := by
  unfold live at h ⊢
  rw [List.getElem?_set] at h
  by_cases hr : r = r'
  · subst hr
    left
    simp only [if_true] at h
    by_cases hl : r < rows.length
    · simp only [hl, if_true] at h
      cases x with
      | none => simp at h
      | some y => simp at h; exact ⟨rfl, by rw [h]⟩
    · simp [hl] at h
  · right
    simp only [hr, if_false] at h
    exact ⟨fun e => hr e.symm, h⟩
theorem live_set_same {rows : Rows} {r : Nat} {row row' : Row} (h : live rows r = some row) : live (rows.set r (some row')) r = some row' := by
  simp [live, live_lt h]

/-- a new row -/
theorem Sim.push {n : Nat} {ρ : Pl} {T : Nat → Prop} {env : Env} {rows : Rows} {a : Act} {w w' : World} (h : Sim n ρ T env rows a w) (row : Row) (cur : Array Value) (t : TypeId)
    (hw' : w'.heap = w.heap.push (.cells cur t)) (hos : w'.os = w.os) (htape : w'.tape = w.tape) (hout : w'.output = w.output)
    (hels : ∀ d ∈ row.els, HasSh row.sh d) (hlen : (flatL row.els).length ≤ cur.size) (hc : All2 (LR ρ w T) (flatL row.els) (cur.toList.take (flatL row.els).length)) :
    Sim n (upd ρ rows.length ⟨w.heap.size, row.sh, cur.size⟩) T env (rows ++ [some row]) a w' ∧ Step ρ T rows w (upd ρ rows.length ⟨w.heap.size, row.sh, cur.size⟩) T (rows ++ [some row]) w' := by
  have hnT : ¬ T w.heap.size := fun hT => Nat.lt_irrefl _ (h.tlt _ hT)
  have hmono := upd_mono (L := (⟨w.heap.size, row.sh, cur.size⟩ : Loc)) (h.dom rows.length (Nat.le_refl _))
  have hold : ∀ b, b ≠ w.heap.size → b < w.heap.size → w'.heap[b]? = w.heap[b]? := by
    intro b hb _
    rw [hw', Array.getElem?_push, if_neg hb]
  refine h.build w.heap.size rows.length row ⟨w.heap.size, row.sh, cur.size⟩ hmono hnT rfl (by simp [upd]) (by simp [hw']) hold hos htape hout ?_ (.inr (Nat.le_refl _)) ?_ ?_ (by simp) (fun r hr => by unfold upd; rw [if_neg (by omega)])
  · exact ⟨rfl, hnT, hels, cur, t, ⟨(0, 0), by simp [hw'], .inl rfl⟩, Nat.le_refl _, hlen, hc.mono fun a b h' => h'.mono hmono (fun b hb => hold b (fun e => hnT (e ▸ hb)) (h.tlt b hb)) (fun _ h => h)⟩
  · intro r row' hl
    rcases live_append hl with ⟨rfl, rfl⟩ | ⟨h1, h2⟩
    · exact .inl ⟨rfl, rfl⟩
    · refine .inr ⟨by omega, h2, fun L hL => ?_⟩
      have : ρ r = some L := by
        unfold upd at hL
        rw [if_neg (by omega)] at hL
        exact hL
      exact ⟨this, fun e => by have := (h.rowsOK.row r row' L h2 this).lt; omega⟩
  · intro r hr
    simp at hr
    unfold upd
    rw [if_neg (by omega)]
    exact h.dom r (by omega)

/-- a row is written -/
theorem Sim.write {n : Nat} {ρ : Pl} {T : Nat → Prop} {env : Env} {rows : Rows} {a : Act} {w : World} (h : Sim n ρ T env rows a w) {r : Nat} {row : Row} {L : Loc} (hl : live rows r = some row) (hL : ρ r = some L)
    (els : List D) (cur cur' : Array Value) (t : TypeId) (hcur : RowAt w L.b cur t) (hsz : cur'.size = cur.size) (hels : ∀ d ∈ els, HasSh row.sh d)
    (hlen : (flatL els).length ≤ L.room) (hc : All2 (LR ρ w T) (flatL els) (cur'.toList.take (flatL els).length)) :
    Sim n ρ T env (rows.set r (some ⟨row.sh, els⟩)) a (w.setRow L.b cur') ∧ Step ρ T rows w ρ T (rows.set r (some ⟨row.sh, els⟩)) (w.setRow L.b cur') := by
  have hrow := h.rowsOK.row r row L hl hL
  have hold : ∀ b, b ≠ L.b → b < w.heap.size → (w.setRow L.b cur').heap[b]? = w.heap[b]? := fun b hb _ => setRow_other w L.b b cur' hb
  obtain ⟨cur0, t0, hc0, hroom, _, _⟩ := hrow.cells
  obtain ⟨rfl, rfl⟩ := hcur.uniq hc0
  refine h.build L.b r ⟨row.sh, els⟩ L (fun _ _ h => h) hrow.notT rfl hL (by simp) hold rfl rfl rfl ?_ (.inl ⟨r, row, L, hl, hL, rfl⟩) ?_ ?_ (by simp) (fun _ _ => rfl)
  · exact ⟨hrow.sh, hrow.notT, hels, cur', t, hcur.setRow hsz, by omega, hlen,
      hc.mono fun a b h' => h'.mono (fun _ _ h => h) (fun b hb => hold b (fun e => hrow.notT (e ▸ hb)) (h.tlt b hb)) (fun _ h => h)⟩
  · intro r' row' hl'
    rcases live_set hl' with ⟨rfl, he⟩ | ⟨h1, h2⟩
    · cases he; exact .inl ⟨rfl, rfl⟩
    · exact .inr ⟨h1, h2, fun L' hL' => ⟨hL', h.rowsOK.dist r' r row' row L' L h2 hl hL' hL h1⟩⟩
  · intro r' hr'
    simp at hr'
    exact h.dom r' hr'

/-- a row is spent -/
theorem Sim.kill {n : Nat} {ρ : Pl} {T : Nat → Prop} {env : Env} {rows : Rows} {a : Act} {w : World} (h : Sim n ρ T env rows a w) (r : Nat) :
    Sim n ρ T env (rows.set r none) a w ∧ Step ρ T rows w ρ T (rows.set r none) w := by
  have hk : ∀ r' row, live (rows.set r none) r' = some row → live rows r' = some row := by
    intro r' row hl
    rcases live_set hl with ⟨_, he⟩ | ⟨_, h2⟩
    · cases he
    · exact h2
  refine ⟨⟨⟨fun r' row L h1 h2 => h.rowsOK.row r' row L (hk _ _ h1) h2, fun r1 r2 row1 row2 L1 L2 h1 h2 => h.rowsOK.dist r1 r2 row1 row2 L1 L2 (hk _ _ h1) (hk _ _ h2)⟩, h.env, h.size, h.tlt, fun r' hr' => h.dom r' (by simpa using hr'), h.defers⟩, ?_⟩
  exact ⟨fun _ _ h => h, fun _ h => h, fun _ h => .inl h, Nat.le_refl _, fun _ _ _ => rfl, fun r' row L h1 h2 => .inl ⟨r', row, L, hk _ _ h1, h2, rfl⟩, rfl, rfl, rfl, by simp, fun _ _ => rfl⟩

/-- a row goes on, longer, under another number -/
theorem Sim.move {n : Nat} {ρ : Pl} {T : Nat → Prop} {env : Env} {rows : Rows} {a : Act} {w : World} (h : Sim n ρ T env rows a w) {r : Nat} {row : Row} {L : Loc} (hl : live rows r = some row) (hL : ρ r = some L)
    (els : List D) (cur cur' : Array Value) (t : TypeId) (hcur : RowAt w L.b cur t) (hsz : cur'.size = cur.size) (hels : ∀ d ∈ els, HasSh row.sh d)
    (hlen : (flatL els).length ≤ L.room) (hc : All2 (LR ρ w T) (flatL els) (cur'.toList.take (flatL els).length)) :
    Sim n (upd ρ rows.length L) T env (rows.set r none ++ [some ⟨row.sh, els⟩]) a (w.setRow L.b cur') ∧ Step ρ T rows w (upd ρ rows.length L) T (rows.set r none ++ [some ⟨row.sh, els⟩]) (w.setRow L.b cur') := by
  have hrow := h.rowsOK.row r row L hl hL
  have hold : ∀ b, b ≠ L.b → b < w.heap.size → (w.setRow L.b cur').heap[b]? = w.heap[b]? := fun b hb _ => setRow_other w L.b b cur' hb
  have hmono := upd_mono (L := L) (h.dom rows.length (Nat.le_refl _))
  obtain ⟨cur0, t0, hc0, hroom, _, _⟩ := hrow.cells
  obtain ⟨rfl, rfl⟩ := hcur.uniq hc0
  refine h.build L.b rows.length ⟨row.sh, els⟩ L hmono hrow.notT rfl (by simp [upd]) (by simp) hold rfl rfl rfl ?_ (.inl ⟨r, row, L, hl, hL, rfl⟩) ?_ ?_ (by simp) (fun r hr => by unfold upd; rw [if_neg (by omega)])
  · exact ⟨hrow.sh, hrow.notT, hels, cur', t, hcur.setRow hsz, by omega, hlen,
      hc.mono fun a b h' => h'.mono hmono (fun b hb => hold b (fun e => hrow.notT (e ▸ hb)) (h.tlt b hb)) (fun _ h => h)⟩
  · intro r' row' hl'
    rcases live_append hl' with ⟨h1, rfl⟩ | ⟨h1, h2⟩
    · exact .inl ⟨by simpa using h1, rfl⟩
    · simp at h1
      rcases live_set h2 with ⟨_, he⟩ | ⟨h3, h4⟩
      · cases he
      · refine .inr ⟨by omega, h4, fun L' hL' => ?_⟩
        have hL'' : ρ r' = some L' := by
          unfold upd at hL'
          rw [if_neg (by omega)] at hL'
          exact hL'
        exact ⟨hL'', h.rowsOK.dist r' r row' row L' L h4 hl hL'' hL h3⟩
  · intro r' hr'
    simp at hr'
    unfold upd
    rw [if_neg (by omega)]
    exact h.dom r' (by omega)

/-- immutable data in a new block -/
theorem Sim.grow {n : Nat} {ρ : Pl} {T : Nat → Prop} {env : Env} {rows : Rows} {a : Act} {w w' : World} (h : Sim n ρ T env rows a w) (o : Obj)
    (hw' : w'.heap = w.heap.push o) (hos : w'.os = w.os) (htape : w'.tape = w.tape) (hout : w'.output = w.output) :
    Sim n ρ (fun b => T b ∨ b = w.heap.size) env rows a w' ∧ Step ρ T rows w ρ (fun b => T b ∨ b = w.heap.size) rows w' := by
  have hold : ∀ b, b < w.heap.size → w'.heap[b]? = w.heap[b]? := by
    intro b hb
    rw [hw', Array.getElem?_push, if_neg (by omega)]
  have hT : ∀ b, T b → w'.heap[b]? = w.heap[b]? := fun b hb => hold b (h.tlt b hb)
  refine ⟨⟨⟨fun r row L h1 h2 => ?_, h.rowsOK.dist⟩, h.env.mono (fun _ _ h => h) hT (fun _ h => .inl h), h.size, ?_, h.dom, h.defers⟩,
    ⟨fun _ _ h => h, fun _ h => .inl h, ?_, by simp [hw'], fun b hb _ => hold b hb, fun r row L h1 h2 => .inl ⟨r, row, L, h1, h2, rfl⟩, hos, htape, hout, Nat.le_refl _, fun _ _ => rfl⟩⟩
  · have hr := h.rowsOK.row r row L h1 h2
    refine hr.mono (fun _ _ h => h) hT (fun _ h => .inl h) (hold _ hr.lt) ?_
    rintro (h3 | h3)
    · exact hr.notT h3
    · have := hr.lt; omega
  · rintro b (h1 | h1)
    · have := h.tlt b h1; simp [hw']; omega
    · simp [hw']; omega
  · rintro b (h1 | h1)
    · exact .inl h1
    · exact .inr (.inl (by omega))

theorem Step.tnew0 {ρ ρ' : Pl} {T T' : Nat → Prop} {rows' : Rows} {w w' : World} (h : Step ρ T [] w ρ' T' rows' w') : ∀ b, T' b → T b ∨ w.heap.size ≤ b := by
  intro b hb
  rcases h.tnew b hb with h1 | h1 | ⟨r, row, L, h1, _⟩
  · exact .inl h1
  · exact .inr h1
  · simp [live] at h1

/-- a row's block is marked behind its cells -/
theorem Sim.mark {n : Nat} {ρ : Pl} {T : Nat → Prop} {env : Env} {rows : Rows} {a : Act} {w w' : World} {r : Nat} {row : Row} {L : Loc} (h : Sim n ρ T env rows a w) (hl : live rows r = some row) (hL : ρ r = some L)
    (hsz : w'.heap.size = w.heap.size) (hw : ∀ b, b ≠ L.b → w'.heap[b]? = w.heap[b]?) (hfr : FrOnly w w' L.b) (hos : w'.os = w.os) (htape : w'.tape = w.tape) (hout : w'.output = w.output) :
    Sim n ρ T env rows a w' ∧ Step ρ T rows w ρ T rows w' := by
  have hr := h.rowsOK.row r row L hl hL
  have hT : ∀ b, T b → w'.heap[b]? = w.heap[b]? := fun b hb => hw b (fun e => hr.notT (e ▸ hb))
  refine ⟨⟨⟨fun r' row' L' h1 h2 => ?_, h.rowsOK.dist⟩, h.env.mono (fun _ _ h => h) hT (fun _ h => h), h.size, fun b hb => by rw [hsz]; exact h.tlt b hb, h.dom, h.defers⟩,
    ⟨fun _ _ h => h, fun _ h => h, fun _ h => .inl h, by omega, fun b hb hn => hw b (fun e => hn r row L hl hL e.symm), fun r' row' L' h1 h2 => .inl ⟨r', row', L', h1, h2, rfl⟩, hos, htape, hout, Nat.le_refl _, fun _ _ => rfl⟩⟩
  have hr' := h.rowsOK.row r' row' L' h1 h2
  obtain ⟨cur, t, q1, q2, q3, q4⟩ := hr'.cells
  refine ⟨hr'.sh, hr'.notT, hr'.els, cur, t, ?_, q2, q3, q4.mono fun a b h' => h'.mono (fun _ _ h => h) hT (fun _ h => h)⟩
  by_cases e : L'.b = L.b
  · rw [e] at q1 ⊢
    exact hfr.row q1
  · exact q1.same (hw _ e)

end Go.Am
