import Derived.Test.YtmhagenbelpnfaaDoorRp1
namespace Go.Am
set_option linter.unusedSimpArgs false
set_option linter.unusedVariables false
structure Loc where
 b : Nat
 sh : Sh
 room : Nat
 mp : Bool
def Loc.at (L : Loc) : List Nat → Option Sh
 | [] => none
 | i :: p => bif L.mp then none else L.sh.at p
theorem Loc.at_mp {L : Loc} {p : List Nat} {s : Sh} (h : L.at p = some s) : L.mp = false := by
 cases p with
 | nil => simp [Loc.at] at h
 | cons i p => cases hm : L.mp <;> simp [Loc.at, hm] at h ⊢
theorem Loc.at_cons {L : Loc} {i : Nat} {p : List Nat} (h : L.mp = false) : L.at (i :: p) = L.sh.at p := by simp [Loc.at, h]
def Loc.off (L : Loc) : List Nat → Nat
 | [] => 0
 | i :: p => i * L.sh.size + L.sh.off p
abbrev Pl := Nat → Option Loc
def rawV : D → Value
 | .raw v => v
 | _ => undef
def kv : D → Value
 | .raw v => v
 | .agg _ l => .agg ((flatL l).map rawV).toArray
 | _ => undef
def firstM : List D → Value → Value → Prop
 | [], _, _ => False
 | d :: l, k, v => match entOf d with
  | some (k', v') => (kv k' = k ∧ v' = v) ∨ (kv k' ≠ k ∧ firstM l k v)
  | none => False
structure MapRel (s : Sh) (l : List D) (es : Array MapEntry) : Prop where
 pure : s.pure = true
 key : ∀ e ∈ es.toList, ∃ kd ks, s.sub 0 = some ks ∧ HasSh ks kd ∧ e.key = kv kd
 dist : es.toList.Pairwise (fun a b => a.key ≠ b.key)
 at_ : ∀ k v, (∃ e ∈ es.toList, e.key = k ∧ e.val = v) ↔ firstM l k v
inductive LR (ρ : Pl) (w : World) (T : Nat → Prop) : D → Value → Prop where
 | raw (v : Value) : v.oneCell' = true → LR ρ w T (.raw v) v
 | ptr (s : Sh) (r : Nat) (p : List Nat) (L : Loc) : ρ r = some L → L.at p = some s → LR ρ w T (.ptr s r p) (.pointer (some ⟨L.b, L.off p, none⟩))
 | sl (s : Sh) (r : Nat) (p : List Nat) (off len : Nat) (ex : Bool) (L : Loc) (cap : Nat) : ρ r = some L → len ≤ cap → (ex = true → cap = len) →
   ((p = [] ∧ s = L.sh ∧ L.mp = false ∧ (off + cap) * s.size ≤ L.room) ∨ ∃ n, L.at p = some (.ar n s) ∧ off + cap ≤ n) →
   LR ρ w T (.sl s r p off len ex) (.slice (some ⟨L.b, L.off p + off * s.size, none⟩) len cap)
 | slz (s : Sh) (r : Nat) (p : List Nat) (off : Nat) (ex : Bool) (a : Option Addr) : LR ρ w T (.sl s r p off 0 ex) (.slice a 0 0)
 | aptr (n : Nat) (s : Sh) (r : Nat) (p : List Nat) (off : Nat) (L : Loc) : ρ r = some L → ((p = [] ∧ s = L.sh ∧ L.mp = false ∧ (off + n) * s.size ≤ L.room) ∨ ∃ m, L.at p = some (.ar m s) ∧ off + n ≤ m) →
   LR ρ w T (.aptr n s r p off) (.pointer (some ⟨L.b, L.off p + off * s.size, none⟩))
 | lst0 (s : Sh) (ex : Bool) (a : Option Addr) (cap : Nat) : (ex = true → cap = 0) → (a = none → cap = 0) → LR ρ w T (.lst s [] ex) (.slice a 0 cap)
 | lst (s : Sh) (l : List D) (ex : Bool) (b o cap : Nat) (f : Nat → Value) : (∀ d ∈ l, HasSh s d) → T b →
   (∀ i d, (flatL l)[i]? = some d → w.cell? ⟨b, o + i, none⟩ = some (f i)) → (∀ i d, (flatL l)[i]? = some d → LR ρ w T d (f i)) →
   l.length ≤ cap → (ex = true → cap = l.length) → LR ρ w T (.lst s l ex) (.slice (some ⟨b, o, none⟩) l.length cap)
 | cptr (s : Sh) (d : D) (b o : Nat) (f : Nat → Value) : HasSh s d → T b →
   (∀ i x, d.flat[i]? = some x → w.cell? ⟨b, o + i, none⟩ = some (f i)) → (∀ i x, d.flat[i]? = some x → LR ρ w T x (f i)) →
   LR ρ w T (.cptr d) (.pointer (some ⟨b, o, none⟩))
 | mp (r : Nat) (L : Loc) : ρ r = some L → L.mp = true → LR ρ w T (.mp r) (.map (some L.b))
 | om (s : Sh) (l : List D) (b : Nat) (es : Array MapEntry) (clock : Nat) : (∀ d ∈ l, HasSh s d) → T b → w.heap[b]? = some (.map es clock) → MapRel s l es → LR ρ w T (.om s l) (.map (some b))
theorem LR.slCell {s : Sh} {p : List Nat} {c n : Nat} {L : Loc} (h : (p = [] ∧ s = L.sh ∧ L.mp = false ∧ c ≤ L.room) ∨ ∃ n', L.at p = some (.ar n' s) ∧ n ≤ n') : L.mp = false := by
 rcases h with ⟨_, _, h, _⟩ | ⟨_, h, _⟩
 ·exact h
 ·exact Loc.at_mp h
theorem LR.mono {ρ ρ' : Pl} {w w' : World} {T T' : Nat → Prop} {d : D} {v : Value} (h : LR ρ w T d v) (hρ : ∀ r L, ρ r = some L → ρ' r = some L)
  (hw : ∀ b, T b → w'.heap[b]? = w.heap[b]?) (hT : ∀ b, T b → T' b) : LR ρ' w' T' d v := by
 induction h with
 | raw v hv => exact .raw v hv
 | ptr s r p L hL hp => exact .ptr s r p L (hρ _ _ hL) hp
 | sl s r p off len ex L cap hL h1 h2 h3 => exact .sl s r p off len ex L cap (hρ _ _ hL) h1 h2 h3
 | slz s r p off ex a => exact .slz s r p off ex a
 | aptr n s r p off L hL h1 => exact .aptr n s r p off L (hρ _ _ hL) h1
 | lst0 s ex a cap h1 h2 => exact .lst0 s ex a cap h1 h2
 | lst s l ex b o cap f h1 hb h2 _ h4 h5 ih => exact .lst s l ex b o cap f h1 (hT b hb) (fun i d hd => (World.cell?_of_block (a := ⟨b, o + i, none⟩) (hw b hb)).trans (h2 i d hd)) ih h4 h5
 | cptr s d b o f h1 hb h2 _ ih => exact .cptr s d b o f h1 (hT b hb) (fun i x hx => (World.cell?_of_block (a := ⟨b, o + i, none⟩) (hw b hb)).trans (h2 i x hx)) ih
 | mp r L h1 h2 => exact .mp r L (hρ _ _ h1) h2
 | om s l b es clock h1 hb h2 h3 => exact .om s l b es clock h1 (hT b hb) ((hw b hb).trans h2) h3
theorem LR.one {ρ : Pl} {w : World} {T : Nat → Prop} {d : D} {v : Value} (h : LR ρ w T d v) : v.oneCell' = true := by
 cases h <;> first | assumption | rfl
theorem LR.leaf {ρ : Pl} {w : World} {T : Nat → Prop} {d : D} {v : Value} (h : LR ρ w T d v) : d.isLeaf = true := by
 cases h <;> first | rfl | (simpa [D.isLeaf])
def VR1 (ρ : Pl) (w : World) (T : Nat → Prop) (d : D) (v : Value) : Prop :=
 match d with
 | .agg s l => ∃ cs : Array Value, v = .agg cs ∧ HasSh s (.agg s l) ∧ All2 (LR ρ w T) (flatL l) cs.toList
 | d => LR ρ w T d v
def VR (ρ : Pl) (w : World) (T : Nat → Prop) (d : D) (v : Value) : Prop :=
 match d with
 | .tup l => ∃ vs : Array Value, v = .tuple vs ∧ All2 (VR1 ρ w T) l vs.toList
 | d => VR1 ρ w T d v
theorem VR1.mono {ρ ρ' : Pl} {w w' : World} {T T' : Nat → Prop} {d : D} {v : Value} (h : VR1 ρ w T d v) (hρ : ∀ r L, ρ r = some L → ρ' r = some L)
  (hw : ∀ b, T b → w'.heap[b]? = w.heap[b]?) (hT : ∀ b, T b → T' b) : VR1 ρ' w' T' d v := by
 cases d with
 | agg s l =>
  obtain ⟨cs, rfl, h1, h2⟩ := h
  exact ⟨cs, rfl, h1, h2.mono fun a b h => h.mono hρ hw hT⟩
 | _ => exact LR.mono h hρ hw hT
theorem VR.mono {ρ ρ' : Pl} {w w' : World} {T T' : Nat → Prop} {d : D} {v : Value} (h : VR ρ w T d v) (hρ : ∀ r L, ρ r = some L → ρ' r = some L)
  (hw : ∀ b, T b → w'.heap[b]? = w.heap[b]?) (hT : ∀ b, T b → T' b) : VR ρ' w' T' d v := by
 cases d with
 | tup l =>
  obtain ⟨vs, rfl, h1⟩ := h
  exact ⟨vs, rfl, h1.mono fun a b h => VR1.mono h hρ hw hT⟩
 | agg s l => exact VR1.mono (d := .agg s l) h hρ hw hT
 | _ => exact LR.mono h hρ hw hT
theorem cells_one {v : Value} (h : v.oneCell' = true) : v.cells = #[v] := by cases v <;> simp_all [Value.oneCell', Value.cells]
theorem VR.cells {ρ : Pl} {w : World} {T : Nat → Prop} {d : D} {v : Value} {s : Sh} (h : VR ρ w T d v) (hf : d.fits s = true) :
  HasSh s d ∧ All2 (LR ρ w T) d.flat v.cells.toList ∧ (s.isAgg = true → ∃ cs, v = .agg cs) ∧ (s.isAgg = false → v.oneCell' = true) := by
 cases d with
 | agg t l =>
  simp [D.fits] at hf
  subst hf
  obtain ⟨cs, rfl, h1, h2⟩ := h
  refine ⟨h1, by simpa [D.flat, Value.cells] using h2, fun _ => ⟨cs, rfl⟩, fun ha => ?_⟩
  have := h1.leafOf ha
  simp [D.isLeaf] at this
 | tup l => cases s <;> simp [D.fits] at hf
 | raw x =>
  have h' : LR ρ w T (.raw x) v := h
  have h1 := h'.one
  have hl := h'.leaf
  cases s <;> simp [D.fits] at hf
  ·exact ⟨.leaf _ x hf, by rw [cells_one h1, leaf_flat hl]; exact All2.single h', by simp [Sh.isAgg], fun _ => h1⟩
  ·exact ⟨.ref _ hl, by rw [cells_one h1, leaf_flat hl]; exact All2.single h', by simp [Sh.isAgg], fun _ => h1⟩
 | _ =>
  have h' : LR ρ w T _ v := h
  have h1 := h'.one
  have hl := h'.leaf
  cases s <;> simp [D.fits] at hf
  exact ⟨.ref _ hl, by rw [cells_one h1, leaf_flat hl]; exact All2.single h', by simp [Sh.isAgg], fun _ => h1⟩
theorem VR1.ofAgg {ρ : Pl} {w : World} {T : Nat → Prop} {d : D} {s : Sh} {cs : Array Value} (h : HasSh s d) (ha : s.isAgg = true) (hc : All2 (LR ρ w T) d.flat cs.toList) : VR1 ρ w T d (.agg cs) := by
 obtain ⟨l, rfl, _⟩ := h.aggOf ha
 exact ⟨cs, rfl, h, by simpa [D.flat] using hc⟩
theorem VR1.ofLeaf {ρ : Pl} {w : World} {T : Nat → Prop} {d : D} {v : Value} (hc : LR ρ w T d v) : VR1 ρ w T d v := by
 cases d <;> first | exact hc | cases hc
theorem VR.ofVR1 {ρ : Pl} {w : World} {T : Nat → Prop} {d : D} {v : Value} (hc : VR1 ρ w T d v) : VR ρ w T d v := by
 cases d <;> first | exact hc | (cases hc)
theorem VR.ofLeaf {ρ : Pl} {w : World} {T : Nat → Prop} {d : D} {v : Value} (hc : LR ρ w T d v) : VR ρ w T d v := VR.ofVR1 (VR1.ofLeaf hc)
theorem VR.raw {ρ : Pl} {w : World} {T : Nat → Prop} {v : Value} (h : v.oneCell' = true) : VR ρ w T (.raw v) v := VR.ofLeaf (.raw v h)
theorem VR.ofRaw {ρ : Pl} {w : World} {T : Nat → Prop} {v x : Value} (h : VR ρ w T (.raw x) v) : v = x := by
 have h' : LR ρ w T (.raw x) v := h
 cases h'
 rfl
theorem VR.toLR {ρ : Pl} {w : World} {T : Nat → Prop} {d : D} {v : Value} (h : VR ρ w T d v) (hl : d.isLeaf = true) : LR ρ w T d v := by
 cases d <;> first | exact h | simp [D.isLeaf] at hl
def FrOK (n : Nat) (fr : Nat × Nat) : Prop := fr = (0, 0) ∨ n ≤ fr.1
def RowAt (w : World) (b : Nat) (cur : Array Value) (t : TypeId) : Prop := ∃ fr, w.heap[b]? = some (.cells cur t fr) ∧ FrOK cur.size fr
theorem RowAt.same {w w' : World} {b : Nat} {cur : Array Value} {t : TypeId} (h : RowAt w b cur t) (hb : w'.heap[b]? = w.heap[b]?) : RowAt w' b cur t := by
 obtain ⟨fr, h1, h2⟩ := h
 exact ⟨fr, hb.trans h1, h2⟩
theorem RowAt.uniq {w : World} {b : Nat} {cur cur' : Array Value} {t t' : TypeId} (h : RowAt w b cur t) (h' : RowAt w b cur' t') : cur = cur' ∧ t = t' := by
 obtain ⟨fr, h1, _⟩ := h
 obtain ⟨fr', h2, _⟩ := h'
 rw [h1] at h2
 cases h2
 exact ⟨rfl, rfl⟩
theorem RowAt.setRow {w : World} {b : Nat} {cur cur' : Array Value} {t : TypeId} (h : RowAt w b cur t) (hs : cur'.size = cur.size) : RowAt (w.setRow b cur') b cur' t := by
 obtain ⟨fr, h1, h2⟩ := h
 exact ⟨fr, setRow_heap w b cur cur' t fr h1, by rw [hs]; exact h2⟩
theorem FrOK.not {w : World} {b o : Nat} {cur : Array Value} {t : TypeId} {fr : Nat × Nat} (h1 : w.heap[b]? = some (.cells cur t fr)) (h2 : FrOK cur.size fr) (ho : o < cur.size) : w.frozen? ⟨b, o, none⟩ = false := by
 obtain ⟨lo, hi⟩ := fr
 rcases h2 with h2 | h2
 ·cases h2
  simp [World.frozen?, h1]
 ·simp only [World.frozen?, h1]
  simp at h2
  simp
  omega
def FrOnly (w w' : World) (b : Nat) : Prop := ∃ cur t fr fr', w.heap[b]? = some (.cells cur t fr) ∧ w'.heap[b]? = some (.cells cur t fr') ∧ FrOK cur.size fr'
theorem FrOnly.row {w w' : World} {b : Nat} {cur : Array Value} {t : TypeId} (h : FrOnly w w' b) (hr : RowAt w b cur t) : RowAt w' b cur t := by
 obtain ⟨c, t', fr, fr', h1, h2, h3⟩ := h
 obtain ⟨fr0, h4, _⟩ := hr
 rw [h1] at h4
 cases h4
 exact ⟨fr', h2, h3⟩
structure RowOK (ρ : Pl) (row : Row) (L : Loc) (w : World) (T : Nat → Prop) : Prop where
 sh : L.sh = row.sh
 notT : ¬ T L.b
 els : ∀ d ∈ row.els, HasSh row.sh d
 cells : L.mp = false → ∃ cur t, RowAt w L.b cur t ∧ L.room ≤ cur.size ∧ (flatL row.els).length ≤ L.room ∧ All2 (LR ρ w T) (flatL row.els) (cur.toList.take (flatL row.els).length)
 mcells : L.mp = true → ∃ es clock, w.heap[L.b]? = some (.map es clock) ∧ MapRel row.sh row.els es
def QH (ρ : Pl) (rows : Rows) (w w' : World) : Prop := ∀ b, b < w.heap.size → w'.heap[b]? = w.heap[b]? ∨ (FrOnly w w' b ∧ ∃ r row L, live rows r = some row ∧ ρ r = some L ∧ L.b = b)
structure RowsOK (ρ : Pl) (rows : Rows) (w : World) (T : Nat → Prop) : Prop where
 row : ∀ r row L, live rows r = some row → ρ r = some L → RowOK ρ row L w T
 dist : ∀ r r' row row' L L', live rows r = some row → live rows r' = some row' → ρ r = some L → ρ r' = some L' → r ≠ r' → L.b ≠ L'.b
theorem RowOK.lt {ρ : Pl} {row : Row} {L : Loc} {w : World} {T : Nat → Prop} (h : RowOK ρ row L w T) : L.b < w.heap.size := by
 cases hm : L.mp with
 | false =>
  obtain ⟨cur, t, ⟨_, hh, _⟩, _⟩ := h.cells hm
  exact (Array.getElem?_eq_some_iff.1 hh).1
 | true =>
  obtain ⟨es, clock, hh, _⟩ := h.mcells hm
  exact (Array.getElem?_eq_some_iff.1 hh).1
theorem RowOK.mono {ρ ρ' : Pl} {row : Row} {L : Loc} {w w' : World} {T T' : Nat → Prop} (h : RowOK ρ row L w T) (hρ : ∀ r L, ρ r = some L → ρ' r = some L)
  (hw : ∀ b, T b → w'.heap[b]? = w.heap[b]?) (hT : ∀ b, T b → T' b) (hb : w'.heap[L.b]? = w.heap[L.b]?) (hn : ¬ T' L.b) : RowOK ρ' row L w' T' := by
 refine ⟨h.sh, hn, h.els, fun hm => ?_, fun hm => ?_⟩
 ·obtain ⟨cur, t, h1, h2, h3, h4⟩ := h.cells hm
  exact ⟨cur, t, h1.same hb, h2, h3, h4.mono fun a b h => h.mono hρ hw hT⟩
 ·obtain ⟨es, clock, h1, h2⟩ := h.mcells hm
  exact ⟨es, clock, hb.trans h1, h2⟩
theorem RowOK.monoQ {ρ ρ' : Pl} {row : Row} {L : Loc} {w w' : World} {T T' : Nat → Prop} (h : RowOK ρ row L w T) (hρ : ∀ r L, ρ r = some L → ρ' r = some L)
  (hw : ∀ b, T b → w'.heap[b]? = w.heap[b]?) (hT : ∀ b, T b → T' b) (hb : w'.heap[L.b]? = w.heap[L.b]? ∨ FrOnly w w' L.b) (hn : ¬ T' L.b) : RowOK ρ' row L w' T' := by
 refine ⟨h.sh, hn, h.els, fun hm => ?_, fun hm => ?_⟩
 ·obtain ⟨cur, t, h1, h2, h3, h4⟩ := h.cells hm
  refine ⟨cur, t, ?_, h2, h3, h4.mono fun a b h => h.mono hρ hw hT⟩
  rcases hb with hb | hb
  ·exact h1.same hb
  ·exact hb.row h1
 ·obtain ⟨es, clock, h1, h2⟩ := h.mcells hm
  rcases hb with hb | ⟨cur, t, fr, fr', h3, _⟩
  ·exact ⟨es, clock, hb.trans h1, h2⟩
  ·rw [h1] at h3; cases h3
def EnvOK (ρ : Pl) (w : World) (T : Nat → Prop) (env : Env) (tmps : Array Value) : Prop := ∀ t d, look env t = some d → VR ρ w T d (tmps.getD t undef)
theorem EnvOK.mono {ρ ρ' : Pl} {w w' : World} {T T' : Nat → Prop} {env : Env} {tmps : Array Value} (h : EnvOK ρ w T env tmps) (hρ : ∀ r L, ρ r = some L → ρ' r = some L)
  (hw : ∀ b, T b → w'.heap[b]? = w.heap[b]?) (hT : ∀ b, T b → T' b) : EnvOK ρ' w' T' env tmps := fun t d hd => (h t d hd).mono hρ hw hT
theorem EnvOK.put {ρ : Pl} {w : World} {T : Nat → Prop} {env : Env} {a : Act} {dst : Option Nat} {d : D} {v : Value} (h : EnvOK ρ w T env a.tmps) (hv : VR ρ w T d v)
  (hd : ∀ t, dst = some t → t < a.tmps.size) : EnvOK ρ w T (Am.put dst d env) (a.put dst v).tmps := by
 cases dst with
 | none => exact h
 | some t =>
  intro t' d' hl
  have ht := hd t rfl
  simp only [Am.put, look] at hl
  simp only [Act.put]
  cases hb : (t == t') with
  | true =>
   have : t = t' := by simpa using hb
   subst this
   simp [hb] at hl
   subst hl
   simpa [Array.getD, ht] using hv
  | false =>
   have hne : t ≠ t' := by simpa using hb
   simp [hb] at hl
   have := h t' d' hl
   simpa [Array.getElem?_setIfInBounds, hne] using this
structure Step (ρ : Pl) (T : Nat → Prop) (rows : Rows) (w : World) (ρ' : Pl) (T' : Nat → Prop) (rows' : Rows) (w' : World) : Prop where
 pl : ∀ r L, ρ r = some L → ρ' r = some L
 tt : ∀ b, T b → T' b
 tnew : ∀ b, T' b → T b ∨ w.heap.size ≤ b ∨ ∃ r row L, live rows r = some row ∧ ρ r = some L ∧ L.b = b
 size : w.heap.size ≤ w'.heap.size
 keep : ∀ b, b < w.heap.size → (∀ r row L, live rows r = some row → ρ r = some L → L.b ≠ b) → w'.heap[b]? = w.heap[b]?
 fresh : ∀ r row L, live rows' r = some row → ρ' r = some L → (∃ r0 row0 L0, live rows r0 = some row0 ∧ ρ r0 = some L0 ∧ L0.b = L.b) ∨ w.heap.size ≤ L.b
 os : w'.os = w.os
 tape : w'.tape = w.tape
 output : w'.output = w.output
 len : rows.length ≤ rows'.length
 same : ∀ r, r < rows.length → ρ' r = ρ r
theorem Step.refl (ρ : Pl) (T : Nat → Prop) (rows : Rows) (w : World) : Step ρ T rows w ρ T rows w :=
 ⟨fun _ _ h => h, fun _ h => h, fun _ h => .inl h, Nat.le_refl _, fun _ _ _ => rfl, fun r row L h1 h2 => .inl ⟨r, row, L, h1, h2, rfl⟩, rfl, rfl, rfl, Nat.le_refl _, fun _ _ => rfl⟩
theorem Step.trans {ρ ρ' ρ'' : Pl} {T T' T'' : Nat → Prop} {rows rows' rows'' : Rows} {w w' w'' : World} (h : Step ρ T rows w ρ' T' rows' w') (h' : Step ρ' T' rows' w' ρ'' T'' rows'' w'') :
  Step ρ T rows w ρ'' T'' rows'' w'' := by
 refine ⟨fun r L hr => h'.pl r L (h.pl r L hr), fun b hb => h'.tt b (h.tt b hb), fun b hb => ?_, Nat.le_trans h.size h'.size, fun b hb hn => ?_, fun r row L h1 h2 => ?_,
  h'.os.trans h.os, h'.tape.trans h.tape, h'.output.trans h.output, Nat.le_trans h.len h'.len, fun r hr => (h'.same r (Nat.lt_of_lt_of_le hr h.len)).trans (h.same r hr)⟩
 ·rcases h'.tnew b hb with h1 | h1 | ⟨r, row, L, h1, h2, h3⟩
  ·exact h.tnew b h1
  ·exact .inr (.inl (Nat.le_trans h.size h1))
  ·rcases h.fresh r row L h1 h2 with ⟨r0, row0, L0, h4, h5, h6⟩ | h4
   ·exact .inr (.inr ⟨r0, row0, L0, h4, h5, h6.trans h3⟩)
   ·exact .inr (.inl (by omega))
 ·rw [h'.keep b (Nat.lt_of_lt_of_le hb h.size), h.keep b hb hn]
  intro r row L h1 h2 he
  rcases h.fresh r row L h1 h2 with ⟨r0, row0, L0, h3, h4, h5⟩ | h3
  ·exact hn r0 row0 L0 h3 h4 (h5.trans he)
  ·omega
 ·rcases h'.fresh r row L h1 h2 with ⟨r0, row0, L0, h3, h4, h5⟩ | h3
  ·rcases h.fresh r0 row0 L0 h3 h4 with ⟨r1, row1, L1, h6, h7, h8⟩ | h6
   ·exact .inl ⟨r1, row1, L1, h6, h7, h8.trans h5⟩
   ·exact .inr (h5 ▸ h6)
  ·exact .inr (Nat.le_trans h.size h3)
structure Sim (n : Nat) (ρ : Pl) (T : Nat → Prop) (env : Env) (rows : Rows) (a : Act) (w : World) : Prop where
 rowsOK : RowsOK ρ rows w T
 env : EnvOK ρ w T env a.tmps
 size : a.tmps.size = n
 tlt : ∀ b, T b → b < w.heap.size
 dom : ∀ r, rows.length ≤ r → ρ r = none
 defers : a.defers = []
theorem Sim.put {n : Nat} {ρ : Pl} {T : Nat → Prop} {env : Env} {rows : Rows} {a : Act} {w : World} (h : Sim n ρ T env rows a w) {dst : Option Nat} {d : D} {v : Value} (hv : VR ρ w T d v)
  (hd : ∀ t, dst = some t → t < n) : Sim n ρ T (Am.put dst d env) rows (a.put dst v) w :=
 ⟨h.rowsOK, h.env.put hv (fun t ht => by rw [h.size]; exact hd t ht), by cases dst <;> simp [Act.put, h.size], h.tlt, h.dom, by cases dst <;> simp [Act.put, h.defers]⟩
def upd (ρ : Pl) (r : Nat) (L : Loc) : Pl := fun r' => if r' = r then some L else ρ r'
theorem upd_mono {ρ : Pl} {r : Nat} {L : Loc} (h : ρ r = none) : ∀ r' L', ρ r' = some L' → upd ρ r L r' = some L' := by
 intro r' L' h'
 unfold upd
 split
 ·rename_i e; subst e; simp [h] at h'
 ·exact h'
theorem Sim.build {n : Nat} {ρ ρ' : Pl} {T : Nat → Prop} {env : Env} {rows rows' : Rows} {a : Act} {w w' : World} (h : Sim n ρ T env rows a w) (B : Nat) (r0 : Nat) (row0 : Row) (L0 : Loc)
  (hρ : ∀ r L, ρ r = some L → ρ' r = some L) (hB : ¬ T B) (hL0 : L0.b = B) (hρ0 : ρ' r0 = some L0) (hsz : w.heap.size ≤ w'.heap.size)
  (hw : ∀ b, b ≠ B → b < w.heap.size → w'.heap[b]? = w.heap[b]?) (hos : w'.os = w.os) (htape : w'.tape = w.tape) (hout : w'.output = w.output)
  (hrow0 : RowOK ρ' row0 L0 w' T) (hBlive : (∃ r row L, live rows r = some row ∧ ρ r = some L ∧ L.b = B) ∨ w.heap.size ≤ B)
  (hlive : ∀ r row, live rows' r = some row → (r = r0 ∧ row = row0) ∨ (r ≠ r0 ∧ live rows r = some row ∧ ∀ L, ρ' r = some L → ρ r = some L ∧ L.b ≠ B))
  (hdom : ∀ r, rows'.length ≤ r → ρ' r = none) (hlen : rows.length ≤ rows'.length) (hsame : ∀ r, r < rows.length → ρ' r = ρ r) : Sim n ρ' T env rows' a w' ∧ Step ρ T rows w ρ' T rows' w' := by
 have hTw : ∀ b, T b → w'.heap[b]? = w.heap[b]? := fun b hb => hw b (fun e => hB (e ▸ hb)) (h.tlt b hb)
 refine ⟨⟨⟨?_, ?_⟩, h.env.mono hρ hTw (fun _ h => h), h.size, fun b hb => Nat.lt_of_lt_of_le (h.tlt b hb) hsz, hdom, h.defers⟩,
  ⟨hρ, fun _ h => h, fun _ h => .inl h, hsz, ?_, ?_, hos, htape, hout, hlen, hsame⟩⟩
 ·intro r row L h1 h2
  rcases hlive r row h1 with ⟨rfl, rfl⟩ | ⟨hr, h3, h4⟩
  ·rw [hρ0] at h2; cases h2; exact hrow0
  ·obtain ⟨h5, h6⟩ := h4 L h2
   have := h.rowsOK.row r row L h3 h5
   exact this.mono hρ hTw (fun _ h => h) (hw _ h6 this.lt) this.notT
 ·intro r r' row row' L L' h1 h2 h3 h4 hne
  rcases hlive r row h1 with ⟨rfl, rfl⟩ | ⟨hr, h5, h6⟩
  ·rw [hρ0] at h3; cases h3
   rcases hlive r' row' h2 with ⟨rfl, rfl⟩ | ⟨hr', h7, h8⟩
   ·exact absurd rfl hne
   ·rw [hL0]; exact fun e => (h8 L' h4).2 e.symm
  ·rcases hlive r' row' h2 with ⟨rfl, rfl⟩ | ⟨hr', h7, h8⟩
   ·rw [hρ0] at h4; cases h4
    rw [hL0]; exact (h6 L h3).2
   ·exact h.rowsOK.dist r r' row row' L L' h5 h7 (h6 L h3).1 (h8 L' h4).1 hne
 ·intro b hb hn
  refine hw b ?_ hb
  rintro rfl
  rcases hBlive with ⟨r, row, L, h1, h2, h3⟩ | h1
  ·exact hn r row L h1 h2 h3
  ·omega
 ·intro r row L h1 h2
  rcases hlive r row h1 with ⟨rfl, rfl⟩ | ⟨hr, h3, h4⟩
  ·rw [hρ0] at h2; cases h2
   rcases hBlive with ⟨r, row, L, h1, h2, h3⟩ | h1
   ·exact .inl ⟨r, row, L, h1, h2, by rw [h3, hL0]⟩
   ·exact .inr (by rw [hL0]; exact h1)
  ·exact .inl ⟨r, row, L, h3, (h4 L h2).1, rfl⟩
theorem Sim.heap {n : Nat} {ρ : Pl} {T : Nat → Prop} {env : Env} {rows : Rows} {a : Act} {w w' : World} (h : Sim n ρ T env rows a w) (hh : w'.heap = w.heap) : Sim n ρ T env rows a w' := by
 have hT : ∀ b, T b → w'.heap[b]? = w.heap[b]? := fun b _ => by rw [hh]
 refine ⟨⟨fun r row L h1 h2 => ?_, h.rowsOK.dist⟩, h.env.mono (fun _ _ h => h) hT (fun _ h => h), h.size, fun b hb => by rw [hh]; exact h.tlt b hb, h.dom, h.defers⟩
 exact (h.rowsOK.row r row L h1 h2).mono (fun _ _ h => h) hT (fun _ h => h) (by rw [hh]) (h.rowsOK.row r row L h1 h2).notT
theorem live_append_new (rows : Rows) (row : Row) : live (rows ++ [some row]) rows.length = some row := by simp [live]
theorem live_append {rows : Rows} {row row' : Row} {r : Nat} (h : live (rows ++ [some row']) r = some row) : (r = rows.length ∧ row = row') ∨ (r < rows.length ∧ live rows r = some row) := by
 unfold live at h ⊢
 rcases Nat.lt_trichotomy r rows.length with h1 | h1 | h1
 ·right
  rw [List.getElem?_append_left h1] at h
  exact ⟨h1, h⟩
 ·left
  subst h1
  simp at h
  exact ⟨rfl, h.symm⟩
 ·rw [List.getElem?_append_right (by omega)] at h
  have : r - rows.length ≠ 0 := by omega
  obtain ⟨k, hk⟩ := Nat.exists_eq_succ_of_ne_zero this
  rw [hk] at h
  simp at h
theorem live_lt {rows : Rows} {r : Nat} {row : Row} (h : live rows r = some row) : r < rows.length := by
 unfold live at h
 split at h
 ·rename_i hh; exact lt_of_get hh
 ·cases h
theorem live_set {rows : Rows} {x : Option Row} {r r' : Nat} {row : Row} (h : live (rows.set r x) r' = some row) : (r' = r ∧ x = some row) ∨ (r' ≠ r ∧ live rows r' = some row) := by
 unfold live at h ⊢
 rw [List.getElem?_set] at h
 by_cases hr : r = r'
 ·subst hr
  left
  simp only [if_true] at h
  by_cases hl : r < rows.length
  ·simp only [hl, if_true] at h
   cases x with
   | none => simp at h
   | some y => simp at h; exact ⟨rfl, by rw [h]⟩
  ·simp [hl] at h
 ·right
  simp only [hr, if_false] at h
  exact ⟨fun e => hr e.symm, h⟩
theorem live_set_same {rows : Rows} {r : Nat} {row row' : Row} (h : live rows r = some row) : live (rows.set r (some row')) r = some row' := by
 simp [live, live_lt h]
theorem Sim.push {n : Nat} {ρ : Pl} {T : Nat → Prop} {env : Env} {rows : Rows} {a : Act} {w w' : World} (h : Sim n ρ T env rows a w) (row : Row) (cur : Array Value) (t : TypeId)
  (hw' : w'.heap = w.heap.push (.cells cur t)) (hos : w'.os = w.os) (htape : w'.tape = w.tape) (hout : w'.output = w.output)
  (hels : ∀ d ∈ row.els, HasSh row.sh d) (hlen : (flatL row.els).length ≤ cur.size) (hc : All2 (LR ρ w T) (flatL row.els) (cur.toList.take (flatL row.els).length)) :
  Sim n (upd ρ rows.length ⟨w.heap.size, row.sh, cur.size, false⟩) T env (rows ++ [some row]) a w' ∧ Step ρ T rows w (upd ρ rows.length ⟨w.heap.size, row.sh, cur.size, false⟩) T (rows ++ [some row]) w' := by
 have hnT : ¬ T w.heap.size := fun hT => Nat.lt_irrefl _ (h.tlt _ hT)
 have hmono := upd_mono (L := (⟨w.heap.size, row.sh, cur.size, false⟩ : Loc)) (h.dom rows.length (Nat.le_refl _))
 have hold : ∀ b, b ≠ w.heap.size → b < w.heap.size → w'.heap[b]? = w.heap[b]? := by
  intro b hb _
  rw [hw', Array.getElem?_push, if_neg hb]
 refine h.build w.heap.size rows.length row ⟨w.heap.size, row.sh, cur.size, false⟩ hmono hnT rfl (by simp [upd]) (by simp [hw']) hold hos htape hout ?_ (.inr (Nat.le_refl _)) ?_ ?_ (by simp) (fun r hr => by unfold upd; rw [if_neg (by omega)])
 ·exact ⟨rfl, hnT, hels, fun _ => ⟨cur, t, ⟨(0, 0), by simp [hw'], .inl rfl⟩, Nat.le_refl _, hlen, hc.mono fun a b h' => h'.mono hmono (fun b hb => hold b (fun e => hnT (e ▸ hb)) (h.tlt b hb)) (fun _ h => h)⟩, fun h => by cases h⟩
 ·intro r row' hl
  rcases live_append hl with ⟨rfl, rfl⟩ | ⟨h1, h2⟩
  ·exact .inl ⟨rfl, rfl⟩
  ·refine .inr ⟨by omega, h2, fun L hL => ?_⟩
   have : ρ r = some L := by
    unfold upd at hL
    rw [if_neg (by omega)] at hL
    exact hL
   exact ⟨this, fun e => by have := (h.rowsOK.row r row' L h2 this).lt; omega⟩
 ·intro r hr
  simp at hr
  unfold upd
  rw [if_neg (by omega)]
  exact h.dom r (by omega)
theorem Sim.write {n : Nat} {ρ : Pl} {T : Nat → Prop} {env : Env} {rows : Rows} {a : Act} {w : World} (h : Sim n ρ T env rows a w) {r : Nat} {row : Row} {L : Loc} (hl : live rows r = some row) (hL : ρ r = some L)
  (els : List D) (cur cur' : Array Value) (t : TypeId) (hmp : L.mp = false) (hcur : RowAt w L.b cur t) (hsz : cur'.size = cur.size) (hels : ∀ d ∈ els, HasSh row.sh d)
  (hlen : (flatL els).length ≤ L.room) (hc : All2 (LR ρ w T) (flatL els) (cur'.toList.take (flatL els).length)) :
  Sim n ρ T env (rows.set r (some ⟨row.sh, els⟩)) a (w.setRow L.b cur') ∧ Step ρ T rows w ρ T (rows.set r (some ⟨row.sh, els⟩)) (w.setRow L.b cur') := by
 have hrow := h.rowsOK.row r row L hl hL
 have hold : ∀ b, b ≠ L.b → b < w.heap.size → (w.setRow L.b cur').heap[b]? = w.heap[b]? := fun b hb _ => setRow_other w L.b b cur' hb
 obtain ⟨cur0, t0, hc0, hroom, _, _⟩ := hrow.cells hmp
 obtain ⟨rfl, rfl⟩ := hcur.uniq hc0
 refine h.build L.b r ⟨row.sh, els⟩ L (fun _ _ h => h) hrow.notT rfl hL (by simp) hold rfl rfl rfl ?_ (.inl ⟨r, row, L, hl, hL, rfl⟩) ?_ ?_ (by simp) (fun _ _ => rfl)
 ·exact ⟨hrow.sh, hrow.notT, hels, fun _ => ⟨cur', t, hcur.setRow hsz, by omega, hlen,
   hc.mono fun a b h' => h'.mono (fun _ _ h => h) (fun b hb => hold b (fun e => hrow.notT (e ▸ hb)) (h.tlt b hb)) (fun _ h => h)⟩, fun hm => by rw [hmp] at hm; cases hm⟩
 ·intro r' row' hl'
  rcases live_set hl' with ⟨rfl, he⟩ | ⟨h1, h2⟩
  ·cases he; exact .inl ⟨rfl, rfl⟩
  ·exact .inr ⟨h1, h2, fun L' hL' => ⟨hL', h.rowsOK.dist r' r row' row L' L h2 hl hL' hL h1⟩⟩
 ·intro r' hr'
  simp at hr'
  exact h.dom r' hr'
theorem Sim.kill {n : Nat} {ρ : Pl} {T : Nat → Prop} {env : Env} {rows : Rows} {a : Act} {w : World} (h : Sim n ρ T env rows a w) (r : Nat) :
  Sim n ρ T env (rows.set r none) a w ∧ Step ρ T rows w ρ T (rows.set r none) w := by
 have hk : ∀ r' row, live (rows.set r none) r' = some row → live rows r' = some row := by
  intro r' row hl
  rcases live_set hl with ⟨_, he⟩ | ⟨_, h2⟩
  ·cases he
  ·exact h2
 refine ⟨⟨⟨fun r' row L h1 h2 => h.rowsOK.row r' row L (hk _ _ h1) h2, fun r1 r2 row1 row2 L1 L2 h1 h2 => h.rowsOK.dist r1 r2 row1 row2 L1 L2 (hk _ _ h1) (hk _ _ h2)⟩, h.env, h.size, h.tlt, fun r' hr' => h.dom r' (by simpa using hr'), h.defers⟩, ?_⟩
 exact ⟨fun _ _ h => h, fun _ h => h, fun _ h => .inl h, Nat.le_refl _, fun _ _ _ => rfl, fun r' row L h1 h2 => .inl ⟨r', row, L, hk _ _ h1, h2, rfl⟩, rfl, rfl, rfl, by simp, fun _ _ => rfl⟩
theorem Sim.move {n : Nat} {ρ : Pl} {T : Nat → Prop} {env : Env} {rows : Rows} {a : Act} {w : World} (h : Sim n ρ T env rows a w) {r : Nat} {row : Row} {L : Loc} (hl : live rows r = some row) (hL : ρ r = some L)
  (els : List D) (cur cur' : Array Value) (t : TypeId) (hmp : L.mp = false) (hcur : RowAt w L.b cur t) (hsz : cur'.size = cur.size) (hels : ∀ d ∈ els, HasSh row.sh d)
  (hlen : (flatL els).length ≤ L.room) (hc : All2 (LR ρ w T) (flatL els) (cur'.toList.take (flatL els).length)) :
  Sim n (upd ρ rows.length L) T env (rows.set r none ++ [some ⟨row.sh, els⟩]) a (w.setRow L.b cur') ∧ Step ρ T rows w (upd ρ rows.length L) T (rows.set r none ++ [some ⟨row.sh, els⟩]) (w.setRow L.b cur') := by
 have hrow := h.rowsOK.row r row L hl hL
 have hold : ∀ b, b ≠ L.b → b < w.heap.size → (w.setRow L.b cur').heap[b]? = w.heap[b]? := fun b hb _ => setRow_other w L.b b cur' hb
 have hmono := upd_mono (L := L) (h.dom rows.length (Nat.le_refl _))
 obtain ⟨cur0, t0, hc0, hroom, _, _⟩ := hrow.cells hmp
 obtain ⟨rfl, rfl⟩ := hcur.uniq hc0
 refine h.build L.b rows.length ⟨row.sh, els⟩ L hmono hrow.notT rfl (by simp [upd]) (by simp) hold rfl rfl rfl ?_ (.inl ⟨r, row, L, hl, hL, rfl⟩) ?_ ?_ (by simp) (fun r hr => by unfold upd; rw [if_neg (by omega)])
 ·exact ⟨hrow.sh, hrow.notT, hels, fun _ => ⟨cur', t, hcur.setRow hsz, by omega, hlen,
   hc.mono fun a b h' => h'.mono hmono (fun b hb => hold b (fun e => hrow.notT (e ▸ hb)) (h.tlt b hb)) (fun _ h => h)⟩, fun hm => by rw [hmp] at hm; cases hm⟩
 ·intro r' row' hl'
  rcases live_append hl' with ⟨h1, rfl⟩ | ⟨h1, h2⟩
  ·exact .inl ⟨by simpa using h1, rfl⟩
  ·simp at h1
   rcases live_set h2 with ⟨_, he⟩ | ⟨h3, h4⟩
   ·cases he
   ·refine .inr ⟨by omega, h4, fun L' hL' => ?_⟩
    have hL'' : ρ r' = some L' := by
     unfold upd at hL'
     rw [if_neg (by omega)] at hL'
     exact hL'
    exact ⟨hL'', h.rowsOK.dist r' r row' row L' L h4 hl hL'' hL h3⟩
 ·intro r' hr'
  simp at hr'
  unfold upd
  rw [if_neg (by omega)]
  exact h.dom r' (by omega)
theorem Sim.grow {n : Nat} {ρ : Pl} {T : Nat → Prop} {env : Env} {rows : Rows} {a : Act} {w w' : World} (h : Sim n ρ T env rows a w) (o : Obj)
  (hw' : w'.heap = w.heap.push o) (hos : w'.os = w.os) (htape : w'.tape = w.tape) (hout : w'.output = w.output) :
  Sim n ρ (fun b => T b ∨ b = w.heap.size) env rows a w' ∧ Step ρ T rows w ρ (fun b => T b ∨ b = w.heap.size) rows w' := by
 have hold : ∀ b, b < w.heap.size → w'.heap[b]? = w.heap[b]? := by
  intro b hb
  rw [hw', Array.getElem?_push, if_neg (by omega)]
 have hT : ∀ b, T b → w'.heap[b]? = w.heap[b]? := fun b hb => hold b (h.tlt b hb)
 refine ⟨⟨⟨fun r row L h1 h2 => ?_, h.rowsOK.dist⟩, h.env.mono (fun _ _ h => h) hT (fun _ h => .inl h), h.size, ?_, h.dom, h.defers⟩,
  ⟨fun _ _ h => h, fun _ h => .inl h, ?_, by simp [hw'], fun b hb _ => hold b hb, fun r row L h1 h2 => .inl ⟨r, row, L, h1, h2, rfl⟩, hos, htape, hout, Nat.le_refl _, fun _ _ => rfl⟩⟩
 ·have hr := h.rowsOK.row r row L h1 h2
  refine hr.mono (fun _ _ h => h) hT (fun _ h => .inl h) (hold _ hr.lt) ?_
  rintro (h3 | h3)
  ·exact hr.notT h3
  ·have := hr.lt; omega
 ·rintro b (h1 | h1)
  ·have := h.tlt b h1; simp [hw']; omega
  ·simp [hw']; omega
 ·rintro b (h1 | h1)
  ·exact .inl h1
  ·exact .inr (.inl (by omega))
theorem Sim.pushMap {n : Nat} {ρ : Pl} {T : Nat → Prop} {env : Env} {rows : Rows} {a : Act} {w w' : World} (h : Sim n ρ T env rows a w) (s : Sh) (hp : s.pure = true)
  (hw' : w'.heap = w.heap.push (.map #[] 0)) (hos : w'.os = w.os) (htape : w'.tape = w.tape) (hout : w'.output = w.output) :
  Sim n (upd ρ rows.length ⟨w.heap.size, s, 0, true⟩) T env (rows ++ [some ⟨s, []⟩]) a w' ∧ Step ρ T rows w (upd ρ rows.length ⟨w.heap.size, s, 0, true⟩) T (rows ++ [some ⟨s, []⟩]) w' := by
 have hnT : ¬ T w.heap.size := fun hT => Nat.lt_irrefl _ (h.tlt _ hT)
 have hmono := upd_mono (L := (⟨w.heap.size, s, 0, true⟩ : Loc)) (h.dom rows.length (Nat.le_refl _))
 have hold : ∀ b, b ≠ w.heap.size → b < w.heap.size → w'.heap[b]? = w.heap[b]? := by
  intro b hb _
  rw [hw', Array.getElem?_push, if_neg hb]
 refine h.build w.heap.size rows.length ⟨s, []⟩ ⟨w.heap.size, s, 0, true⟩ hmono hnT rfl (by simp [upd]) (by simp [hw']) hold hos htape hout ?_ (.inr (Nat.le_refl _)) ?_ ?_ (by simp) (fun r hr => by unfold upd; rw [if_neg (by omega)])
 ·refine ⟨rfl, hnT, fun _ hd => by simp at hd, fun hm => (by cases hm), fun _ => ⟨#[], 0, by simp [hw'], ⟨hp, fun e he => by simp at he, by simp, fun k v => ?_⟩⟩⟩
  simp [firstM]
 ·intro r row' hl
  rcases live_append hl with ⟨rfl, rfl⟩ | ⟨h1, h2⟩
  ·exact .inl ⟨rfl, rfl⟩
  ·refine .inr ⟨by omega, h2, fun L hL => ?_⟩
   have : ρ r = some L := by
    unfold upd at hL
    rw [if_neg (by omega)] at hL
    exact hL
   exact ⟨this, fun e => by have := (h.rowsOK.row r row' L h2 this).lt; omega⟩
 ·intro r hr
  simp at hr
  unfold upd
  rw [if_neg (by omega)]
  exact h.dom r (by omega)
theorem Sim.writeMap {n : Nat} {ρ : Pl} {T : Nat → Prop} {env : Env} {rows : Rows} {a : Act} {w w' : World} (h : Sim n ρ T env rows a w) {r : Nat} {row : Row} {L : Loc} (hl : live rows r = some row) (hL : ρ r = some L)
  (els : List D) (es : Array MapEntry) (clock : Nat) (hmp : L.mp = true) (hels : ∀ d ∈ els, HasSh row.sh d) (hR : MapRel row.sh els es)
  (hb : w'.heap[L.b]? = some (.map es clock)) (hold : ∀ b, b ≠ L.b → w'.heap[b]? = w.heap[b]?) (hsz : w'.heap.size = w.heap.size) (hos : w'.os = w.os) (htape : w'.tape = w.tape) (hout : w'.output = w.output) :
  Sim n ρ T env (rows.set r (some ⟨row.sh, els⟩)) a w' ∧ Step ρ T rows w ρ T (rows.set r (some ⟨row.sh, els⟩)) w' := by
 have hrow := h.rowsOK.row r row L hl hL
 refine h.build L.b r ⟨row.sh, els⟩ L (fun _ _ h => h) hrow.notT rfl hL (by omega) (fun b hb _ => hold b hb) hos htape hout ?_ (.inl ⟨r, row, L, hl, hL, rfl⟩) ?_ ?_ (by simp) (fun _ _ => rfl)
 ·exact ⟨hrow.sh, hrow.notT, hels, fun hm => (by rw [hmp] at hm; cases hm), fun _ => ⟨es, clock, hb, hR⟩⟩
 ·intro r' row' hl'
  rcases live_set hl' with ⟨rfl, he⟩ | ⟨h1, h2⟩
  ·cases he; exact .inl ⟨rfl, rfl⟩
  ·exact .inr ⟨h1, h2, fun L' hL' => ⟨hL', h.rowsOK.dist r' r row' row L' L h2 hl hL' hL h1⟩⟩
 ·intro r' hr'
  simp at hr'
  exact h.dom r' hr'
theorem Step.tnew0 {ρ ρ' : Pl} {T T' : Nat → Prop} {rows' : Rows} {w w' : World} (h : Step ρ T [] w ρ' T' rows' w') : ∀ b, T' b → T b ∨ w.heap.size ≤ b := by
 intro b hb
 rcases h.tnew b hb with h1 | h1 | ⟨r, row, L, h1, _⟩
 ·exact .inl h1
 ·exact .inr h1
 ·simp [live] at h1
theorem Sim.mark {n : Nat} {ρ : Pl} {T : Nat → Prop} {env : Env} {rows : Rows} {a : Act} {w w' : World} {r : Nat} {row : Row} {L : Loc} (h : Sim n ρ T env rows a w) (hl : live rows r = some row) (hL : ρ r = some L)
  (hsz : w'.heap.size = w.heap.size) (hw : ∀ b, b ≠ L.b → w'.heap[b]? = w.heap[b]?) (hfr : FrOnly w w' L.b) (hos : w'.os = w.os) (htape : w'.tape = w.tape) (hout : w'.output = w.output) :
  Sim n ρ T env rows a w' ∧ Step ρ T rows w ρ T rows w' := by
 have hr := h.rowsOK.row r row L hl hL
 have hT : ∀ b, T b → w'.heap[b]? = w.heap[b]? := fun b hb => hw b (fun e => hr.notT (e ▸ hb))
 refine ⟨⟨⟨fun r' row' L' h1 h2 => ?_, h.rowsOK.dist⟩, h.env.mono (fun _ _ h => h) hT (fun _ h => h), h.size, fun b hb => by rw [hsz]; exact h.tlt b hb, h.dom, h.defers⟩,
  ⟨fun _ _ h => h, fun _ h => h, fun _ h => .inl h, by omega, fun b hb hn => hw b (fun e => hn r row L hl hL e.symm), fun r' row' L' h1 h2 => .inl ⟨r', row', L', h1, h2, rfl⟩, hos, htape, hout, Nat.le_refl _, fun _ _ => rfl⟩⟩
 have hr' := h.rowsOK.row r' row' L' h1 h2
 refine hr'.monoQ (fun _ _ h => h) hT (fun _ h => h) ?_ hr'.notT
 by_cases e : L'.b = L.b
 ·rw [e]; exact .inr hfr
 ·exact .inl (hw _ e)
end Go.Am
namespace Go.Am
set_option linter.unusedVariables false
set_option linter.unusedSimpArgs false
theorem All2.seg {α β : Type} {R : α → β → Prop} {pre m post : List α} {cur : List β} {N : Nat} (h : All2 R (pre ++ (m ++ post)) (cur.take N)) :
  All2 R m ((cur.drop pre.length).take m.length) ∧ pre.length + m.length ≤ cur.length := by
 have hl := h.len
 simp only [List.length_append, List.length_take] at hl
 have h1 := (h.drop pre.length).take m.length
 rw [List.drop_left, List.take_left] at h1
 refine ⟨?_, by omega⟩
 have : ((cur.take N).drop pre.length).take m.length = (cur.drop pre.length).take m.length := by
  rw [List.drop_take, List.take_take, Nat.min_eq_left (by omega)]
 rwa [this] at h1
theorem addr_add (b o j : Nat) : (⟨b, o, none⟩ : Addr).add j = ⟨b, o + j, none⟩ := by
 unfold Addr.add
 split
 ·rename_i h; subst h; rfl
 ·rfl
def At (w : World) (b o : Nat) (cs : List Value) : Prop := ∀ (j : Nat) (x : Value), cs[j]? = some x → w.cell? ⟨b, o + j, none⟩ = some x
theorem At.take {w : World} {b o : Nat} {cs : List Value} (h : At w b o cs) (n : Nat) : At w b o (cs.take n) := by
 intro j x hx
 rw [List.getElem?_take] at hx
 split at hx
 ·exact h j x hx
 ·cases hx
theorem At.drop {w : World} {b o : Nat} {cs : List Value} (h : At w b o cs) (n : Nat) : At w b (o + n) (cs.drop n) := by
 intro j x hx
 rw [List.getElem?_drop] at hx
 rw [Nat.add_assoc]
 exact h _ x hx
theorem at_row {w : World} {b o n : Nat} {cur : Array Value} {t : TypeId} (hg : RowAt w b cur t) : At w b o ((cur.toList.drop o).take n) := by
 obtain ⟨fr, hg, _⟩ := hg
 intro j x hx
 rw [List.getElem?_take] at hx
 split at hx
 ·rw [List.getElem?_drop] at hx
  rw [cell_of_row w b (o + j) cur t fr hg]
  simpa using hx
 ·cases hx
variable {C : Ctx} {P : Program} {n : Nat} {ρ : Pl} {T : Nat → Prop} {env : Env} {rows : Rows} {a : Act} {w : World}
theorem RowsOK.readPtr (h : RowsOK ρ rows w T) {s : Sh} {r : Nat} {p : List Nat} {v : Value} {row : Row} {d : D} (hv : LR ρ w T (.ptr s r p) v) (hl : live rows r = some row) (hg : rowGet row.els p = some d) :
  ∃ b o cs, v = .pointer (some ⟨b, o, none⟩) ∧ HasSh s d ∧ All2 (LR ρ w T) d.flat cs ∧ At w b o cs := by
 cases hv with
 | ptr _ _ _ L hL hp =>
  have hr := h.row r row L hl hL
  obtain ⟨cur, t, h1, h2, h3, h4⟩ := hr.cells (Loc.at_mp hp)
  cases p with
  | nil => simp [Loc.at] at hp
  | cons i p =>
   rw [Loc.at_cons (Loc.at_mp hp), hr.sh] at hp
   obtain ⟨h5, h6, pre, post, h7, h8⟩ := rowGet_spec hr.els hp hg
   rw [h7] at h4
   have h9 := h4.seg
   refine ⟨L.b, L.off (i :: p), _, rfl, h5, h9.1, ?_⟩
   have he : L.off (i :: p) = pre.length := by simp [Loc.off, hr.sh, h8]
   rw [he]
   exact at_row h1
theorem lr_at {d : D} {ls : List D} {b o : Nat} {f : Nat → Value} (h1 : ∀ i d, ls[i]? = some d → w.cell? ⟨b, o + i, none⟩ = some (f i)) (h2 : ∀ i d, ls[i]? = some d → LR ρ w T d (f i)) :
  All2 (LR ρ w T) ls ((List.range ls.length).map f) ∧ At w b o ((List.range ls.length).map f) := by
 refine ⟨⟨by simp, fun i x y hx hy => ?_⟩, fun j x hx => ?_⟩
 ·simp only [List.getElem?_map] at hy
  rw [List.getElem?_range (lt_of_get hx)] at hy
  simp at hy
  subst hy
  exact h2 i x hx
 ·have hj := lt_of_get hx
  simp at hj
  simp only [List.getElem?_map, List.getElem?_range hj] at hx
  simp at hx
  subst hx
  exact h1 j _ (List.getElem?_eq_getElem hj)
theorem LR.readCptr {d : D} {v : Value} (hv : LR ρ w T (.cptr d) v) : ∃ b o cs s, v = .pointer (some ⟨b, o, none⟩) ∧ HasSh s d ∧ T b ∧ All2 (LR ρ w T) d.flat cs ∧ At w b o cs := by
 cases hv with
 | cptr s d b o f h1 hb h2 h3 => exact ⟨b, o, _, s, rfl, h1, hb, (lr_at (d := d) h2 h3).1, (lr_at (d := d) h2 h3).2⟩
theorem LR.mkCptr {d : D} {b o : Nat} {cs : List Value} {s : Sh} (h1 : HasSh s d) (hb : T b) (h2 : All2 (LR ρ w T) d.flat cs) (h3 : At w b o cs) : LR ρ w T (.cptr d) (.pointer (some ⟨b, o, none⟩)) := by
 refine .cptr s d b o (fun i => cs.getD i undef) h1 hb (fun i x hx => ?_) (fun i x hx => ?_)
 ·obtain ⟨y, hy, _⟩ := h2.some hx
  rw [h3 i y hy]
  simp [List.getD, hy]
 ·obtain ⟨y, hy, hr⟩ := h2.some hx
  simpa [List.getD, hy] using hr
theorem LR.mkLst {l : List D} {b o cap : Nat} {cs : List Value} {s : Sh} {ex : Bool} (h1 : ∀ d ∈ l, HasSh s d) (hb : T b) (h2 : All2 (LR ρ w T) (flatL l) cs) (h3 : At w b o cs)
  (h4 : l.length ≤ cap) (h5 : ex = true → cap = l.length) : LR ρ w T (.lst s l ex) (.slice (some ⟨b, o, none⟩) l.length cap) := by
 refine .lst s l ex b o cap (fun i => cs.getD i undef) h1 hb (fun i x hx => ?_) (fun i x hx => ?_) h4 h5
 ·obtain ⟨y, hy, _⟩ := h2.some hx
  rw [h3 i y hy]
  simp [List.getD, hy]
 ·obtain ⟨y, hy, hr⟩ := h2.some hx
  simpa [List.getD, hy] using hr
def Blk (ρ : Pl) (T : Nat → Prop) (rows : Rows) (b : Nat) : Prop := T b ∨ ∃ r row L, live rows r = some row ∧ ρ r = some L ∧ L.b = b
structure Holds (rows : Rows) (ρ : Pl) (w : World) (T : Nat → Prop) (s : Sh) (l : List D) (v : Value) (k : Nat) (ad : Option Addr) (cap : Nat) (cs : List Value) : Prop where
 hv : v = .slice ad k cap
 els : ∀ d ∈ l, HasSh s d
 len : l.length = k
 hcap : k ≤ cap
 hcs : All2 (LR ρ w T) (flatL l) cs
 at_ : ∀ (j : Nat) (x : Value), cs[j]? = some x → ∃ b o, ad = some ⟨b, o, none⟩ ∧ w.cell? ⟨b, o + j, none⟩ = some x
 nil : ad = none → cap = 0
 adr : k ≠ 0 → ∃ b o, ad = some ⟨b, o, none⟩ ∧ Blk ρ T rows b
theorem flatL_part {s : Sh} {l : List D} {off len : Nat} (h : ∀ d ∈ l, HasSh s d) (hl : off + len ≤ l.length) :
  ∃ pre post, flatL l = pre ++ (flatL ((l.drop off).take len) ++ post) ∧ pre.length = off * s.size := by
 refine ⟨flatL (l.take off), flatL ((l.drop off).drop len), ?_, ?_⟩
 ·rw [← flatL_append, List.take_append_drop, ← flatL_append, List.take_append_drop]
 ·rw [flatL_len_all (fun d hd => h d (List.mem_of_mem_take hd)), List.length_take, Nat.min_eq_left (by omega)]
theorem RowsOK.holds (h : RowsOK ρ rows w T) {s : Sh} {d : D} {v : Value} {l : List D} {k : Nat} (hv : LR ρ w T d v) (he : elems rows d = some l) (hk : slen d = some k) (hlk : l.length = k) (hs : sshape s d = true) :
  ∃ ad cap cs, Holds rows ρ w T s l v k ad cap cs := by
 cases hv with
 | raw v hv =>
  cases v with
  | slice a len cap =>
   cases a <;> cases len <;> cases cap <;> simp [elems, slen] at he hk
   subst he; subst hk
   exact ⟨none, 0, [], rfl, by simp, rfl, Nat.le_refl _, by simpa [flatL] using All2.nil, by simp, fun _ => rfl, by simp⟩
  | _ => simp [elems] at he
 | ptr _ _ _ _ _ _ => simp [elems] at he
 | cptr _ _ _ _ _ _ _ _ _ => simp [elems] at he
 | aptr _ _ _ _ _ _ _ _ => simp [elems] at he
 | mp => simp [elems] at he
 | om => simp [elems] at he
 | slz t r p off ex ad =>
  simp [slen] at hk
  subst hk
  have hnil : l = [] := List.eq_nil_of_length_eq_zero hlk
  subst hnil
  exact ⟨ad, 0, [], rfl, by simp, rfl, Nat.le_refl _, by simpa [flatL] using All2.nil, by simp, fun _ => rfl, by simp⟩
 | lst0 t ex ad cap h1 h2 =>
  simp [elems, slen] at he hk
  subst he; subst hk
  exact ⟨ad, cap, [], rfl, by simp, rfl, by omega, by simpa [flatL] using All2.nil, by simp, h2, by simp⟩
 | lst t l' ex b o cap f h1 hb h2 h3 h4 h5 =>
  simp [elems, slen] at he hk
  subst he; subst hk
  simp [sshape] at hs
  subst hs
  obtain ⟨h6, h7⟩ := lr_at (d := default) h2 h3
  exact ⟨some ⟨b, o, none⟩, cap, _, rfl, h1, rfl, h4, h6, fun j x hx => ⟨b, o, rfl, h7 j x hx⟩, by simp, fun _ => ⟨b, o, rfl, .inl hb⟩⟩
 | sl t r p off len ex L cap hL h1 h2 h3 =>
  simp [slen] at hk
  subst hk
  simp [sshape] at hs
  subst hs
  cases p with
  | nil =>
   simp only [elems] at he
   cases hl : live rows r with
   | none => simp [hl] at he
   | some row =>
    simp [hl] at he
    subst he
    have hr := h.row r row L hl hL
    obtain ⟨cur, t', g1, g2, g3, g4⟩ := hr.cells (LR.slCell h3)
    have hsh : s = row.sh := by
     rcases h3 with ⟨_, h3, _⟩ | ⟨n, h3, _⟩
     ·rw [h3, hr.sh]
     ·simp [Loc.at] at h3
    subst hsh
    have hels : ∀ d ∈ (row.els.drop off).take len, HasSh row.sh d := fun d hd => hr.els d (List.mem_of_mem_drop (List.mem_of_mem_take hd))
    by_cases hz : len = 0
    ·subst hz
     exact ⟨_, cap, [], rfl, hels, hlk, h1, by simpa [flatL] using All2.nil, by simp, by simp, by simp⟩
    ·simp only [List.length_take, List.length_drop] at hlk
     obtain ⟨pre, post, g5, g6⟩ := flatL_part (off := off) (len := len) hr.els (by omega)
     rw [g5] at g4
     have g7 := g4.seg
     refine ⟨_, cap, _, rfl, hels, by simp; omega, h1, g7.1, fun j x hx => ⟨L.b, _, rfl, ?_⟩, by simp, fun _ => ⟨L.b, _, rfl, .inr ⟨r, row, L, hl, hL, rfl⟩⟩⟩
     have := at_row (o := pre.length) (n := (flatL ((row.els.drop off).take len)).length) g1 j x hx
     simpa [Loc.off, g6] using this
  | cons i p =>
   simp only [elems] at he
   cases hl : live rows r with
   | none => simp [hl] at he
   | some row =>
    simp only [hl] at he
    have hr := h.row r row L hl hL
    obtain ⟨cur, t', g1, g2, g3, g4⟩ := hr.cells (LR.slCell h3)
    rcases h3 with ⟨h3, _⟩ | ⟨m, h3, h4⟩
    ·simp at h3
    ·rw [Loc.at_cons (Loc.at_mp h3), hr.sh] at h3
     cases hg : rowGet row.els (i :: p) with
     | none => simp [hg] at he
     | some d =>
      obtain ⟨g5, g6, pre, post, g7, g8⟩ := rowGet_spec hr.els h3 hg
      obtain ⟨l', rfl, hl', hsub⟩ := g5.aggOf rfl
      simp [hg] at he
      subst he
      have hall : ∀ d ∈ l', HasSh s d := by
       intro d hd
       obtain ⟨q, hq, rfl⟩ := List.mem_iff_getElem.1 hd
       exact hsub q s _ (by simp [Sh.sub]; simp [Sh.count] at hl'; omega) (List.getElem?_eq_getElem hq)
      have hels : ∀ d ∈ (l'.drop off).take len, HasSh s d := fun d hd => hall d (List.mem_of_mem_drop (List.mem_of_mem_take hd))
      by_cases hz : len = 0
      ·subst hz
       exact ⟨_, cap, [], rfl, hels, hlk, h1, by simpa [flatL] using All2.nil, by simp, by simp, by simp⟩
      ·simp only [List.length_take, List.length_drop] at hlk
       obtain ⟨pre2, post2, g9, g10⟩ := flatL_part (off := off) (len := len) hall (by omega)
       simp only [D.flat] at g7
       rw [g7, g9] at g4
       have e : pre ++ (pre2 ++ (flatL ((l'.drop off).take len) ++ post2) ++ post) = (pre ++ pre2) ++ (flatL ((l'.drop off).take len) ++ (post2 ++ post)) := by simp
       rw [e] at g4
       have g11 := g4.seg
       refine ⟨_, cap, _, rfl, hels, by simp; omega, h1, g11.1, fun j x hx => ⟨L.b, _, rfl, ?_⟩, by simp, fun _ => ⟨L.b, _, rfl, .inr ⟨r, row, L, hl, hL, rfl⟩⟩⟩
       have := at_row (o := (pre ++ pre2).length) (n := (flatL ((l'.drop off).take len)).length) g1 j x hx
       simpa [Loc.off, hr.sh, g8, g10] using this
theorem Holds.first {s : Sh} {l : List D} {v : Value} {k cap : Nat} {ad : Option Addr} {cs : List Value} (h : Holds rows ρ w T s l v k ad cap cs) {w' : World} (hw : w'.heap = w.heap) (m : Nat) (hm : m ≤ k) :
  (Builtin.firstCells s.size m v).run P w' = .ok (cs.take (m * s.size)).toArray w' := by
 have hl : cs.length = k * s.size := by rw [← h.hcs.len, flatL_len_all h.els, h.len]
 have hlt : (cs.take (m * s.size)).length = m * s.size := by
  rw [List.length_take, hl]
  exact Nat.min_eq_left (Nat.mul_le_mul_right _ hm)
 have hcell : ∀ ad, w'.cell? ad = w.cell? ad := fun ad => World.cell?_of_block (by rw [hw])
 rw [h.hv]
 cases had : ad with
 | none =>
  have hk := h.nil had
  have hc0 := h.hcap
  have hm0 : m = 0 := by omega
  subst hm0
  simp [Builtin.firstCells]
 | some x =>
  refine run_firstCells_some (P := P) w' s.size m x k cap _ hlt fun j u hu => ?_
  rw [List.getElem?_take] at hu
  split at hu
  ·obtain ⟨b, o, h1, h2⟩ := h.at_ j u hu
   rw [had] at h1
   cases h1
   rw [addr_add, hcell]
   exact h2
  ·cases hu
theorem Holds.csLen {s : Sh} {l : List D} {v : Value} {k cap : Nat} {ad : Option Addr} {cs : List Value} (h : Holds rows ρ w T s l v k ad cap cs) : cs.length = k * s.size := by
 rw [← h.hcs.len, flatL_len_all h.els, h.len]
theorem run_storeCells_row (P : Program) (g o : Nat) (t : TypeId) : ∀ (vs : List Value) (i : Nat) (cur : Array Value) (w : World), RowAt w g cur t → o + i + vs.length ≤ cur.size → (∀ v ∈ vs, v.oneCell' = true) →
  (storeCells ⟨g, o, none⟩ vs i).run P w = .ok () (w.setRow g (cur.toList.take (o + i) ++ vs ++ cur.toList.drop (o + i + vs.length)).toArray)
 | [], i, cur, w, hg, _, _ => by
  obtain ⟨fr, hg, _⟩ := hg
  simp only [storeCells, List.append_nil, List.length_nil, Nat.add_zero, List.take_append_drop, Array.toArray_toList]
  rw [setRow_self w g cur t fr hg]
  rfl
 | v :: rest, i, cur, w, hg, hl, h1 => by
  have hi : o + i < cur.size := by simp at hl; omega
  obtain ⟨fr, hg0, hfr⟩ := hg
  have hadd : (⟨g, o, none⟩ : Addr).add i = ⟨g, o + i, none⟩ := by unfold Addr.add; split <;> simp_all
  have hcell : w.cell? ⟨g, o + i, none⟩ = some cur[o + i] := by simp [World.cell?, hg0, hi]
  have hfro : w.frozen? ⟨g, o + i, none⟩ = false := hfr.not hg0 hi
  have hst : (store ((⟨g, o, none⟩ : Addr).add i) v).run P w = .ok () (w.setRow g (cur.setIfInBounds (o + i) v)) := by
   rw [hadd, run_store P w _ v _ (h1 v (by simp)), hcell]
   simp [hfro, setCell_eq_setRow w g (o + i) cur t fr v hg0]
  have ih := run_storeCells_row P g o t rest (i + 1) (cur.setIfInBounds (o + i) v) (w.setRow g (cur.setIfInBounds (o + i) v)) (RowAt.setRow ⟨fr, hg0, hfr⟩ (by simp)) (by simp at hl ⊢; omega) (fun x hx => h1 x (by simp [hx]))
  simp only [storeCells, Sem.run_bind, hst, Result.andThen_ok, ih, setRow_setRow]
  congr 3
  have e := list_seg_step cur.toList (o + i) v rest (by simp at hl ⊢; omega)
  simpa [Array.toList_setIfInBounds, Nat.add_assoc] using e
end Go.Am
namespace Go.Am
set_option linter.unusedVariables false
set_option linter.unusedSimpArgs false
theorem bnd_some {α : Type} {x : Option α} {k : α → Prop} (h : bnd x k) : ∃ a, x = some a ∧ k a := by
 cases x with
 | none => exact h.elim
 | some a => exact ⟨a, rfl, h⟩
theorem o2_some {α β : Type} {x : Option α} {f : α → Option β} {y : β} (h : o2 x f = some y) : ∃ a, x = some a ∧ f a = some y := by
 cases x with
 | none => simp [o2] at h
 | some a => exact ⟨a, rfl, h⟩
theorem ifo_some {α : Type} {b : Bool} {x : Option α} {y : α} (h : ifo b x = some y) : b = true ∧ x = some y := by
 cases b with
 | false => simp [ifo] at h
 | true => exact ⟨rfl, h⟩
variable {C : Ctx} {P : Program} {n : Nat} {ρ : Pl} {T : Nat → Prop} {env : Env} {rows : Rows} {a : Act} {w : World}
def Glob (C : Ctx) (ρ : Pl) (w : World) (T : Nat → Prop) : Prop := ∀ g d, C.glob g = some d → LR ρ w T (.cptr d) (.pointer (some ⟨g, 0, none⟩))
def Runs (P : Program) (o : Oper) (a : Act) (w : World) (v : Value) (w' : World) : Prop :=
 (execOp a.eval o).run P w = .ok (.value v) w' ∨ ((execOp a.eval o).run P w = .ok .skip w' ∧ v = undef)
def OpGoal (P : Program) (n : Nat) (o : Oper) (ρ : Pl) (T : Nat → Prop) (env : Env) (rows : Rows) (a : Act) (w : World) (k : D → Rows → Prop) : Prop :=
 ∃ d rows' ρ' T' v w', k d rows' ∧ Sim n ρ' T' env rows' a w' ∧ Step ρ T rows w ρ' T' rows' w' ∧ VR ρ' w' T' d v ∧ Runs P o a w v w' ∧ (quietOp o.op = true → QH ρ rows w w' ∧ ∀ b, T' b → T b ∨ w.heap.size ≤ b)
theorem OpGoal.here {o : Oper} {k : D → Rows → Prop} (hs : Sim n ρ T env rows a w) {d : D} {v : Value} (hk : k d rows) (hv : VR ρ w T d v) (hr : (execOp a.eval o).run P w = .ok (.value v) w) :
  OpGoal P n o ρ T env rows a w k := ⟨d, rows, ρ, T, v, w, hk, hs, Step.refl _ _ _ _, hv, .inl hr, fun _ => ⟨fun _ _ => .inl rfl, fun _ h => .inl h⟩⟩
theorem ev_sound {x : Operand} {y : X} {d : D} (hc : cX x = some y) (he : ev C env y = some d) (hs : Sim n ρ T env rows a w) (hG : Glob C ρ w T) : VR ρ w T d (a.eval x) := by
 cases x with
 | tmp t =>
  simp [cX] at hc
  subst hc
  exact hs.env t d he
 | const v =>
  simp only [cX] at hc
  cases hv : v.oneCell' with
  | false => simp [hv] at hc
  | true =>
   simp [hv] at hc
   subst hc
   simp [ev] at he
   subst he
   exact VR.raw hv
 | global g =>
  simp [cX] at hc
  subst hc
  simp only [ev] at he
  cases hg : C.glob g with
  | none => simp [hg] at he
  | some d' =>
   simp [hg] at he
   subst he
   exact VR.ofLeaf (hG g d' hg)
 | func f =>
  simp [cX] at hc
  subst hc
  simp [ev] at he
  subst he
  exact VR.raw rfl
theorem ev_raw {x : Operand} {y : X} {v : Value} (hc : cX x = some y) (he : ev C env y = some (.raw v)) (hs : Sim n ρ T env rows a w) (hG : Glob C ρ w T) : a.eval x = v :=
 VR.ofRaw (ev_sound hc he hs hG)
theorem int_beq (x y : Int) : (x == y) = decide (x = y) := rfl
theorem run_equal_bool {t : TypeId} (ht : P.underlying t = some .bool) (x y : Bool) (w : World) : (Op.equal t (.bool x) (.bool y)).run P w = .ok (x == y) w := by
 have e : Op.maxDepth = 9999 + 1 := rfl
 rw [Op.equal, e, Op.equalIn]
 simp only [Sem.run_bind, run_underlying ht, Result.andThen_ok, Sem.run_pure]
section ops
variable (hs : Sim n ρ T env rows a w) (hG : Glob C ρ w T) {o : Oper} {k : D → Rows → Prop}
include hs hG
theorem op_mv {x : Operand} {y : X} (ho : o.op = .move x ∨ o.op = .assign x) (hc : cX x = some y) (h : aop C env rows (.mv y) k) : OpGoal P n o ρ T env rows a w k := by
 obtain ⟨d, he, hk⟩ := bnd_some h
 refine .here hs hk (ev_sound hc he hs hG) ?_
 rcases ho with ho | ho <;> simp [execOp, ho]
theorem op_pick {c x y : Operand} {c' x' y' : X} (ho : o.op = .pick c x y) (h1 : cX c = some c') (h2 : cX x = some x') (h3 : cX y = some y') (h : aop C env rows (.pick c' x' y') k) : OpGoal P n o ρ T env rows a w k := by
 obtain ⟨d, he, hk⟩ := bnd_some h
 split at hk
 ·rename_i t
  have hct := ev_raw h1 he hs hG
  obtain ⟨d, he, hk2⟩ := bnd_some hk
  cases t with
  | true =>
   simp at he
   refine .here hs hk2 (ev_sound h2 he hs hG) ?_
   simp [execOp, ho, hct, asBool]
  | false =>
   simp at he
   refine .here hs hk2 (ev_sound h3 he hs hG) ?_
   simp [execOp, ho, hct, asBool]
 ·exact hk.elim
theorem op_bin {op : BinOp} {t u : TypeId} {x y : Operand} {x' y' : X} (ho : o.op = .binOp op t x y u) (h1 : cX x = some x') (h2 : cX y = some y') (h : aop C env rows (.bin op x' y') k) : OpGoal P n o ρ T env rows a w k := by
  obtain ⟨d, he, hk⟩ := bnd_some h
  split at hk
  · rename_i av
    obtain ⟨d2, he2, hk⟩ := bnd_some hk
    split at hk
    · rename_i bv
      have hx := ev_raw h1 he hs hG
      have hy := ev_raw h2 he2 hs hG
      unfold aBin at hk
      split at hk
      all_goals first
        | exact hk.elim
        | (refine .here hs hk (VR.raw rfl) ?_
           simp [execOp, ho, hx, hy, eqGuard, binOp, Op.stringOp]
           done)
        | (obtain ⟨g1, hk⟩ := hk
           refine .here hs hk (VR.raw rfl) ?_
           subst g1
           simp [execOp, ho, hx, hy, eqGuard, binOp, Op.intArith, Op.intBits, Op.intCmp, bne, int_beq]
           done)
        | (obtain ⟨g1, hk⟩ := hk
           refine .here hs hk (VR.raw rfl) ?_
           simp [execOp, ho, hx, hy, eqGuard, binOp, Op.shift, Int.not_lt.2 g1]
           done)
        | (obtain ⟨g1, g2, hk⟩ := hk
           refine .here hs hk (VR.raw rfl) ?_
           subst g1
           simp [execOp, ho, hx, hy, eqGuard, binOp, Op.intDiv, g2]
           done)
        | (obtain ⟨g1, hk⟩ := hk
           refine .here hs hk (VR.raw rfl) ?_
           have e : IntKind.i64.max = 9223372036854775807 := by decide
           simp only [execOp, ho, hx, hy, eqGuard, binOp, Op.stringOp]
           simp
           omega)
    · exact hk.elim
  · exact hk.elim
theorem op_beq {neg : Bool} {op : BinOp} {t u : TypeId} {x y : Operand} {x' y' : X} (ho : o.op = .binOp op t x y u) (hop : op = bif neg then .neq else .eql) (ht : P.underlying t = some .bool) (h1 : cX x = some x') (h2 : cX y = some y')
  (h : aop C env rows (.beq neg x' y') k) : OpGoal P n o ρ T env rows a w k := by
 obtain ⟨d, he, hk⟩ := bnd_some h
 split at hk
 ·obtain ⟨d2, he2, hk⟩ := bnd_some hk
  split at hk
  ·have hx := ev_raw h1 he hs hG
   have hy := ev_raw h2 he2 hs hG
   refine .here hs hk (VR.raw rfl) ?_
   cases neg <;> simp at hop <;> subst hop <;> simp only [execOp, ho, hx, hy, binOp] <;> simp [eqGuard, run_equal_bool ht]
  ·exact hk.elim
 ·exact hk.elim
theorem op_un {op : UnOp} {t : TypeId} {x : Operand} {x' : X} (ho : o.op = .unOp op t x) (h1 : cX x = some x') (h : aop C env rows (.un op x') k) : OpGoal P n o ρ T env rows a w k := by
  obtain ⟨d, he, hk⟩ := bnd_some h
  split at hk
  · have hx := ev_raw h1 he hs hG
    unfold aUn at hk
    split at hk
    all_goals first
      | exact hk.elim
      | (refine .here hs hk (VR.raw rfl) ?_
         simp [execOp, ho, hx, Op.unary, Op.intArith, Op.intBits])
  · exact hk.elim
theorem op_conv {s t : TypeId} {x : Operand} {x' : X} {j kd : IntKind} (ho : o.op = .convert s t x) (hsrc : P.underlying s = some (.int j)) (ht : P.underlying t = some (.int kd)) (h1 : cX x = some x')
  (h : aop C env rows (.conv kd x') k) : OpGoal P n o ρ T env rows a w k := by
 obtain ⟨d, he, hk⟩ := bnd_some h
 split at hk
 ·have hx := ev_raw h1 he hs hG
  refine .here hs hk (VR.raw rfl) ?_
  simp [execOp, ho, hx, convert, run_underlying hsrc, run_underlying ht, Conv.intToInt]
 ·exact hk.elim
theorem op_convS {s t : TypeId} {x : Operand} {x' : X} (ho : o.op = .convert s t x) (hsrc : P.underlying s = some .string) (ht : P.underlying t = some .string) (h1 : cX x = some x')
  (h : aop C env rows (.convs x') k) : OpGoal P n o ρ T env rows a w k := by
 obtain ⟨d, he, hk⟩ := bnd_some h
 split at hk
 ·have hx := ev_raw h1 he hs hG
  refine .here hs hk (VR.raw rfl) ?_
  simp [execOp, ho, hx, convert, run_underlying hsrc, run_underlying ht]
 ·exact hk.elim
theorem op_nilc {x : Operand} {x' : X} (ho : o.op = .nilCheck x) (h1 : cX x = some x') (h : aop C env rows (.nilc x') k) : OpGoal P n o ρ T env rows a w k := by
 obtain ⟨d, he, hk⟩ := bnd_some h
 have hv := ev_sound h1 he hs hG
 split at hk
 ·have hv' := hv
  have hl : LR ρ w T _ _ := hv
  generalize hx : a.eval x = v at hl hv'
  cases hl with
  | ptr _ _ _ L hL hp =>
   refine .here hs hk hv' ?_
   simp [execOp, ho, hx]
 ·have hv' := hv
  obtain ⟨b, o', cs, s, hx, _⟩ := LR.readCptr (show LR ρ w T _ _ from hv)
  refine .here hs hk hv' ?_
  simp [execOp, ho, hx]
 ·exact hk.elim
theorem op_ext {x : Operand} {x' : X} {i : Nat} (ho : o.op = .extract x i) (h1 : cX x = some x') (h : aop C env rows (.ext x' i) k) : OpGoal P n o ρ T env rows a w k := by
 obtain ⟨d, he, hk⟩ := bnd_some h
 have hv := ev_sound h1 he hs hG
 split at hk
 ·obtain ⟨vs, hx, hall⟩ := hv
  obtain ⟨y, hy, hk⟩ := bnd_some hk
  obtain ⟨u, hu, hyu⟩ := hall.some hy
  have hu' : vs[i]? = some u := by simpa using hu
  refine .here hs hk (VR.ofVR1 hyu) ?_
  simp [execOp, ho, hx, Instr.extract, hu']
 ·exact hk.elim
end ops
end Go.Am
