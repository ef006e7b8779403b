/- The bridge: types without a program; what a law's arguments are. -/
import Derived.Test.YtloclegkilgglaaAm28
namespace Go.Am
open Go.ChangeShapes Go.WideShapes Go.ChangeAt Go.RowKit
set_option linter.unusedVariables false
set_option linter.unusedSimpArgs false

mutual
/-- a type whose values are data -/
inductive TK where
  | bool
  | int (k : IntKind)
  | str
  | struct (l : TKs)
  | arr (n : Nat) (t : TK)
  | slice (t : TK)
inductive TKs where
  | nil
  | cons (a : TK) (l : TKs)
end
mutual
def TK.sh : TK → Sh
  | .bool => .leaf .bool
  | .int k => .leaf (.int k)
  | .str => .leaf .str
  | .struct l => l.sh
  | .arr n t => .ar n t.sh
  | .slice _ => .ref
def TKs.sh : TKs → Sh
  | .nil => .nil
  | .cons a l => .cons a.sh l.sh
end
def flK (f : TypeId → Option TK) : List TypeId → Option TKs
  | [] => some .nil
  | x :: l => match f x with
    | some a => match flK f l with
      | some b => some (.cons a b)
      | none => none
    | none => none
def tyK (P : Program) : Nat → TypeId → Option TK
  | 0, _ => none
  | n + 1, t => match P.underlying t with
    | some .bool => some .bool
    | some (.int k) => some (.int k)
    | some .string => some .str
    | some (.struct fs) => match flK (tyK P n) (fs.toList.map (·.type)) with
      | some l => some (.struct l)
      | none => none
    | some (.array m e) => match tyK P n e with
      | some a => some (.arr m a)
      | none => none
    | some (.slice e) => match tyK P n e with
      | some a => some (.slice a)
      | none => none
    | _ => none
mutual
/-- data of a type -/
def DK : TK → D → Prop
  | .bool, d => ∃ b, d = .raw (.bool b)
  | .int .u8, d => ∃ x : BitVec 8, d = .raw (u8 x)
  | .int .u16, d => ∃ x : BitVec 16, d = .raw (u16 x)
  | .int .u32, d => ∃ x : BitVec 32, d = .raw (u32 x)
  | .int .u64, d => ∃ x : BitVec 64, d = .raw (u64 x)
  | .int .i64, d => ∃ n : Int, (-9223372036854775808 ≤ n ∧ n < 9223372036854775808) ∧ d = .raw (it n)
  | .int k, d => ∃ n : Int, d = .raw (.int k n) ∧ (Lit.int k n).wf = true
  | .str, d => ∃ b, d = .raw (.string b) ∧ b.size ≤ maxLen
  | .struct l, d => ∃ ds, d = .agg l.sh ds ∧ DKs l ds
  | .arr n t, d => ∃ l, d = .agg (.ar n t.sh) l ∧ l.length = n ∧ ∀ x ∈ l, DK t x
  | .slice t, d => d = .raw (.slice none 0 0) ∨ ∃ l, d = .lst t.sh l false ∧ l.length ≤ maxLen ∧ ∀ x ∈ l, DK t x
def DKs : TKs → List D → Prop
  | .nil, [] => True
  | .cons a l, d :: ds => DK a d ∧ DKs l ds
  | _, _ => False
end

variable {P : Program}
theorem fl_sh {n : Nat} (ih : ∀ (t : TypeId) (k : TK) (s : Sh), tyK P n t = some k → tyX P n t = some s → s = k.sh) : ∀ (fs : List Field) (off : Nat) (l : TKs) (s : Sh),
    flK (tyK P n) (fs.map (·.type)) = some l → flX P (tyX P n) off fs = some s → s = l.sh
  | [], off, l, s, h1, h2 => by
    simp [flK] at h1; simp [flX] at h2
    subst h1; subst h2; rfl
  | f :: fs, off, l, s, h1, h2 => by
    simp only [List.map_cons, flK] at h1
    simp only [flX] at h2
    split at h1
    · rename_i a ha
      split at h1
      · rename_i b hb
        cases h1
        split at h2
        · rename_i s1 hs1
          cases hq : (f.offset == off && P.cellsOf f.type == s1.size) with
          | false => rw [hq] at h2; cases h2
          | true =>
            rw [hq] at h2
            simp only [cond_true] at h2
            split at h2
            · rename_i s2 hs2
              cases h2
              rw [ih _ _ _ ha hs1, fl_sh ih fs _ _ _ hb hs2]
              rfl
            · cases h2
        · cases h2
      · cases h1
    · cases h1
theorem ty_sh : ∀ (n : Nat) (t : TypeId) (k : TK) (s : Sh), tyK P n t = some k → tyX P n t = some s → s = k.sh
  | 0, t, k, s, h1, h2 => by simp [tyK] at h1
  | n + 1, t, k, s, h1, h2 => by
    have ih := ty_sh n
    simp only [tyK] at h1
    simp only [tyX] at h2
    cases hu : P.underlying t with
    | none => simp [hu] at h1
    | some u =>
      simp only [hu] at h1 h2
      cases u with
      | bool => cases h1; cases h2; rfl
      | int => cases h1; cases h2; rfl
      | string => cases h1; cases h2; rfl
      | struct fs =>
        simp only at h1 h2
        split at h1
        · rename_i l hl
          cases h1
          split at h2
          · rename_i s' hs'
            cases hq : (P.cellsOf t == s'.size) with
            | false => rw [hq] at h2; cases h2
            | true =>
              rw [hq] at h2
              cases h2
              exact fl_sh ih _ _ _ _ hl hs'
          · cases h2
        · cases h1
      | array m e =>
        simp only at h1 h2
        split at h1
        · rename_i a ha
          cases h1
          split at h2
          · rename_i s' hs'
            cases hq : (P.cellsOf e == s'.size && P.cellsOf t == m * s'.size) with
            | false => rw [hq] at h2; cases h2
            | true =>
              rw [hq] at h2
              cases h2
              rw [ih _ _ _ ha hs']
              rfl
          · cases h2
        · cases h1
      | slice e =>
        simp only at h1 h2
        split at h1
        · rename_i a ha
          cases h1
          split at h2
          · rename_i s' hs'
            cases hq : (P.cellsOf e == s'.size && Nat.blt 0 s'.size) with
            | false => rw [hq] at h2; cases h2
            | true => rw [hq] at h2; cases h2; rfl
          · cases h2
        · cases h1
      | _ => cases h1

theorem wf_bv {w : Nat} {m : Int} (h : 0 ≤ m ∧ m < 2 ^ w) : m = ((BitVec.ofInt w m).toNat : Int) := by
  rw [BitVec.toNat_ofInt]
  rw [Int.emod_eq_of_lt h.1 (by simpa using h.2)]
  omega
theorem dof_int {k : IntKind} {m : Int} (h : (Lit.int k m).wf = true) : DK (.int k) (.raw (.int k m)) := by
  have hw := h
  cases k <;> simp only [Lit.wf, Bool.and_eq_true, decide_eq_true_eq, IntKind.min, IntKind.max, IntKind.signed, IntKind.bits, DK] at h ⊢
  · exact ⟨m, rfl, h⟩
  · exact ⟨m, rfl, h⟩
  · exact ⟨m, rfl, h⟩
  · exact ⟨m, by simp at h; omega, rfl⟩
  · exact ⟨BitVec.ofInt 8 m, by unfold u8; rw [← wf_bv]; simp at h; omega⟩
  · exact ⟨BitVec.ofInt 16 m, by unfold u16; rw [← wf_bv]; simp at h; omega⟩
  · exact ⟨BitVec.ofInt 32 m, by unfold u32; rw [← wf_bv]; simp at h; omega⟩
  · exact ⟨BitVec.ofInt 64 m, by unfold u64; rw [← wf_bv]; simp at h; omega⟩
theorem fl_dk {n : Nat} (ih : ∀ (t : TypeId) (k : TK) (d : D), tyK P n t = some k → DOf P n t d → DK k d) : ∀ (fs : List Field) (l : TKs) (ds : List D),
    flK (tyK P n) (fs.map (·.type)) = some l → All2 (fun (f : Field) x => DOf P n f.type x) fs ds → DKs l ds
  | [], l, ds, h1, h2 => by
    simp [flK] at h1
    have : ds = [] := List.eq_nil_of_length_eq_zero (by simpa using h2.len.symm)
    subst h1; subst this; trivial
  | f :: fs, l, ds, h1, h2 => by
    simp only [List.map_cons, flK] at h1
    split at h1
    · rename_i a ha
      split at h1
      · rename_i b hb
        cases h1
        match ds, h2.len with
        | d :: ds, _ => exact ⟨ih _ _ _ ha h2.head, fl_dk ih fs _ _ hb h2.tail⟩
      · cases h1
    · cases h1
theorem dof_dk : ∀ (n : Nat) (t : TypeId) (k : TK) (d : D), tyK P n t = some k → DOf P n t d → DK k d
  | 0, t, k, d, h1, h2 => by simp [tyK] at h1
  | n + 1, t, k, d, h1, h2 => by
    have ih := dof_dk n
    simp only [tyK] at h1
    simp only [DOf] at h2
    cases hu : P.underlying t with
    | none => simp [hu] at h1
    | some u =>
      simp only [hu] at h1 h2
      cases u with
      | bool => cases h1; exact h2
      | int k => cases h1; obtain ⟨m, rfl, hw⟩ := h2; exact dof_int hw
      | string => cases h1; exact h2
      | struct fs =>
        simp only at h1 h2
        split at h1
        · rename_i l hl
          cases h1
          obtain ⟨s, ds, g1, rfl, g2⟩ := h2
          have := fl_sh (ty_sh n) _ _ _ _ hl g1
          subst this
          exact ⟨ds, rfl, fl_dk ih _ _ _ hl g2⟩
        · cases h1
      | array m e =>
        simp only at h1 h2
        split at h1
        · rename_i a ha
          cases h1
          obtain ⟨s, l, g1, rfl, g2, g3⟩ := h2
          have := ty_sh n _ _ _ ha g1
          subst this
          exact ⟨l, rfl, g2, fun x hx => ih _ _ _ ha (g3 x hx)⟩
        · cases h1
      | slice e =>
        simp only at h1 h2
        split at h1
        · rename_i a ha
          cases h1
          rcases h2 with rfl | ⟨s, l, g1, rfl, g2, g3⟩
          · exact .inl rfl
          · have := ty_sh n _ _ _ ha g1
            subst this
            exact .inr ⟨l, rfl, g2, fun x hx => ih _ _ _ ha (g3 x hx)⟩
        · cases h1
      | _ => cases h1
theorem dofs_dks {n : Nat} : ∀ {ts : List TypeId} {ks : TKs} {dd : List D}, flK (tyK P n) ts = some ks → All2 (fun t d => DOf P n t d) ts dd → DKs ks dd
  | [], ks, dd, h1, h2 => by
    simp [flK] at h1
    have : dd = [] := List.eq_nil_of_length_eq_zero (by simpa using h2.len.symm)
    subst h1; subst this; trivial
  | t :: ts, ks, dd, h1, h2 => by
    simp only [flK] at h1
    split at h1
    · rename_i a ha
      split at h1
      · rename_i b hb
        cases h1
        match dd, h2.len with
        | d :: ds, _ => exact ⟨dof_dk _ _ _ _ ha h2.head, dofs_dks hb h2.tail⟩
      · cases h1
    · cases h1

/-- bytes -/
theorem dk_bytes : ∀ {l : List D}, (∀ x ∈ l, DK (.int .u8) x) → ∃ l' : List (BitVec 8), l = bs l'
  | [], _ => ⟨[], rfl⟩
  | x :: l, h => by
    obtain ⟨b, rfl⟩ := h x (by simp)
    obtain ⟨l', rfl⟩ := dk_bytes (l := l) (fun y hy => h y (by simp [hy]))
    exact ⟨b :: l', rfl⟩
theorem dbulkL_bs (l : List (BitVec 8)) : dbulkL (bs l) = l.length := by
  induction l with
  | nil => rfl
  | cons x l ih => simp only [bs, List.map_cons, dbulkL] at ih ⊢; rw [ih]; simp [dbulk, u8]; omega
theorem dk_bs {d : D} (h : DK (.slice (.int .u8)) d) : ∃ l : List (BitVec 8), IsBs d l ∧ l.length ≤ dbulk d ∧ l.length ≤ maxLen := by
  rcases h with rfl | ⟨l, rfl, g1, g2⟩
  · exact ⟨[], .inl ⟨rfl, rfl⟩, by simp, by simp⟩
  · obtain ⟨l', rfl⟩ := dk_bytes g2
    exact ⟨l', .inr ⟨false, rfl⟩, by simp only [dbulk, dbulkL_bs]; omega, by simpa [bs] using g1⟩
theorem dk_arr8 {n : Nat} {d : D} (h : DK (.arr n (.int .u8)) d) : ∃ l : List (BitVec 8), d = .agg (.ar n (.leaf u8s)) (bs l) ∧ l.length = n := by
  obtain ⟨l, rfl, g1, g2⟩ := h
  obtain ⟨l', rfl⟩ := dk_bytes g2
  exact ⟨l', rfl, by simpa [bs] using g1⟩

/-- an argument, made alike -/
def DN : TK → D → Prop
  | .slice t, d => ∃ l, d = .lst t.sh l false ∧ l.length ≤ maxLen ∧ ∀ x ∈ l, DK t x
  | k, d => DK k d
def DNs : TKs → List D → Prop
  | .nil, [] => True
  | .cons a l, d :: ds => DN a d ∧ DNs l ds
  | _, _ => False
theorem dk_dn {k : TK} {d : D} (h : DK k d) : ∃ d', Nrm d d' ∧ DN k d' ∧ dbulk d' ≤ dbulk d := by
  cases k with
  | slice t =>
    rcases h with rfl | ⟨l, rfl, g1, g2⟩
    · exact ⟨_, .nil t.sh false, ⟨[], rfl, by simp, by simp⟩, by simp [dbulk, dbulkL]⟩
    · exact ⟨_, .refl _, ⟨l, rfl, g1, g2⟩, Nat.le_refl _⟩
  | _ => exact ⟨d, .refl _, h, Nat.le_refl _⟩
theorem dks_dns : ∀ {ks : TKs} {dd : List D}, DKs ks dd → ∃ dd', All2 Nrm dd dd' ∧ DNs ks dd' ∧ dbulkL dd' ≤ dbulkL dd
  | .nil, [], _ => ⟨[], .nil, trivial, Nat.le_refl _⟩
  | .nil, _ :: _, h => by simp [DKs] at h
  | .cons a l, [], h => by simp [DKs] at h
  | .cons a l, d :: ds, h => by
    obtain ⟨d', h1, h2, h3⟩ := dk_dn h.1
    obtain ⟨ds', g1, g2, g3⟩ := dks_dns h.2
    exact ⟨d' :: ds', .cons h1 g1, ⟨h2, g2⟩, by simp only [dbulkL]; omega⟩
theorem dn_bs {d : D} (h : DN (.slice (.int .u8)) d) : ∃ l : List (BitVec 8), d = .lst L8 (bs l) false ∧ l.length ≤ maxLen ∧ dbulk d = l.length + 1 := by
  obtain ⟨l, rfl, g1, g2⟩ := h
  obtain ⟨l', rfl⟩ := dk_bytes g2
  exact ⟨l', rfl, by simpa [bs] using g1, by simp only [dbulk, dbulkL_bs]⟩
theorem dk_list {α : Type} {t : TK} {mk : α → D} (hmk : ∀ d, DK t d → ∃ x, d = mk x) : ∀ {l : List D}, (∀ x ∈ l, DK t x) → ∃ l' : List α, l = l'.map mk
  | [], _ => ⟨[], rfl⟩
  | x :: l, h => by
    obtain ⟨b, rfl⟩ := hmk x (h x (by simp))
    obtain ⟨l', rfl⟩ := dk_list hmk (l := l) (fun y hy => h y (by simp [hy]))
    exact ⟨b :: l', rfl⟩

/-- a law's contract: what its row asks -/
theorem row_law {H : Type} {enc : TypeId × Value → H} {f : FuncId} {fn : Func} {spec : ChangeSpec} {A : AFun} {ks : TKs} {n : Nat} {tb : TypeId} {G : Nat → Option D} (hA : Meets G P f A) (hl : laidOutB P = true)
    (hty : (fn.params.toList.all fun t => (tyX P n t).isSome && P.readableRec t && decide (t < P.types.size)) = true) (hks : flK (tyK P n) fn.params.toList = some ks)
    (hvars : spec.vars = []) (hres : fn.resultTypes = #[tb]) (htb : P.underlying tb = some .bool)
    (hspec : ∀ ds : List (DataW H), ds.length = fn.params.toList.length → spec.fn H ds = { results := [.lit (.bool true)], args := ds })
    {W : World} {base : Nat} {args : Array Value} {ds gs : List (DataW H)} {before : List MemPlace}
    (hlaw : ∀ dd, DNs ks dd → dbulkL dd ≤ Go.Proofs.Ytloclegkilgglaa.Rows.uptoBulkAll (ds ++ gs) → A dd [] (fun d _ => d = .raw (.bool true)))
    (hval : ∀ (j : Nat) t v, fn.params[j]? = some t → args[j]? = some v → Value.okWide P W .any base t v)
    (hW : DataW.Whole enc P fn.params.toList spec.vars false W args.toList ds gs before) (hG : ∀ g d, G g = some d → LR noPl W (old W) (.cptr d) (.pointer (some ⟨g, 0, none⟩))) :
    Calls P f args W fun e W' => ∃ v, e = .returned v ∧ spec.post enc P fn false true false false W args v W' :=
  row_contract hA hl hty hvars hres htb hspec (fun dd h1 h2 => by
    obtain ⟨dd', g1, g2, g3⟩ := dks_dns (dofs_dks hks h1)
    exact ⟨dd', g1, hlaw dd' g2 (by omega)⟩) hval hW hG
end Go.Am
