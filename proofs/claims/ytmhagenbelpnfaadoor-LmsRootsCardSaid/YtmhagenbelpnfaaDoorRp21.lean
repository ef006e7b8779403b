import Derived.Test.YtmhagenbelpnfaaDoorRp20
namespace Go.Am
set_option linter.unusedSimpArgs false
set_option linter.unusedVariables false
attribute [local congr] bnd_congr kCond_congr kGd_congr kPick_congr kCall_congr kIdx_congr kSlice_congr kLoop_congr cond_congr' aBin_congr aBounds_congr aApp_congr aCopy_congr kFn_congr
namespace Job
open Go.Am.F
set_option maxRecDepth 10000
theorem shl_it (b w : Nat) (hb : b ≤ 4) (hw : w ≤ 30) (k : D → Prop) : aBin .shl (it (b : Int)) (it (w : Int)) k = k (.raw (it ((b * 2 ^ w : Nat) : Int))) := by
 have hm : min ((w : Int)).toNat IntKind.i64.bits = w := by show min ((w : Int)).toNat 64 = w; omega
 have hp : 2 ^ w ≤ 2 ^ 30 := Nat.pow_le_pow_right (by decide) hw
 have hq : b * 2 ^ w ≤ 4 * 2 ^ 30 := Nat.mul_le_mul hb hp
 have e : (b : Int) * 2 ^ w = ((b * 2 ^ w : Nat) : Int) := by simp
 simp only [aBin, it]
 rw [hm, e]
 have hz : IntKind.i64.wrap ((b * 2 ^ w : Nat) : Int) = ((b * 2 ^ w : Nat) : Int) := wz_id (by omega)
 rw [hz]
 simp
structure Plc where
 q : BitVec 32
 i : Int
 j : Int
def plcD (p : Plc) : D := .agg SPlc [.raw (u32 p.q), .raw (it p.i), .raw (it p.j)]
theorem plc_fits (p : Plc) : (plcD p).fits SPlc = true := rfl
def spotD (q : BitVec 32) (i : Int) : D := .agg SSpot [.raw (u32 q), .raw (it i)]
def toldO (tm : List D) (q : BitVec 32) (i : Int) : Option (Option Int) := match mfind (spotD q i) tm with
 | some none => some none
 | some (some (.int .i64 n)) => some (some n)
 | _ => none
theorem toldO_some {tm : List D} {q : BitVec 32} {i : Int} {o : Option Int} (h : toldO tm q i = some o) : mfind (spotD q i) tm = some (o.map fun n => it n) := by
 unfold toldO at h
 split at h
 ·rename_i e; cases h; exact e
 ·rename_i n e; cases h; exact e
 ·cases h
def knB (s : SgV) (p : Plc) : Bool := match toldO s.tm p.q p.i with
 | some (some n) => decide (n ≤ p.j) && decide (p.j < (2 ^ wT s.o.toNat : Nat))
 | _ => false
noncomputable def fKnows : Fn := fn2 (rdOf sgV) (rdOf plcD) (fun s p => okSg s && okT s.o.toNat && (toldO s.tm p.q p.i).isSome) fun s p => (.raw (.bool (knB s p)), [])
theorem knows_ok (C : Ctx) (hC : CtxOK C P) (h1 : C.fn 43 = some fParams) : Meets C.glob P 34 (Fn.run fKnows) := by
 refine fn_meets (m_lms_Signer_Knows C hC) fun ds rows r h => ?_
 obtain ⟨d, d2, s, p, rfl, rfl, hd, hd2, hp, rfl⟩ := fn2_some h
 cases rdOf_some hd
 cases rdOf_some hd2
 simp only [Bool.and_eq_true] at hp
 obtain ⟨⟨hp, ho⟩, hk⟩ := hp
 refine ⟨rfl, afun_mk rfl ?_⟩
 clear h hd hd2
 unfold a_lms_Signer_Knows r_lms_Signer_Knows
 have hz : D.agg SPar [.raw (it 0), .raw (it 0), .raw (it 0)] = parD ⟨0, 0, 0⟩ := rfl
 obtain ⟨o, hko⟩ := Option.isSome_iff_exists.1 hk
 have hm := toldO_some hko
 have pg0 : (plcD p).get [0] = some (.raw (u32 p.q)) := rfl
 have pg1 : (plcD p).get [1] = some (.raw (it p.i)) := rfl
 have pg2 : (plcD p).get [2] = some (.raw (it p.j)) := rfl
 have hw : wT s.o.toNat ≤ 8 := by rcases okT_cases ho with e | e | e | e <;> rw [e] <;> decide
 have gw : (parD (parT s.o.toNat)).get [0] = some (.raw (it (wT s.o.toNat : Int))) := rfl
 have hsp : ∀ q i, D.agg SSpot [.raw (u32 q), .raw (it i)] = spotD q i := fun _ _ => rfl
 have sp_fits : ∀ q i, (spotD q i).fits SSpot = true := fun _ _ => rfl
 simp only [hz]
 cases o with
 | none =>
  have hkb : knB s p = false := by rw [knB, hko]
  rw [hkb]
  simp only [sgV, ↓amD, amU, simprocAttr, zipEnv, amR, plc_fits, h1, kParams, par_fits, pg0, pg1, pg2, gw, hsp, sp_fits, hm, beq_self_eq_true, Option.map]
  exact .val _ rfl
 | some n =>
  have hkb : knB s p = (decide (n ≤ p.j) && decide (p.j < (2 ^ wT s.o.toNat : Nat))) := by rw [knB, hko]
  rw [hkb]
  have hsh := shl_it 1 (wT s.o.toNat) (by decide) (by omega)
  rw [Nat.one_mul, show ((1 : Nat) : Int) = 1 from rfl] at hsh
  by_cases c1 : n ≤ p.j
  ·have c1' := eq_true c1
   simp only [sgV, ↓amD, amU, simprocAttr, zipEnv, amR, plc_fits, h1, kParams, par_fits, pg0, pg1, pg2, gw, hsp, sp_fits, hm, beq_self_eq_true, Option.map, c1', hsh, decide_true, Bool.true_and]
   exact .val _ rfl
  ·have c1' := eq_false c1
   simp only [sgV, ↓amD, amU, simprocAttr, zipEnv, amR, plc_fits, h1, kParams, par_fits, pg0, pg1, pg2, gw, hsp, sp_fits, hm, beq_self_eq_true, Option.map, c1', hsh, decide_false, Bool.false_and]
   exact .val _ rfl
def msgV (m : List (BitVec 8)) : ByteArray := ⟨(ub m).toArray⟩
def sgnO (sm : List D) (m : List (BitVec 8)) : Option Bool := match mfind (.raw (.string (msgV m))) sm with
 | some none => some false
 | some (some (.bool b)) => some b
 | _ => none
noncomputable def fSigned : Fn := fn2 (rdOf sgV) rdBs (fun s m => okSg s && (sgnO s.sm m).isSome && decide (m.length ≤ 1099511627776)) fun s m => (.raw (.bool ((sgnO s.sm m).getD false)), [])
theorem signed_ok (C : Ctx) (hC : CtxOK C P) : Meets C.glob P 36 (Fn.run fSigned) := by
 refine fn_meetsN (m_lms_Signer_Signed C hC) fun ds rows r h => ?_
 obtain ⟨d, d2, s, m, rfl, rfl, hd, hd2, hp, rfl⟩ := fn2_some h
 cases rdOf_some hd
 obtain ⟨xm, hx⟩ := rdBs_nrm hd2
 simp only [Bool.and_eq_true, decide_eq_true_eq] at hp
 obtain ⟨⟨hp, hk⟩, hml⟩ := hp
 refine ⟨rfl, _, .cons (.refl _) (.cons hx .nil), afun_mk rfl ?_⟩
 clear h hd hd2 hx
 unfold a_lms_Signer_Signed r_lms_Signer_Signed
 have hb := byte_bs m
 have hstr : ∀ v : List UInt8, (D.raw (.string ⟨v.toArray⟩)).fits LS = true := fun _ => rfl
 have hmv : (⟨(ub m).toArray⟩ : ByteArray) = msgV m := rfl
 obtain ⟨o, hko⟩ := Option.isSome_iff_exists.1 hk
 rw [hko]
 unfold sgnO at hko
 split at hko
 ·rename_i e
  cases hko
  simp only [sgV, ↓amD, amU, simprocAttr, zipEnv, amR, bs_len, hb, hmv, e, beq_self_eq_true, Option.getD]
  exact ⟨rfl, .val _ rfl⟩
 ·rename_i b e
  cases hko
  simp only [sgV, ↓amD, amU, simprocAttr, zipEnv, amR, bs_len, hb, hmv, e, beq_self_eq_true, Option.getD]
  exact ⟨rfl, .val _ rfl⟩
 ·cases hko
noncomputable def fLast0 : Fn := fn2 (rdOf sgV) rd32 (fun s _ => okSg s && isNil s.ld) fun _ _ => (.tup [.raw (.slice none 0 0), d32D z32], [])
theorem isNil_eq {d : D} (h : isNil d = true) : d = .raw (.slice none 0 0) := by
 unfold isNil at h
 split at h
 ·rfl
 ·cases h
theorem last0_ok (C : Ctx) (hC : CtxOK C P) : Meets C.glob P 35 (Fn.run fLast0) := by
 refine fn_meets (m_lms_Signer_Last C hC) fun ds rows r h => ?_
 obtain ⟨d, d2, s, q, rfl, rfl, hd, hd2, hp, rfl⟩ := fn2_some h
 cases rdOf_some hd
 cases rd32_some hd2
 simp only [Bool.and_eq_true] at hp
 obtain ⟨hp, hl⟩ := hp
 have hld := isNil_eq hl
 refine ⟨rfl, afun_mk rfl ?_⟩
 clear h hd hd2
 unfold a_lms_Signer_Last r_lms_Signer_Last
 have c1 : (BitVec.ofInt 64 0 ≤ q.setWidth 64) = True := eq_true (by rw [BitVec.le_def]; exact Nat.zero_le _)
 have c2 : (0#64 ≤ q.setWidth 64) = True := eq_true (by rw [BitVec.le_def]; exact Nat.zero_le _)
 simp only [z32_eq]
 simp only [sgV, hld, ↓amD, amU, simprocAttr, zipEnv, amR, c1, c2]
 exact .val _ rfl
def KeptL (rows rows' : Rows) : Prop := ∀ q row, live rows q = some row → live rows' q = some row
theorem KeptL.refl (rows : Rows) : KeptL rows rows := fun _ _ h => h
theorem KeptL.app (rows L : Rows) : KeptL rows (rows ++ L) := fun _ _ h => live_push h
theorem KeptL.trans {a b c : Rows} (h : KeptL a b) (h' : KeptL b c) : KeptL a c := fun q row hq => h' q row (h q row hq)
theorem KeptL.set {rows rs : Rows} (h : KeptL rows rs) {q : Nat} (hq : rows.length ≤ q) (x : Option Row) : KeptL rows (rs.set q x) := fun p row hp => by
 have := live_lt hp
 rw [live_set_ne (by omega)]
 exact h p row hp
structure Sg where
 t : BitVec 32
 o : BitVec 32
 id : List (BitVec 8)
 seed : List (BitVec 8)
 ns : List (List (BitVec 8))
 nx : BitVec 32
 sm : List D
 tm : List D
 last : List (List (BitVec 8) × List (BitVec 8))
structure At4 where
 r : Nat
 nr : Nat
 ms : Nat
 mt : Nat
 ne : Bool
 dl : D
def letD (x : List (BitVec 8) × List (BitVec 8)) : D := .agg SLet [.raw (.string (msgV x.1)), .agg (.ar 32 L8) (bs x.2)]
def sgR (L : At4) (s : Sg) : D := .agg SSig [.raw (u32 s.t), .raw (u32 s.o), .agg (.ar 16 L8) (bs s.id), .agg (.ar 32 L8) (bs s.seed), .sl (.ar 32 L8) L.nr [] 0 s.ns.length L.ne, .raw (u32 s.nx), .mp L.ms, .mp L.mt, L.dl]
structure Sgn (rows : Rows) (L : At4) (s : Sg) : Prop where
 a : live rows L.r = some ⟨SSig, [sgR L s]⟩
 n : live rows L.nr = some ⟨.ar 32 L8, s.ns.map d32D⟩
 m : live rows L.ms = some ⟨MSgn, s.sm⟩
 t : live rows L.mt = some ⟨MTold, s.tm⟩
 l : Own SLet L.dl rows (s.last.map letD)
def ldV (L : At4) (s : Sg) : D := match L.dl with
 | .sl _ _ _ _ _ ex => .lst SLet (s.last.map letD) ex
 | d => d
def Sg.v (s : Sg) (L : At4) : SgV := ⟨s.t, s.o, s.id, s.seed, s.ns, L.ne, s.nx, s.sm, s.tm, ldV L s⟩
theorem Sgn.keep {rows rows' : Rows} {L : At4} {s : Sg} (h : Sgn rows L s) (hk : KeptL rows rows') : Sgn rows' L s := by
 refine ⟨hk _ _ h.a, hk _ _ h.n, hk _ _ h.m, hk _ _ h.t, ?_⟩
 rcases h.l with h | ⟨r, ex, e, hl⟩
 ·exact .inl h
 ·exact .inr ⟨r, ex, e, hk _ _ hl⟩
theorem Sgn.push {rows : Rows} {L : At4} {s : Sg} (h : Sgn rows L s) (more : Rows) : Sgn (rows ++ more) L s := h.keep (KeptL.app _ _)
theorem Sgn.rd {rows : Rows} {L : At4} {s : Sg} (h : Sgn rows L s) : RdIn rows (rdOf sgV) (.ptr SSig L.r [0]) (s.v L) := by
 refine ⟨⟨sgV (s.v L), ?_, rdOf_eq sgV_inj _⟩, fun h => by simp [hasRef] at h⟩
 have en : elems rows (.sl (.ar 32 L8) L.nr [] 0 s.ns.length L.ne) = some (s.ns.map d32D) := by
  simp only [elems, h.n]
  simp [List.take_of_length_le]
 have hm : live rows L.ms = some ⟨MSgn, s.sm⟩ := h.m
 have ht : live rows L.mt = some ⟨MTold, s.tm⟩ := h.t
 have hv : view rows 7 L.dl = some (ldV L s) := by
  rcases h.l with ⟨e2, e⟩ | ⟨r, ex, e, hl⟩
  ·rw [ldV, e]; rfl
  ·have hll : (s.last.map letD).length = s.last.length := List.length_map _
   have el : elems rows (.sl SLet r [] 0 s.last.length ex) = some (s.last.map letD) := by
    simp only [elems, hl]
    simp [List.take_of_length_le]
   rw [ldV, e, hll]
   simp [view, el, Sh.pure]
 have h7 : view rows 8 (sgR L s) = some (.agg SSig [.raw (u32 s.t), .raw (u32 s.o), .agg (.ar 16 L8) (bs s.id), .agg (.ar 32 L8) (bs s.seed), .lst (.ar 32 L8) (s.ns.map d32D) L.ne, .raw (u32 s.nx), .om MSgn s.sm, .om MTold s.tm, ldV L s]) := by
  unfold sgR
  rw [vw_agg]
  simp [Sh.pure, view, mapO, en, hm, ht, hv]
 rw [vw_ptr, h.a]
 have hg : rowGet [sgR L s] [0] = some (sgR L s) := rfl
 simp only [Option.bind_some, hg, h7]
 rfl
theorem Sg.ld_noref {L : At4} {s : Sg} {rows : Rows} (h : Sgn rows L s) : hasRef (ldV L s) = false := by
 rcases h.l with ⟨e2, e⟩ | ⟨r, ex, e, hl⟩
 ·rw [ldV, e]; rfl
 ·rw [ldV, e]; rfl
def lfS (o : BitVec 32) (id seed : List (BitVec 8)) (H r : Nat) : List (BitVec 8) := leafS id (BitVec.ofNat 32 r) (pubS o.toNat ⟨id, BitVec.ofNat 32 (r - H)⟩ seed)
def ndV (o : BitVec 32) (id seed : List (BitVec 8)) (H : Nat) (N : List (List (BitVec 8))) (r : Nat) : List (BitVec 8) := if H ≤ r then lfS o id seed H r else nodeS id (BitVec.ofNat 32 r) (N.getD (2 * r) []) (N.getD (2 * r + 1) [])
def ndL (o : BitVec 32) (id seed : List (BitVec 8)) (H : Nat) : Nat → List (List (BitVec 8))
 | 0 => List.replicate (2 * H) z32
 | k + 1 => (ndL o id seed H k).set (2 * H - 1 - k) (ndV o id seed H (ndL o id seed H k) (2 * H - 1 - k))
def nodesL (o : BitVec 32) (id seed : List (BitVec 8)) (H : Nat) : List (List (BitVec 8)) := ndL o id seed H (2 * H - 1)
section
variable (o : BitVec 32) (id seed : List (BitVec 8)) (H : Nat)
theorem ndL_len : ∀ k, (ndL o id seed H k).length = 2 * H
 | 0 => by simp [ndL]
 | k + 1 => by simp [ndL, ndL_len k]
theorem ndV_len (N : List (List (BitVec 8))) (r : Nat) : (ndV o id seed H N r).length = 32 := by
 unfold ndV
 split
 ·exact leafS_len _ _ _
 ·exact nodeS_len _ _ _ _
theorem ndL_32 : ∀ k, ∀ x ∈ ndL o id seed H k, x.length = 32
 | 0, x, hx => by rw [List.eq_of_mem_replicate hx]; rfl
 | k + 1, x, hx => by
  rcases List.mem_or_eq_of_mem_set hx with h | rfl
  ·exact ndL_32 k x h
  ·exact ndV_len _ _ _ _ _ _
theorem ndL_stay (k : Nat) : ∀ m j, 1 ≤ j → 2 * H - k ≤ j → (ndL o id seed H (k + m)).getD j [] = (ndL o id seed H k).getD j []
 | 0, j, _, _ => rfl
 | m + 1, j, h0, h => by
  have ih := ndL_stay k m j h0 h
  rw [show k + (m + 1) = (k + m) + 1 from rfl, ndL]
  by_cases hlt : j < 2 * H
  ·rw [← ih]
   have hne : 2 * H - 1 - (k + m) ≠ j := by omega
   simp only [List.getD, List.getElem?_set_ne hne]
  ·rw [← ih]
   have h1 : (ndL o id seed H (k + m)).length ≤ j := by rw [ndL_len]; omega
   simp only [List.getD]
   rw [List.getElem?_eq_none (by rw [List.length_set]; exact h1), List.getElem?_eq_none h1]
theorem nodes_at (r : Nat) (h1 : 1 ≤ r) (h2 : r < 2 * H) : (nodesL o id seed H).getD r [] = ndV o id seed H (nodesL o id seed H) r := by
 obtain ⟨k, hk⟩ : ∃ k, r = 2 * H - 1 - k := ⟨2 * H - 1 - r, by omega⟩
 have e1 : (nodesL o id seed H).getD r [] = (ndL o id seed H (k + 1)).getD r [] := by
  have := ndL_stay o id seed H (k + 1) (2 * H - 1 - (k + 1)) r (by omega) (by omega)
  rw [show k + 1 + (2 * H - 1 - (k + 1)) = 2 * H - 1 by omega] at this
  exact this
 have hl := ndL_len o id seed H k
 rw [e1, ndL, ← hk]
 have e2 : ((ndL o id seed H k).set r (ndV o id seed H (ndL o id seed H k) r)).getD r [] = ndV o id seed H (ndL o id seed H k) r := by
  simp [List.getD, hl, h2]
 rw [e2]
 unfold ndV
 by_cases hH : H ≤ r
 ·rw [if_pos hH, if_pos hH]
 ·rw [if_neg hH, if_neg hH]
  have st := fun j (h0 : 1 ≤ j) (hj : 2 * H - k ≤ j) => by
   have := ndL_stay o id seed H k (2 * H - 1 - k) j h0 hj
   rw [show k + (2 * H - 1 - k) = 2 * H - 1 by omega] at this
   exact this
  show nodeS _ _ _ _ = nodeS _ _ ((nodesL o id seed H).getD (2 * r) []) ((nodesL o id seed H).getD (2 * r + 1) [])
  rw [nodesL, st (2 * r) (by omega) (by omega), st (2 * r + 1) (by omega) (by omega)]
theorem nodes_leaf (r : Nat) (h1 : H ≤ r) (h2 : r < 2 * H) : (nodesL o id seed H).getD r [] = lfS o id seed H r := by
 rw [nodes_at o id seed H r (by omega) h2, ndV, if_pos h1]
theorem nodes_node (r : Nat) (h1 : 1 ≤ r) (h2 : r < H) : (nodesL o id seed H).getD r [] = nodeS id (BitVec.ofNat 32 r) ((nodesL o id seed H).getD (2 * r) []) ((nodesL o id seed H).getD (2 * r + 1) []) := by
 rw [nodes_at o id seed H r h1 (by omega), ndV, if_neg (by omega)]
end
structure LmC (C : Ctx) : Prop where
 hei : C.fn 45 = some fHeight
 par : C.fn 43 = some fParams
 lvs : C.fn 37 = some fLeaves
 sit : C.fn 39 = some fSite
 pub : C.fn 26 = some fPublic
 lea : C.fn 27 = some fLeaf
 nod : C.fn 28 = some fNode
def sgNew (t o : BitVec 32) (id seed : List (BitVec 8)) (N : List (List (BitVec 8))) : Sg := ⟨t, o, id, seed, N, 0#32, [], [], []⟩
def hH (t : BitVec 32) : Nat := 2 ^ hT t.toNat
theorem okSg_of {rows : Rows} {L : At4} {s : Sg} (h : Sgn rows L s) (h1 : s.id.length = 16) (h2 : s.seed.length = 32) (h3 : ∀ x ∈ s.ns, x.length = 32) (h4 : 4 ≤ s.ns.length) (h5 : s.ns.length ≤ 2048) (h6 : s.ns.length % 2 = 0) : okSg (s.v L) = true :=
 okSg_iff.2 ⟨h1, h2, h3, h4, h5, h6, Sg.ld_noref h⟩
theorem ne_sh {rows : Rows} {a b : Nat} {s s' : Sh} {l l' : List D} (h : live rows a = some ⟨s, l⟩) (h' : live rows b = some ⟨s', l'⟩) (hs : s ≠ s') : a ≠ b := by
 rintro rfl
 rw [h] at h'
 injection h' with h'
 injection h' with h' _
 exact hs h'
theorem Sgn.setNs {rows : Rows} {L : At4} {s : Sg} (h : Sgn rows L s) {N : List (List (BitVec 8))} (hN : N.length = s.ns.length) : Sgn (rows.set L.nr (some ⟨.ar 32 L8, N.map d32D⟩)) L { s with ns := N } := by
 have n1 := ne_sh h.n h.a (by decide)
 have n2 := ne_sh h.n h.m (by decide)
 have n3 := ne_sh h.n h.t (by decide)
 refine ⟨?_, live_set_eq h.n, ?_, ?_, ?_⟩
 ·rw [live_set_ne n1, h.a]; simp only [sgR, hN]
 ·rw [live_set_ne n2]; exact h.m
 ·rw [live_set_ne n3]; exact h.t
 ·rcases h.l with e | ⟨r, ex, e, hl⟩
  ·exact .inl e
  ·have n4 := ne_sh h.n hl (by decide)
   exact .inr ⟨r, ex, e, by rw [live_set_ne n4]; exact hl⟩
set_option maxHeartbeats 4000000 in
theorem newL_run (C : Ctx) (h : LmC C) {rows : Rows} {t o : BitVec 32} {id seed : List (BitVec 8)} (ht : okH t.toNat = true) (ht2 : hT t.toNat ≤ 10) (ho : okT o.toNat = true) (hid : id.length = 16) (hsd : seed.length = 32) {K : D → Rows → Prop}
  (hk : ∀ rows' L, Sgn rows' L (sgNew t o id seed (nodesL o id seed (hH t))) → KeptL rows rows' → rows.length ≤ L.r → rows.length ≤ L.nr → rows.length ≤ L.ms → rows.length ≤ L.mt → L.dl = .raw (.slice none 0 0) → K (.tup [.ptr SSig L.r [0], .raw (it 0)]) rows') :
  afun C 4 r_lms_New a_lms_New [.raw (u32 t), .raw (u32 o), .agg (.ar 16 L8) (bs id), .agg (.ar 32 L8) (bs seed)] rows K := by
 refine afun_mk rfl ?_
 unfold a_lms_New r_lms_New
 have hz : D.agg SPar [.raw (it 0), .raw (it 0), .raw (it 0)] = parD ⟨0, 0, 0⟩ := rfl
 have h1 := okH_pos ht
 have b0 : ∀ n : Nat, ((0 : Int) ≤ (n : Int)) = True := fun n => eq_true (by omega)
 have c1 : ((10 : Int) < ((hT t.toNat : Nat) : Int)) = False := eq_false (by omega)
 have hs2 := shl_it 2 (hT t.toNat) (by decide) (by omega)
 rw [show ((2 : Nat) : Int) = 2 from rfl] at hs2
 have hHd : 2 ^ hT t.toNat = hH t := rfl
 have hH2 : 2 ≤ hH t := by
  have : 2 ^ 1 ≤ 2 ^ hT t.toNat := Nat.pow_le_pow_right (by decide) h1
  exact this
 have hH10 : hH t ≤ 1024 := by
  have : 2 ^ hT t.toNat ≤ 2 ^ 10 := Nat.pow_le_pow_right (by decide) ht2
  exact this
 rw [hHd] at hs2
 simp only [hz, z32_eq]
 simp only [↓amD, amU, simprocAttr, zipEnv, amR, h.hei, kHeight, h.par, kParams, par_fits, ht, ho, c1, hs2, b0, Bool.not_true]
 have z1 : wz (((2 * hH t : Nat) : Int) - 1) = ((2 * hH t - 1 : Nat) : Int) := by rw [wz_id (by omega)]; omega
 refine ⟨by omega, by omega, ?_⟩
 rw [z1]
 generalize hHh : hH t = H at *
 obtain ⟨L, lr, ln, lm, lt, le, ld⟩ : ∃ L : At4, L.r = rows.length + 6 ∧ L.nr = rows.length + 3 ∧ L.ms = rows.length + 4 ∧ L.mt = rows.length + 5 ∧ L.ne = true ∧ L.dl = .raw (.slice none 0 0) := ⟨⟨_, _, _, _, _, _⟩, rfl, rfl, rfl, rfl, rfl, rfl⟩
 have hz32 : List.replicate (2 * H) (D.agg (.ar 32 L8) (bs z32)) = (ndL o id seed H 0).map d32D := by simp [ndL, d32D]
 rw [hz32]
 have hnl := ndL_len o id seed H
 have hn32 := ndL_32 o id seed H
 refine kLoop_up (2 * H - 1) (fun k env rs => has env [(15, .raw (it ((2 * H - 1 - k : Nat) : Int))), (14, .ptr SSig L.r [0]), (7, .ptr (.ar 32 L8) (rows.length + 1) [0]), (6, .ptr (.ar 16 L8) rows.length [0]), (1, .raw (u32 o))] ∧
  Sgn rs L (sgNew t o id seed (ndL o id seed H k)) ∧ KeptL rows rs ∧ live rs rows.length = some ⟨.ar 16 L8, [.agg (.ar 16 L8) (bs id)]⟩ ∧ live rs (rows.length + 1) = some ⟨.ar 32 L8, [.agg (.ar 32 L8) (bs seed)]⟩) ?_ ?_ ⟨?_, ⟨?_, ?_, ?_, ?_, .inl ⟨rfl, ld⟩⟩, KeptL.app _ _, ?_, ?_⟩
 ·rintro k hk2 env rs ⟨hw, hS, hK, r0, r1⟩ R hR
  simp only [has] at hw
  have hok : okSg ((sgNew t o id seed (ndL o id seed H k)).v L) = true := okSg_of hS hid hsd (hn32 k) (by show 4 ≤ (ndL o id seed H k).length; rw [hnl]; omega) (by show (ndL o id seed H k).length ≤ 2048; rw [hnl]; omega) (by show (ndL o id seed H k).length % 2 = 0; rw [hnl]; omega)
  have hlv : lvN ((sgNew t o id seed (ndL o id seed H k)).v L) = H := by show (ndL o id seed H k).length / 2 = H; rw [hnl]; omega
  have kLv := fun k' => kLeavesV rs k' _ _ hS.rd hok
  have kSt := fun q k' => kSiteV rs k' _ _ q hS.rd hok
  rw [hlv] at kLv
  have hSa := hS.a
  have hSn := hS.n
  have hsgR : sgR L (sgNew t o id seed (ndL o id seed H k)) = .agg SSig [.raw (u32 t), .raw (u32 o), .agg (.ar 16 L8) (bs id), .agg (.ar 32 L8) (bs seed), .sl (.ar 32 L8) L.nr [] 0 (2 * H) true, .raw (u32 0#32), .mp L.ms, .mp L.mt, .raw (.slice none 0 0)] := by
   show D.agg SSig [.raw (u32 t), .raw (u32 o), .agg (.ar 16 L8) (bs id), .agg (.ar 32 L8) (bs seed), .sl (.ar 32 L8) L.nr [] 0 (ndL o id seed H k).length L.ne, .raw (u32 0#32), .mp L.ms, .mp L.mt, L.dl] = _
   rw [hnl, le, ld]
  rw [hsgR] at hSa
  have hns : (sgNew t o id seed (ndL o id seed H k)).ns = ndL o id seed H k := rfl
  rw [hns] at hSn
  have hid2 : ((sgNew t o id seed (ndL o id seed H k)).v L).id = id := rfl
  rw [hid2] at kSt
  generalize hr : 2 * H - 1 - k = r at *
  have hr1 : 1 ≤ r := by omega
  have hr2 : r < 2 * H := by omega
  have hnx : 2 * H - 1 - (k + 1) = r - 1 := by omega
  have hst : ndL o id seed H (k + 1) = (ndL o id seed H k).set r (ndV o id seed H (ndL o id seed H k) r) := by rw [← hr]; rfl
  have f0 : ((0 : Int) < (r : Int)) = True := eq_true (by omega)
  have f1 : ((r : Int) < ((2 * H : Nat) : Int)) = True := eq_true (by omega)
  have f2 : wz ((r : Int) - 1) = ((r - 1 : Nat) : Int) := by rw [wz_id (by omega)]; omega
  have f3 : wz ((r : Int) - (H : Int)) = (r : Int) - (H : Int) := wz_id (by omega)
  have f4 : BitVec.ofInt 32 (r : Int) = BitVec.ofNat 32 r := BitVec.ofInt_natCast _ _
  have hgg : ∀ j, j < 2 * H → ((ndL o id seed H k).map d32D)[j]? = some (.agg (.ar 32 L8) (bs ((ndL o id seed H k).getD j []))) ∧ ((ndL o id seed H k).getD j []).length = 32 := fun j hj => by
   have hj2 : j < (ndL o id seed H k).length := by rw [hnl]; exact hj
   have e : (ndL o id seed H k).getD j [] = (ndL o id seed H k)[j] := by simp [List.getD, hj2]
   rw [e]
   exact ⟨by simp [d32D, hj2], hn32 k _ (List.getElem_mem hj2)⟩
  have hgr := (hgg r hr2).1
  have hNl : (ndL o id seed H (k + 1)).length = (sgNew t o id seed (ndL o id seed H k)).ns.length := by rw [hns, hnl, hnl]
  by_cases hH : H ≤ r
  ·have f5 : ((0 : Int) ≤ (r : Int) - (H : Int)) = True := eq_true (by omega)
   have f6 : BitVec.ofInt 32 ((r : Int) - (H : Int)) = BitVec.ofNat 32 (r - H) := by
    rw [show (r : Int) - (H : Int) = ((r - H : Nat) : Int) by omega]; exact BitVec.ofInt_natCast _ _
   have kPb := fun rows' k' => kPublic rows' k' o ⟨id, BitVec.ofNat 32 (r - H)⟩ seed hid hsd ho
   have hpl : (pubS o.toNat ⟨id, BitVec.ofNat 32 (r - H)⟩ seed).length = 32 := sumS_len _
   have kLf := fun rows' k' => kLeaf rows' k' id (BitVec.ofNat 32 r) (pubS o.toNat ⟨id, BitVec.ofNat 32 (r - H)⟩ seed) hid hpl
   have hlf : ndV o id seed H (ndL o id seed H k) r = leafS id (BitVec.ofNat 32 r) (pubS o.toNat ⟨id, BitVec.ofNat 32 (r - H)⟩ seed) := by rw [ndV, if_pos hH]; rfl
   rw [hlf] at hst
   have hSaA := fun L' => live_app hSa L'
   have hSnA := fun L' => live_app hSn L'
   have r0A := fun L' => live_app r0 L'
   simp only [↓amD, amU, simprocAttr, zipEnv, amR, hw, f0, f1, f2, f3, f4, f5, f6, b0, h.lvs, kLv, h.sit, kSt, h.pub, r1, kPb, hSaA, hSnA, r0A, h.lea, kLf]
   have hset : ((ndL o id seed H k).map d32D).set r (.agg (.ar 32 L8) (bs (leafS id (BitVec.ofNat 32 r) (pubS o.toNat ⟨id, BitVec.ofNat 32 (r - H)⟩ seed)))) = (ndL o id seed H (k + 1)).map d32D := by rw [hst, List.map_set]; rfl
   simp only [hgr, hset, ↓amD, amU, simprocAttr, zipEnv]
   exact hR _ _ ⟨by simp only [has, ↓amD, amU, simprocAttr, zipEnv, hw, hnx], (hS.push _).setNs (N := ndL o id seed H (k + 1)) hNl, (hK.trans (KeptL.app _ _)).set (by omega) _, by rw [live_set_ne (by omega)]; exact live_push r0, by rw [live_set_ne (by omega)]; exact live_push r1⟩
  ·have f5 : ((0 : Int) ≤ (r : Int) - (H : Int)) = False := eq_false (by omega)
   have a1 : wz (2 * (r : Int)) = ((2 * r : Nat) : Int) := by rw [wz_id (by omega)]; omega
   have a2 : wz (((2 * r : Nat) : Int) + 1) = ((2 * r + 1 : Nat) : Int) := by rw [wz_id (by omega)]; omega
   have a3 : (((2 * r : Nat) : Int) < ((2 * H : Nat) : Int)) = True := eq_true (by omega)
   have a4 : (((2 * r + 1 : Nat) : Int) < ((2 * H : Nat) : Int)) = True := eq_true (by omega)
   have g1 := hgg (2 * r) (by omega)
   have g2 := hgg (2 * r + 1) (by omega)
   have kNd := fun rows' k' => kNode rows' k' id (BitVec.ofNat 32 r) _ _ hid g1.2 g2.2
   have hlf : ndV o id seed H (ndL o id seed H k) r = nodeS id (BitVec.ofNat 32 r) ((ndL o id seed H k).getD (2 * r) []) ((ndL o id seed H k).getD (2 * r + 1) []) := by rw [ndV, if_neg hH]
   rw [hlf] at hst
   simp only [↓amD, amU, simprocAttr, zipEnv, amR, hw, f0, f1, f2, f3, f4, f5, a1, a2, a3, a4, b0, h.lvs, kLv, hSa, hSn, r0, g1.1, g2.1, h.nod, kNd]
   have hset : ((ndL o id seed H k).map d32D).set r (.agg (.ar 32 L8) (bs (nodeS id (BitVec.ofNat 32 r) ((ndL o id seed H k).getD (2 * r) []) ((ndL o id seed H k).getD (2 * r + 1) [])))) = (ndL o id seed H (k + 1)).map d32D := by rw [hst, List.map_set]; rfl
   simp only [hgr, hset, ↓amD, amU, simprocAttr, zipEnv]
   exact hR _ _ ⟨by simp only [has, ↓amD, amU, simprocAttr, zipEnv, hw, hnx], hS.setNs (N := ndL o id seed H (k + 1)) hNl, hK.set (by omega) _, by rw [live_set_ne (by omega)]; exact r0, by rw [live_set_ne (by omega)]; exact r1⟩
 ·rintro env rs ⟨hw, hS, hK, r0, r1⟩ R
  simp only [has] at hw
  have f0 : ((0 : Int) < ((2 * H - 1 - (2 * H - 1) : Nat) : Int)) = False := eq_false (by omega)
  simp only [↓amD, amU, simprocAttr, zipEnv, amR, hw, f0]
  exact hk rs L hS hK (by omega) (by omega) (by omega) (by omega) ld
 ·rw [lr, Nat.sub_zero]
  simp only [has, ↓amD, amU, simprocAttr, zipEnv]
 ·rw [lr, lv_appk]
  have e : sgR L (sgNew t o id seed (ndL o id seed H 0)) = .agg SSig [.raw (u32 t), .raw (u32 o), .agg (.ar 16 L8) (bs id), .agg (.ar 32 L8) (bs seed), .sl (.ar 32 L8) (rows.length + 3) [] 0 (2 * H) true, .raw (u32 0#32), .mp (rows.length + 4), .mp (rows.length + 5), .raw (.slice none 0 0)] := by
   show D.agg SSig [.raw (u32 t), .raw (u32 o), .agg (.ar 16 L8) (bs id), .agg (.ar 32 L8) (bs seed), .sl (.ar 32 L8) L.nr [] 0 (ndL o id seed H 0).length L.ne, .raw (u32 0#32), .mp L.ms, .mp L.mt, L.dl] = _
   rw [hnl, le, ld, ln, lm, lt]
  rw [e]; rfl
 ·rw [ln, lv_appk]; rfl
 ·rw [lm, lv_appk]; rfl
 ·rw [lt, lv_appk]; rfl
 ·rw [lv_app0]; rfl
 ·rw [lv_appk]; rfl
structure LmS (C : Ctx) : Prop where
 lef : C.fn 30 = some fLeft
 sit : C.fn 39 = some fSite
 mas : C.fn 50 = some fMash
 dig : C.fn 49 = some fDigits
 frc : C.fn 11 = some fForce
def MsgIn (rows : Rows) (d : D) (m : List (BitVec 8)) : Prop := (∃ e, d = .lst L8 (bs m) e) ∨ ∃ r e, d = .sl L8 r [] 0 m.length e ∧ live rows r = some ⟨L8, bs m⟩
theorem MsgIn.bs {rows : Rows} {d : D} {m : List (BitVec 8)} (h : MsgIn rows d m) : BsIn rows d m := by
 rcases h with ⟨e, rfl⟩ | ⟨r, e, rfl, h⟩
 ·exact IsBs.to (.inr ⟨e, rfl⟩)
 ·exact BsIn.own h _ rfl
theorem MsgIn.el {rows : Rows} {d : D} {m : List (BitVec 8)} (h : MsgIn rows d m) : sshape L8 d = true ∧ elems rows d = some (Am.bs m) ∧ slen d = some m.length := by
 rcases h with ⟨e, rfl⟩ | ⟨r, e, rfl, h⟩
 ·exact ⟨by simp [sshape], rfl, by simp [slen, bs_len]⟩
 ·refine ⟨by simp [sshape], ?_, rfl⟩
  simp only [elems, h]
  rw [List.drop_zero, List.take_of_length_le (by rw [bs_len]; exact Nat.le_refl _)]
theorem MsgIn.keep {rows rows' : Rows} {d : D} {m : List (BitVec 8)} (h : MsgIn rows d m) (hk : ∀ q l, live rows q = some ⟨L8, l⟩ → live rows' q = some ⟨L8, l⟩) : MsgIn rows' d m := by
 rcases h with ⟨e, rfl⟩ | ⟨r, e, rfl, h⟩
 ·exact .inl ⟨e, rfl⟩
 ·exact .inr ⟨r, e, rfl, hk _ _ h⟩
def toldK (q : BitVec 32) (ds : List Nat) (tm : List D) : Nat → List D
 | 0 => tm
 | k + 1 => .agg (mpS SSpot LI) [spotD q (k : Int), .raw (it ((ds.getD k 0 : Nat) : Int))] :: toldK q ds tm k
def sgnE (m : List (BitVec 8)) : D := .agg (mpS LS LB) [.raw (.string (msgV m)), .raw (.bool true)]
def Sg.next (s : Sg) (c m : List (BitVec 8)) : Sg := { s with
 nx := s.nx + 1#32
 sm := sgnE m :: s.sm
 tm := toldK s.nx (dgS s.o.toNat ⟨s.id, s.nx⟩ c m) s.tm (pT s.o.toNat)
 last := s.last ++ [(m, c)] }
def At4.next (L : At4) (d : D) : At4 := { L with dl := d }
def Else (rows : Rows) (L : At4) (s : Sg) (q : Nat) : Prop := q ≠ L.r ∧ q ≠ L.nr ∧ q ≠ L.ms ∧ q ≠ L.mt ∧ ∀ ex n, L.dl ≠ .sl SLet q [] 0 n ex
theorem Sgn.ne_r {rows : Rows} {L : At4} {s : Sg} (h : Sgn rows L s) : L.r ≠ L.nr ∧ L.r ≠ L.ms ∧ L.r ≠ L.mt ∧ L.nr ≠ L.ms ∧ L.nr ≠ L.mt ∧ L.ms ≠ L.mt :=
 ⟨ne_sh h.a h.n (by decide), ne_sh h.a h.m (by decide), ne_sh h.a h.t (by decide), ne_sh h.n h.m (by decide), ne_sh h.n h.t (by decide), ne_sh h.m h.t (by decide)⟩
theorem Own.setO {s : Sh} {d : D} {rows : Rows} {els : List D} {q : Nat} {s' : Sh} {l : List D} (h : Own s d rows els) (hq : live rows q = some ⟨s', l⟩) (hs : s' ≠ s) (x : Option Row) : Own s d (rows.set q x) els := by
 rcases h with e | ⟨r, ex, e, hl⟩
 ·exact .inl e
 ·exact .inr ⟨r, ex, e, by rw [live_set_ne (ne_sh hq hl hs)]; exact hl⟩
theorem Sgn.setNx {rows : Rows} {L : At4} {s : Sg} (h : Sgn rows L s) (x : BitVec 32) : Sgn (rows.set L.r (some ⟨SSig, [sgR L { s with nx := x }]⟩)) L { s with nx := x } := by
 obtain ⟨n1, n2, n3, n4, n5, n6⟩ := h.ne_r
 exact ⟨live_set_eq h.a, by rw [live_set_ne n1]; exact h.n, by rw [live_set_ne n2]; exact h.m, by rw [live_set_ne n3]; exact h.t, Own.setO h.l h.a (by decide) _⟩
theorem Sgn.setM {rows : Rows} {L : At4} {s : Sg} (h : Sgn rows L s) (x : List D) : Sgn (rows.set L.ms (some ⟨MSgn, x⟩)) L { s with sm := x } := by
 obtain ⟨n1, n2, n3, n4, n5, n6⟩ := h.ne_r
 exact ⟨by rw [live_set_ne n2.symm]; exact h.a, by rw [live_set_ne n4.symm]; exact h.n, live_set_eq h.m, by rw [live_set_ne n6]; exact h.t, Own.setO h.l h.m (by decide) _⟩
theorem Sgn.setT {rows : Rows} {L : At4} {s : Sg} (h : Sgn rows L s) (x : List D) : Sgn (rows.set L.mt (some ⟨MTold, x⟩)) L { s with tm := x } := by
 obtain ⟨n1, n2, n3, n4, n5, n6⟩ := h.ne_r
 exact ⟨by rw [live_set_ne n3.symm]; exact h.a, by rw [live_set_ne n5.symm]; exact h.n, by rw [live_set_ne n6.symm]; exact h.m, live_set_eq h.t, Own.setO h.l h.t (by decide) _⟩
theorem MsgIn.setO {rows : Rows} {d : D} {m : List (BitVec 8)} (h : MsgIn rows d m) {q : Nat} {s' : Sh} {l : List D} (hq : live rows q = some ⟨s', l⟩) (hs : s' ≠ L8) (x : Option Row) : MsgIn (rows.set q x) d m :=
 h.keep fun p l' hp => by rw [live_set_ne (ne_sh hq hp hs)]; exact hp
theorem MsgIn.push {rows : Rows} {d : D} {m : List (BitVec 8)} (h : MsgIn rows d m) (more : Rows) : MsgIn (rows ++ more) d m := h.keep fun _ _ hp => live_push hp
theorem Sgn.app {rows rows' : Rows} {L : At4} {s : Sg} (h : Sgn rows L s) {d' : D} {x : List (BitVec 8) × List (BitVec 8)} (hO : Own SLet d' rows' (s.last.map letD ++ [letD x]))
  (hfr : ∀ r y, live rows r = some y → (∀ ex n, L.dl ≠ .sl SLet r [] 0 n ex) → live rows' r = some y) :
  live rows' L.r = some ⟨SSig, [sgR L s]⟩ ∧ Sgn (rows'.set L.r (some ⟨SSig, [sgR (L.next d') { s with last := s.last ++ [x] }]⟩)) (L.next d') { s with last := s.last ++ [x] } := by
 obtain ⟨n1, n2, n3, n4, n5, n6⟩ := h.ne_r
 have ga := hfr _ _ h.a (own_neA h.l h.a (by decide))
 have gn := hfr _ _ h.n (own_neA h.l h.n (by decide))
 have gm := hfr _ _ h.m (own_neA h.l h.m (by decide))
 have gt := hfr _ _ h.t (own_neA h.l h.t (by decide))
 refine ⟨ga, live_set_eq ga, by rw [show (L.next d').nr = L.nr from rfl, live_set_ne n1]; exact gn, by rw [show (L.next d').ms = L.ms from rfl, live_set_ne n2]; exact gm, by rw [show (L.next d').mt = L.mt from rfl, live_set_ne n3]; exact gt, ?_⟩
 rw [List.map_append]
 exact Own.setO hO ga (by decide) _
set_option maxHeartbeats 8000000 in
theorem sign_run (C : Ctx) (h : LmS C) {rows : Rows} {L : At4} {s : Sg} {d : D} {c m : List (BitVec 8)} (hS : Sgn rows L s) (hp : okSg (s.v L) = true) (ho : okT s.o.toNat = true) (hc : c.length = 32) (hm : MsgIn rows d m) (hml : m.length ≤ 1099511627776)
  (hnx : s.nx.toNat < lvN (s.v L)) (hla : s.last.length ≤ 1000000) {K : D → Rows → Prop}
  (hk : ∀ rows' dl' r', Sgn rows' (L.next dl') (s.next c m) → live rows' r' = some ⟨L8, bs (sigF (s.v L) s.nx c m)⟩ → rows.length ≤ r' → (∀ q row, live rows q = some row → Else rows L s q → live rows' q = some row) → (∀ q ex n, dl' = .sl SLet q [] 0 n ex → rows.length ≤ q) → rows.length ≤ rows'.length →
   K (.tup [.sl L8 r' [] 0 (44 + 32 * pT s.o.toNat + 32 * pathN (s.v L) s.nx.toNat) false, .raw (it 0)]) rows') :
  afun C 3 r_lms_Signer_Sign a_lms_Signer_Sign [.ptr SSig L.r [0], .agg (.ar 32 L8) (bs c), d] rows K := by
 refine afun_mk rfl ?_
 unfold a_lms_Signer_Sign r_lms_Signer_Sign
 have hS1 := hS.push [some ⟨.ar 32 L8, [.agg (.ar 32 L8) (bs c)]⟩]
 have kLe := fun k' => kLeftV _ k' _ _ hS1.rd hp
 have hlv : lvN (s.v L) ≤ 1024 := by
  have := (okSg_iff.1 hp).2.2.2.2.1
  unfold lvN; omega
 have c0 : ((lvN (s.v L) : Int) - ((s.v L).nx.toNat : Int) = 0) = False := eq_false (by show ¬ ((lvN (s.v L) : Int) - (s.nx.toNat : Int) = 0); omega)
 have hSa := hS1.a
 simp only [sgR] at hSa
 have hcr : live (rows ++ [some (⟨.ar 32 L8, [.agg (.ar 32 L8) (bs c)]⟩ : Row)]) rows.length = some ⟨.ar 32 L8, [.agg (.ar 32 L8) (bs c)]⟩ := by rw [lv_app0]; rfl
 have hm1 := hm.push [some ⟨.ar 32 L8, [.agg (.ar 32 L8) (bs c)]⟩]
 have hF1 : ∀ q row, live rows q = some row → Else rows L s q → live (rows ++ [some (⟨.ar 32 L8, [.agg (.ar 32 L8) (bs c)]⟩ : Row)]) q = some row := fun q row hq _ => live_push hq
 have hN1 : rows.length < (rows ++ [some (⟨.ar 32 L8, [.agg (.ar 32 L8) (bs c)]⟩ : Row)]).length := by simp
 simp only [↓amD, amU, simprocAttr, zipEnv]
 generalize rows ++ [some (⟨.ar 32 L8, [.agg (.ar 32 L8) (bs c)]⟩ : Row)] = R1 at *
 have hS2 := hS1.setNx (s.nx + 1#32)
 have hne := hS1.ne_r
 have hcr2 : live (R1.set L.r (some ⟨SSig, [sgR L { s with nx := s.nx + 1#32 }]⟩)) rows.length = some ⟨.ar 32 L8, [.agg (.ar 32 L8) (bs c)]⟩ := by rw [live_set_ne (ne_sh hS1.a hcr (by decide))]; exact hcr
 have hm2 := hm1.setO hS1.a (by decide) (some ⟨SSig, [sgR L { s with nx := s.nx + 1#32 }]⟩)
 have hF2 : ∀ q row, live rows q = some row → Else rows L s q → live (R1.set L.r (some ⟨SSig, [sgR L { s with nx := s.nx + 1#32 }]⟩)) q = some row := fun q row hq he => by rw [live_set_ne (Ne.symm he.1)]; exact hF1 q row hq he
 have hN2 : rows.length < (R1.set L.r (some ⟨SSig, [sgR L { s with nx := s.nx + 1#32 }]⟩)).length := by simpa using hN1
 have hSa2 := hS2.a
 have hln2 : (R1.set L.r (some (⟨SSig, [sgR L { s with nx := s.nx + 1#32 }]⟩ : Row))).length = R1.length := List.length_set
 simp only [sgR] at hSa2 hS2 hcr2 hm2 hF2 hN2 hln2
 simp only [↓amD, amU, simprocAttr, zipEnv, amR, h.lef, kLe, c0, hSa]
 generalize R1.set L.r (some (⟨SSig, [.agg SSig [.raw (u32 s.t), .raw (u32 s.o), .agg (.ar 16 L8) (bs s.id), .agg (.ar 32 L8) (bs s.seed), .sl (.ar 32 L8) L.nr [] 0 s.ns.length L.ne, .raw (u32 (s.nx + 1#32)), .mp L.ms, .mp L.mt, L.dl]]⟩ : Row)) = R2 at *
 obtain ⟨e1, e2, e3⟩ := hm2.el
 have hby := byte_bs m
 have hmv : (⟨(ub m).toArray⟩ : ByteArray) = msgV m := rfl
 have hM2 := hS2.m
 have hS3 := hS2.setM (.agg (mpS LS LB) [.raw (.string (msgV m)), .raw (.bool true)] :: s.sm)
 have hcr3 : live (R2.set L.ms (some ⟨MSgn, .agg (mpS LS LB) [.raw (.string (msgV m)), .raw (.bool true)] :: s.sm⟩)) rows.length = some ⟨.ar 32 L8, [.agg (.ar 32 L8) (bs c)]⟩ := by rw [live_set_ne (ne_sh hM2 hcr2 (by decide))]; exact hcr2
 have hm3 := hm2.setO hM2 (by decide) (some ⟨MSgn, .agg (mpS LS LB) [.raw (.string (msgV m)), .raw (.bool true)] :: s.sm⟩)
 have hF3 : ∀ q row, live rows q = some row → Else rows L s q → live (R2.set L.ms (some ⟨MSgn, .agg (mpS LS LB) [.raw (.string (msgV m)), .raw (.bool true)] :: s.sm⟩)) q = some row := fun q row hq he => by rw [live_set_ne (Ne.symm he.2.2.1)]; exact hF2 q row hq he
 have hN3 : rows.length < (R2.set L.ms (some ⟨MSgn, .agg (mpS LS LB) [.raw (.string (msgV m)), .raw (.bool true)] :: s.sm⟩)).length := by simpa using hN2
 have hln3 : (R2.set L.ms (some (⟨MSgn, .agg (mpS LS LB) [.raw (.string (msgV m)), .raw (.bool true)] :: s.sm⟩ : Row))).length = R1.length := by rw [List.length_set, hln2]
 simp only [↓amD, amU, simprocAttr, zipEnv, amR, hSa2, e1, e2, e3, bs_len, hby, hmv, hM2]
 generalize R2.set L.ms (some (⟨MSgn, .agg (mpS LS LB) [.raw (.string (msgV m)), .raw (.bool true)] :: s.sm⟩ : Row)) = R3 at *
 have hSa3 := hS3.a
 simp only [sgR] at hSa3
 obtain ⟨f1, f2, f3⟩ := hm3.el
 have hSa3A := fun L' => live_app hSa3 L'
 have hcr3A := fun L' => live_app hcr3 L'
 have f2A : ∀ L', elems (R3 ++ L') d = some (bs m) := fun L' => (hm3.push L').el.2.1
 simp only [↓amD, amU, simprocAttr, zipEnv, amR, hSa3, f1, f2, f2A, f3, bs_len, hby, hmv, hcr3, hSa3A, hcr3A]
 have hnew : live (R3 ++ [some (⟨SLet, [.agg SLet [.raw (.string (msgV m)), .agg (.ar 32 L8) (bs c)]]⟩ : Row)]) R1.length = some ⟨SLet, [.agg SLet [.raw (.string (msgV m)), .agg (.ar 32 L8) (bs c)]]⟩ := by
  rw [← hln3, lv_app0]; rfl
 have hlet : D.agg SLet [.raw (.string (msgV m)), .agg (.ar 32 L8) (bs c)] = letD (m, c) := rfl
 have hO3 := Own.push (more := [some (⟨SLet, [.agg SLet [.raw (.string (msgV m)), .agg (.ar 32 L8) (bs c)]]⟩ : Row)]) hS3.l
 have hS3p := hS3.push [some (⟨SLet, [.agg SLet [.raw (.string (msgV m)), .agg (.ar 32 L8) (bs c)]]⟩ : Row)]
 have hcr3p := hcr3A [some (⟨SLet, [.agg SLet [.raw (.string (msgV m)), .agg (.ar 32 L8) (bs c)]]⟩ : Row)]
 have hm3p := hm3.push [some (⟨SLet, [.agg SLet [.raw (.string (msgV m)), .agg (.ar 32 L8) (bs c)]]⟩ : Row)]
 have hF3p : ∀ q row, live rows q = some row → Else rows L s q → live (R3 ++ [some (⟨SLet, [.agg SLet [.raw (.string (msgV m)), .agg (.ar 32 L8) (bs c)]]⟩ : Row)]) q = some row := fun q row hq he => live_push (hF3 q row hq he)
 have hN3p : rows.length < (R3 ++ [some (⟨SLet, [.agg SLet [.raw (.string (msgV m)), .agg (.ar 32 L8) (bs c)]]⟩ : Row)]).length := by rw [List.length_append]; omega
 simp only [↓amD, amU, simprocAttr, zipEnv, hnew, List.take]
 generalize R3 ++ [some (⟨SLet, [.agg SLet [.raw (.string (msgV m)), .agg (.ar 32 L8) (bs c)]]⟩ : Row)] = R4 at *
 rw [hlet]
 refine app_ownA hO3 (by rw [List.length_map]; simp [most]; omega) (by rw [List.length_map]; simp [most]; omega) fun R5 hl5 hfr hlen5 => ?_
 obtain ⟨d', hd'⟩ : ∃ d', d' = D.sl SLet R4.length [] 0 ((s.last.map letD).length + [letD (m, c)].length) false := ⟨_, rfl⟩
 rw [← hd']
 have hO5 : Own SLet d' R5 (s.last.map letD ++ [letD (m, c)]) := .inr ⟨R4.length, false, by rw [hd', List.length_append], hl5⟩
 obtain ⟨hSa5, hS6⟩ := hS3p.app hO5 hfr
 have hcr5 := hfr _ _ hcr3p (own_neA hO3 hcr3p (by decide))
 have hm5 : MsgIn R5 d m := hm3p.keep fun q l hq => hfr _ _ hq (own_neA hO3 hq (by decide))
 have hF5 : ∀ q row, live rows q = some row → Else rows L s q → live R5 q = some row := fun q row hq he => hfr _ _ (hF3p q row hq he) he.2.2.2.2
 have hcr6 : live (R5.set L.r (some ⟨SSig, [sgR (L.next d') { s with nx := s.nx + 1#32, sm := .agg (mpS LS LB) [.raw (.string (msgV m)), .raw (.bool true)] :: s.sm, last := s.last ++ [(m, c)] }]⟩)) rows.length = some ⟨.ar 32 L8, [.agg (.ar 32 L8) (bs c)]⟩ := by rw [live_set_ne (ne_sh hSa5 hcr5 (by decide))]; exact hcr5
 have hm6 := hm5.setO hSa5 (by decide) (some ⟨SSig, [sgR (L.next d') { s with nx := s.nx + 1#32, sm := .agg (mpS LS LB) [.raw (.string (msgV m)), .raw (.bool true)] :: s.sm, last := s.last ++ [(m, c)] }]⟩)
 have hF6 : ∀ q row, live rows q = some row → Else rows L s q → live (R5.set L.r (some ⟨SSig, [sgR (L.next d') { s with nx := s.nx + 1#32, sm := .agg (mpS LS LB) [.raw (.string (msgV m)), .raw (.bool true)] :: s.sm, last := s.last ++ [(m, c)] }]⟩)) q = some row := fun q row hq he => by rw [live_set_ne (Ne.symm he.1)]; exact hF5 q row hq he
 have hN6 : rows.length < (R5.set L.r (some (⟨SSig, [sgR (L.next d') { s with nx := s.nx + 1#32, sm := .agg (mpS LS LB) [.raw (.string (msgV m)), .raw (.bool true)] :: s.sm, last := s.last ++ [(m, c)] }]⟩ : Row))).length := by rw [List.length_set, hlen5]; omega
 have hdf : D.fits d' .ref = true := by rw [hd']; rfl
 have hdr : ∀ q ex n, d' = .sl SLet q [] 0 n ex → rows.length ≤ q := fun q ex n e => by rw [hd'] at e; injection e with _ e; omega
 simp only [sgR] at hSa5
 have hR6 : R5.set L.r (some (⟨SSig, [sgR (L.next d') { s with nx := s.nx + 1#32, sm := .agg (mpS LS LB) [.raw (.string (msgV m)), .raw (.bool true)] :: s.sm, last := s.last ++ [(m, c)] }]⟩ : Row)) = R5.set L.r (some ⟨SSig, [.agg SSig [.raw (u32 s.t), .raw (u32 s.o), .agg (.ar 16 L8) (bs s.id), .agg (.ar 32 L8) (bs s.seed), .sl (.ar 32 L8) L.nr [] 0 s.ns.length L.ne, .raw (u32 (s.nx + 1#32)), .mp L.ms, .mp L.mt, d']]⟩) := rfl
 rw [hR6] at hcr6 hm6 hN6 hS6
 have hF6 : ∀ q row, live rows q = some row → Else rows L s q → live (R5.set L.r (some ⟨SSig, [.agg SSig [.raw (u32 s.t), .raw (u32 s.o), .agg (.ar 16 L8) (bs s.id), .agg (.ar 32 L8) (bs s.seed), .sl (.ar 32 L8) L.nr [] 0 s.ns.length L.ne, .raw (u32 (s.nx + 1#32)), .mp L.ms, .mp L.mt, d']]⟩)) q = some row := hF6
 clear hR6
 obtain ⟨e1', e2', e3'⟩ := hm5.el
 simp only [↓amD, amU, simprocAttr, zipEnv, amR, hSa5, hcr5, e1', e2', e3', bs_len, hby, hmv, hdf]
 generalize R5.set L.r (some (⟨SSig, [.agg SSig [.raw (u32 s.t), .raw (u32 s.o), .agg (.ar 16 L8) (bs s.id), .agg (.ar 32 L8) (bs s.seed), .sl (.ar 32 L8) L.nr [] 0 s.ns.length L.ne, .raw (u32 (s.nx + 1#32)), .mp L.ms, .mp L.mt, d']]⟩ : Row)) = R6 at *
 have hSa6 := hS6.a
 simp only [sgR, At4.next] at hSa6
 obtain ⟨hid, hsd, h32, hn4, hn, hev, hld⟩ := okSg_iff.1 hp
 have hp6 : okSg (Sg.v { s with nx := s.nx + 1#32, sm := .agg (mpS LS LB) [.raw (.string (msgV m)), .raw (.bool true)] :: s.sm, last := s.last ++ [(m, c)] } (L.next d')) = true := okSg_of hS6 hid hsd h32 hn4 hn hev
 have kSt := fun k' => kSiteV R6 k' _ _ s.nx hS6.rd hp6
 have hrL : (L.next d').r = L.r := rfl
 have hidE : (Sg.v { s with nx := s.nx + 1#32, sm := .agg (mpS LS LB) [.raw (.string (msgV m)), .raw (.bool true)] :: s.sm, last := s.last ++ [(m, c)] } (L.next d')).id = s.id := rfl
 rw [hrL, hidE] at kSt
 have kMa := fun k' => kMash R6 k' ⟨s.id, s.nx⟩ c m d hm6.bs hid hc
 have hml' : (mashS s.id s.nx c m).length = 32 := sumS_len _
 have kDi := fun k' => kDigits R6 k' s.o (mashS s.id s.nx c m) hml' ho
 have hdg : digitsS s.o.toNat (mashS s.id s.nx c m) = dgS s.o.toNat ⟨s.id, s.nx⟩ c m := rfl
 rw [hdg] at kDi
 have hpt : pT s.o.toNat ≤ 265 := (parT_ok ho).2.2.1
 simp only [↓amD, amU, simprocAttr, zipEnv, amR, hSa6, h.sit, kSt, hcr6, h.mas, kMa, h.dig, kDi]
 have hdl : (dgS s.o.toNat ⟨s.id, s.nx⟩ c m).length = pT s.o.toNat := dgS_len _ _ _ _
 have hSd : live (R6 ++ [some (⟨LI, (dgS s.o.toNat ⟨s.id, s.nx⟩ c m).map natD⟩ : Row)]) R6.length = some ⟨LI, (dgS s.o.toNat ⟨s.id, s.nx⟩ c m).map natD⟩ := by rw [lv_app0]; rfl
 have hSx : Sg.next s c m = { s with nx := s.nx + 1#32, sm := .agg (mpS LS LB) [.raw (.string (msgV m)), .raw (.bool true)] :: s.sm, tm := toldK s.nx (dgS s.o.toNat ⟨s.id, s.nx⟩ c m) s.tm (pT s.o.toNat), last := s.last ++ [(m, c)] } := rfl
 rw [hSx] at hk
 have hsF : ∀ tm, sigF (Sg.v { s with nx := s.nx + 1#32, sm := .agg (mpS LS LB) [.raw (.string (msgV m)), .raw (.bool true)] :: s.sm, tm := tm, last := s.last ++ [(m, c)] } (L.next d')) s.nx c m = sigF (s.v L) s.nx c m := fun _ => rfl
 have hpN : ∀ tm, pathN (Sg.v { s with nx := s.nx + 1#32, sm := .agg (mpS LS LB) [.raw (.string (msgV m)), .raw (.bool true)] :: s.sm, tm := tm, last := s.last ++ [(m, c)] } (L.next d')) s.nx.toNat = pathN (s.v L) s.nx.toNat := fun _ => rfl
 generalize dgS s.o.toNat ⟨s.id, s.nx⟩ c m = ds at *
 generalize hPP : pT s.o.toNat = P at *
 refine kLoop_up P (fun i env rs => has env [(60, .raw (it (i : Int))), (59, .raw (it (P : Int))), (58, .sl LI R6.length [] 0 P false), (0, .ptr SSig L.r [0]), (8, .raw (u32 s.nx)), (4, .ptr (.ar 32 L8) rows.length [0]), (2, d)] ∧
  Sgn rs (L.next d') { s with nx := s.nx + 1#32, sm := .agg (mpS LS LB) [.raw (.string (msgV m)), .raw (.bool true)] :: s.sm, tm := toldK s.nx ds s.tm i, last := s.last ++ [(m, c)] } ∧
  live rs R6.length = some ⟨LI, ds.map natD⟩ ∧ live rs rows.length = some ⟨.ar 32 L8, [.agg (.ar 32 L8) (bs c)]⟩ ∧ MsgIn rs d m ∧ (∀ q row, live rows q = some row → Else rows L s q → live rs q = some row) ∧ rows.length < rs.length) ?_ ?_
  ⟨?_, hS6.push _, hSd, live_push hcr6, hm6.push _, fun q row hq he => live_push (hF6 q row hq he), by rw [List.length_append]; omega⟩
 ·rintro i hi env rs ⟨hw, hSi, hdi, hci, hmi, hFi, hNi⟩ R hR
  simp only [has] at hw
  have g0 : ((i : Int) < (P : Int)) = True := eq_true (by omega)
  have b0 : ∀ n : Nat, ((0 : Int) ≤ (n : Int)) = True := fun n => eq_true (by omega)
  have g1 := wz_succ i (by omega)
  have g2 : (ds.map natD)[i]? = some (.raw (it ((ds.getD i 0 : Nat) : Int))) := by
   have : i < ds.length := by omega
   simp [List.getD, this, natD]
  have hSai := hSi.a
  have hSti := hSi.t
  simp only [sgR, At4.next] at hSai
  have hsp : D.agg S7 [.raw (u32 s.nx), .raw (it (i : Int))] = spotD s.nx (i : Int) := rfl
  have spf : (spotD s.nx (i : Int)).fits SSpot = true := rfl
  have hT := hSi.setT (toldK s.nx ds s.tm (i + 1))
  have htk : toldK s.nx ds s.tm (i + 1) = .agg (mpS SSpot LI) [spotD s.nx (i : Int), .raw (it ((ds.getD i 0 : Nat) : Int))] :: toldK s.nx ds s.tm i := rfl
  have hmt : (L.next d').mt = L.mt := rfl
  rw [hmt] at hSti
  simp only [↓amD, amU, simprocAttr, zipEnv, amR, hw, g0, g1, g2, b0, hdi, hSai, hsp, spf, hSti]
  rw [hmt, htk] at hT
  refine hR _ _ ⟨by simp only [has, ↓amD, amU, simprocAttr, zipEnv, hw], ?_, ?_, ?_, ?_, ?_, ?_⟩
  ·rw [htk]; exact hT
  ·rw [live_set_ne (ne_sh hSti hdi (by decide))]; exact hdi
  ·rw [live_set_ne (ne_sh hSti hci (by decide))]; exact hci
  ·exact hmi.setO hSti (by decide) _
  ·exact fun q row hq he => by rw [live_set_ne (Ne.symm he.2.2.2.1)]; exact hFi q row hq he
  ·rw [List.length_set]; exact hNi
 ·rintro env rs ⟨hw, hSi, hdi, hci, hmi, hFi, hNi⟩ R
  simp only [has] at hw
  have g0 : ((P : Int) < (P : Int)) = False := eq_false (by omega)
  have hpi := okSg_of hSi hid hsd h32 hn4 hn hev
  have kFo := fun k' => kForceV rs k' _ d _ s.nx c m hSi.rd hmi.bs hpi ho hc hml hnx
  rw [hrL] at kFo
  simp only [↓amD, amU, simprocAttr, zipEnv, amR, hw, g0, hci, h.frc, kFo]
  have hpo : pT (Sg.v { s with nx := s.nx + 1#32, sm := .agg (mpS LS LB) [.raw (.string (msgV m)), .raw (.bool true)] :: s.sm, tm := toldK s.nx ds s.tm P, last := s.last ++ [(m, c)] } (L.next d')).o.toNat = P := hPP
  rw [hsF, hpN, hpo, ← Nat.add_assoc]
  refine hk _ d' rs.length (hSi.push _) (by rw [lv_app0]; rfl) (by omega) (fun q row hq he => live_push (hFi q row hq he)) hdr (by rw [List.length_append]; omega)
 ·simp only [has, ↓amD, amU, simprocAttr, zipEnv]
theorem sign_none (C : Ctx) (h : LmS C) {rows : Rows} {L : At4} {s : Sg} {d : D} {c : List (BitVec 8)} (hS : Sgn rows L s) (hp : okSg (s.v L) = true) (hc : c.length = 32)
  (hnx : s.nx.toNat = lvN (s.v L)) {K : D → Rows → Prop}
  (hk : ∀ more, K (.tup [.raw (.slice none 0 0), .raw (it 7)]) (rows ++ more)) :
  afun C 3 r_lms_Signer_Sign a_lms_Signer_Sign [.ptr SSig L.r [0], .agg (.ar 32 L8) (bs c), d] rows K := by
 refine afun_mk rfl ?_
 unfold a_lms_Signer_Sign r_lms_Signer_Sign
 have hS1 := hS.push [some ⟨.ar 32 L8, [.agg (.ar 32 L8) (bs c)]⟩]
 have kLe := fun k' => kLeftV _ k' _ _ hS1.rd hp
 have c0 : ((lvN (s.v L) : Int) - ((s.v L).nx.toNat : Int) = 0) = True := eq_true (by show ((lvN (s.v L) : Int) - (s.nx.toNat : Int) = 0); omega)
 simp only [↓amD, amU, simprocAttr, zipEnv]
 simp only [↓amD, amU, simprocAttr, zipEnv, amR, h.lef, kLe, c0]
 exact hk _
end Job
end Go.Am
namespace Go.Am
set_option linter.unusedSimpArgs false
set_option linter.unusedVariables false
namespace Job
open Go.Am.F
set_option maxRecDepth 10000
structure Whole (s : SgV) : Prop where
 t : okH s.t.toNat = true
 t10 : hT s.t.toNat ≤ 10
 o : okT s.o.toNat = true
 id : s.id.length = 16
 sd : s.seed.length = 32
 ns : s.ns = nodesL s.o s.id s.seed (hH s.t)
 ld : hasRef s.ld = false
theorem hH_ge {t : BitVec 32} (h : okH t.toNat = true) : 2 ≤ hH t := by
 have : 2 ^ 1 ≤ 2 ^ hT t.toNat := Nat.pow_le_pow_right (by decide) (okH_pos h)
 exact this
theorem hH_le {t : BitVec 32} (h : hT t.toNat ≤ 10) : hH t ≤ 1024 := by
 have : 2 ^ hT t.toNat ≤ 2 ^ 10 := Nat.pow_le_pow_right (by decide) h
 exact this
theorem Whole.len {s : SgV} (h : Whole s) : s.ns.length = 2 * hH s.t := by rw [h.ns]; exact ndL_len _ _ _ _ _
theorem Whole.lv {s : SgV} (h : Whole s) : lvN s = hH s.t := by unfold lvN; rw [h.len]; omega
theorem Whole.ok {s : SgV} (h : Whole s) : okSg s = true := by
 have h1 := hH_ge h.t
 have h2 := hH_le h.t10
 have h3 := h.len
 refine okSg_iff.2 ⟨h.id, h.sd, ?_, by omega, by omega, by omega, h.ld⟩
 rw [h.ns]
 exact ndL_32 _ _ _ _ _
theorem Whole.pn {s : SgV} (h : Whole s) {q : Nat} (hq : q < hH s.t) : pathN s q = hT s.t.toNat := by
 have h1 := hH_ge h.t
 have e : hH s.t = 2 ^ hT s.t.toNat := rfl
 unfold pathN
 rw [h.lv]
 refine (Nat.log2_eq_iff (by omega)).2 ⟨by omega, ?_⟩
 rw [Nat.pow_succ]; omega
theorem numS_front (x : BitVec 32) (l : List (BitVec 8)) : numS (wordB x ++ l) = x := by
 rw [← numS_take _ 4 (by decide)]
 show numS (wordB x) = x
 exact numS_wordB x
section
variable {s : SgV} (h : Whole s) {q : BitVec 32} (hq : q.toNat < hH s.t) (c m : List (BitVec 8)) (hc : c.length = 32)
theorem sf_q : lqS (sigF s q c m) = q := by
 rw [lqS, sigF]
 simp only [List.append_assoc]
 exact numS_front _ _
theorem sf_4 : (sigF s q c m).drop 4 = signS s.o ⟨s.id, q⟩ s.seed c m ++ (wordB s.t ++ (pathG s q.toNat).flatten) := by
 rw [sigF]
 simp only [List.append_assoc]
 rfl
theorem sf_o : loS (sigF s q c m) = s.o := by
 rw [loS, sf_4, signS]
 simp only [List.append_assoc]
 exact numS_front _ _
theorem sf_p : lpS (sigF s q c m) = pT s.o.toNat := by rw [lpS, sf_o]
include hc
theorem sf_40 : (sigF s q c m).drop (40 + 32 * pT s.o.toNat) = wordB s.t ++ (pathG s q.toNat).flatten := by
 have hl := signS_len s.o ⟨s.id, q⟩ s.seed c m hc
 rw [show 40 + 32 * pT s.o.toNat = 4 + (signS s.o ⟨s.id, q⟩ s.seed c m).length by omega, ← List.drop_drop, sf_4, List.drop_left]
theorem sf_one : oneS (sigF s q c m) = signS s.o ⟨s.id, q⟩ s.seed c m := by
 have hl := signS_len s.o ⟨s.id, q⟩ s.seed c m hc
 rw [oneS, sf_p, sf_4, ← hl, List.take_left]
theorem sf_t : ltS (sigF s q c m) = s.t := by rw [ltS, sf_p, sf_40 c m hc]; exact numS_front _ _
theorem sf_h : lhS (sigF s q c m) = hT s.t.toNat := by rw [lhS, sf_t c m hc]
include h hq
theorem sf_path : pathS (sigF s q c m) (hT s.t.toNat) = pathG s q.toNat := by
 have hl := pathG_len s q.toNat
 have hn := h.pn hq
 refine List.ext_getElem (by rw [pathS_len, hl, hn]) fun i h1 h2 => ?_
 have e : (pathS (sigF s q c m) (hT s.t.toNat))[i] = pcS (sigF s q c m) i := by simp [pathS]
 have e44 : (sigF s q c m).drop (44 + 32 * pT s.o.toNat) = (pathG s q.toNat).flatten := by
  rw [show 44 + 32 * pT s.o.toNat = (40 + 32 * pT s.o.toNat) + 4 by omega, ← List.drop_drop, sf_40 c m hc]
  rfl
 rw [e, pcS, sf_p, ← List.drop_drop, e44]
 exact flat_chunk (pathG_32 h.ok (by rw [h.lv]; exact hq)) i h2
theorem sf_E : partsE (sigF s q c m) = 0 := by
 have hl := sigF_len h.ok (by rw [h.lv]; exact hq) c m hc
 rw [h.pn hq] at hl
 have hsh : q.toNat >>> hT s.t.toNat = 0 := by rw [Nat.shiftRight_eq_div_pow]; exact Nat.div_eq_of_lt hq
 have h1 := okH_pos h.t
 unfold partsE
 rw [sf_o, sf_p, sf_t c m hc, sf_h c m hc, sf_q, if_neg (by omega), if_neg (by rw [h.o]; decide), if_neg (by omega), if_neg (by rw [h.t]; decide), if_neg]
 rintro (e | e)
 ·exact e hl
 ·exact e hsh
end
theorem shr_nat (r : BitVec 32) (i : Nat) : (r >>> i).toNat = r.toNat / 2 ^ i := by simp [Nat.shiftRight_eq_div_pow]
theorem q_top {t : BitVec 32} (ht : hT t.toNat ≤ 10) {q : BitVec 32} (hq : q.toNat < hH t) : (q + 1#32 <<< hT t.toNat).toNat = hH t + q.toNat := by
 have h2 := hH_le ht
 have e : (1#32 <<< hT t.toNat).toNat = hH t := by
  rw [BitVec.toNat_shiftLeft, Nat.shiftLeft_eq]
  show 1 * hH t % 4294967296 = hH t
  omega
 rw [BitVec.toNat_add, e]
 omega
theorem ofNat_to (x : BitVec 32) (n : Nat) (h : x.toNat = n) : BitVec.ofNat 32 n = x := by
 rw [← h]; simp
theorem dI_nodes {s : SgV} (h : Whole s) {q : BitVec 32} (hq : q.toNat < hH s.t) {x : List (BitVec 8)} (hx : x = s.ns.getD (hH s.t + q.toNat) []) :
  ∀ i, i ≤ hT s.t.toNat → dI s.id (q + 1#32 <<< hT s.t.toNat) x (pathG s q.toNat) i = s.ns.getD ((hH s.t + q.toNat) / 2 ^ i) []
 | 0, _ => by rw [dI, hx, Nat.pow_zero, Nat.div_one]
 | i + 1, hi => by
  have ih := dI_nodes h hq hx i (by omega)
  have hHe : hH s.t = 2 ^ hT s.t.toNat := rfl
  have ht := q_top h.t10 hq
  have hr : ((q + 1#32 <<< hT s.t.toNat) >>> i).toNat = (hH s.t + q.toNat) / 2 ^ i := by rw [shr_nat, ht]
  have hr1 : (((q + 1#32 <<< hT s.t.toNat) >>> i) >>> 1).toNat = (hH s.t + q.toNat) / 2 ^ i / 2 := by rw [shr_nat, hr]
  have hge : 2 ≤ (hH s.t + q.toNat) / 2 ^ i := by
   rw [Nat.le_div_iff_mul_le (Nat.two_pow_pos i)]
   have : 2 ^ (i + 1) ≤ 2 ^ hT s.t.toNat := Nat.pow_le_pow_right (by decide) hi
   rw [Nat.pow_succ] at this
   omega
  have hle : (hH s.t + q.toNat) / 2 ^ i < 2 * hH s.t := Nat.lt_of_le_of_lt (Nat.div_le_self _ _) (by omega)
  have hp : (pathG s q.toNat).getD i [] = s.ns.getD ((hH s.t + q.toNat) / 2 ^ i ^^^ 1) [] := by
   have hl := pathG_len s q.toNat
   have hn := h.pn hq
   have : i < (pathG s q.toNat).length := by omega
   simp only [List.getD, List.getElem?_eq_getElem this, Option.getD_some]
   simp [pathG, pathAt, h.lv, List.getD]
  have hd : (hH s.t + q.toNat) / 2 ^ (i + 1) = (hH s.t + q.toNat) / 2 ^ i / 2 := by rw [Nat.pow_succ, Nat.div_div_eq_div_mul]
  rw [dI, ih, hp, hd]
  generalize (hH s.t + q.toNat) / 2 ^ i = r at *
  have hnd := nodes_node s.o s.id s.seed (hH s.t) (r / 2) (by omega) (by omega)
  rw [← h.ns, ofNat_to _ _ hr1] at hnd
  rw [hnd]
  unfold stepC
  have hx1 := xor1 r
  have hb : ((q + 1#32 <<< hT s.t.toNat) >>> i &&& 1#32 = 1#32) = (r % 2 = 1) := by
   rw [← and1]
   apply propext
   constructor
   ·intro e
    have := congrArg BitVec.toNat e
    rw [BitVec.toNat_umod, hr] at this
    exact this
   ·intro e
    apply BitVec.eq_of_toNat_eq
    rw [BitVec.toNat_umod, hr]
    exact e
  by_cases c : r % 2 = 1
  ·rw [if_pos (by rw [hb]; exact c)]
   rw [if_neg (by omega)] at hx1
   rw [hx1, show 2 * (r / 2) = r - 1 by omega, show r - 1 + 1 = r by omega]
  ·rw [if_neg (by rw [hb]; exact c)]
   rw [if_pos (by omega)] at hx1
   rw [hx1, show 2 * (r / 2) = r by omega]
theorem leaf_at {s : SgV} (h : Whole s) {q : BitVec 32} (hq : q.toNat < hH s.t) : leafS s.id (q + 1#32 <<< hT s.t.toNat) (pubS s.o.toNat ⟨s.id, q⟩ s.seed) = s.ns.getD (hH s.t + q.toNat) [] := by
 have h1 := hH_ge h.t
 rw [h.ns, nodes_leaf _ _ _ _ _ (by omega) (by omega), lfS, ofNat_to _ _ (q_top h.t10 hq), show hH s.t + q.toNat - hH s.t = q.toNat by omega]
 simp
theorem climb_root {s : SgV} (h : Whole s) {q : BitVec 32} (hq : q.toNat < hH s.t) : climbS s.id q (leafS s.id (q + 1#32 <<< hT s.t.toNat) (pubS s.o.toNat ⟨s.id, q⟩ s.seed)) (pathG s q.toNat) = s.ns.getD 1 [] := by
 have e := dI_nodes h hq (leaf_at h hq) (hT s.t.toNat) (Nat.le_refl _)
 have hl := pathG_len s q.toNat
 rw [h.pn hq] at hl
 rw [climbS, hl, e]
 have h1 : hH s.t = 2 ^ hT s.t.toNat := rfl
 rw [show (hH s.t + q.toNat) / 2 ^ hT s.t.toNat = 1 by rw [← h1]; exact Nat.div_eq_of_lt_le (by omega) (by omega)]
theorem pub_t (s : SgV) : numS (pubSg s) = s.t := by
 rw [pubSg]; simp only [List.append_assoc]; exact numS_front _ _
theorem pub_o (s : SgV) : numS ((pubSg s).drop 4) = s.o := by
 rw [pubSg]; simp only [List.append_assoc]; exact numS_front s.o (s.id ++ s.ns.getD 1 [])
theorem pub_8 (s : SgV) : (pubSg s).drop 8 = s.id ++ s.ns.getD 1 [] := by
 rw [pubSg]; simp only [List.append_assoc]; rfl
theorem pub_id {s : SgV} (h : s.id.length = 16) : ((pubSg s).drop 8).take 16 = s.id := by
 rw [pub_8, ← h, List.take_left]
theorem pub_root {s : SgV} (h : s.id.length = 16) : (pubSg s).drop 24 = s.ns.getD 1 [] := by
 rw [show 24 = 8 + s.id.length by omega, ← List.drop_drop, pub_8, List.drop_left]
theorem pub_read {s : SgV} (h : Whole s) : readS (pubSg s) = (⟨s.t, s.o, s.id, s.ns.getD 1 []⟩, 0) := by
 unfold readS
 simp only [pubSg_len h.ok, pub_t, pub_o, h.t, h.o, decide_true, Bool.and_true, cond_true, keyOf, pub_id h.id, pub_root h.id]
theorem rt_any {s z : SgV} (h : Whole s) (hz : Whole z) (ht : z.t = s.t) (ho : z.o = s.o) (hi : z.id = s.id) {q : BitVec 32} (hq : q.toNat < hH s.t) (c m m2 : List (BitVec 8)) (hc : c.length = 32) : rtE (pubSg z) (sigF s q c m) = 0 ∧
  rtS (pubSg z) m2 (sigF s q c m) = climbS s.id q (leafS s.id (q + 1#32 <<< hT s.t.toNat) (claimS ⟨s.id, q⟩ (signS s.o ⟨s.id, q⟩ s.seed c m) m2)) (pathG s q.toNat) := by
 constructor
 ·rw [rtE, pub_read hz, sf_E h hq c m hc, sf_t c m hc, sf_o]
  simp [ht, ho]
 ·rw [rtS, pub_read hz, sf_q, sf_h c m hc, sf_one c m hc, sf_path h hq c m hc]
  simp only [hi]
theorem rt_own {s z : SgV} (h : Whole s) (hz : Whole z) (ht : z.t = s.t) (ho : z.o = s.o) (hi : z.id = s.id) {q : BitVec 32} (hq : q.toNat < hH s.t) (c m : List (BitVec 8)) (hc : c.length = 32) : rtS (pubSg z) m (sigF s q c m) = s.ns.getD 1 [] := by
 rw [(rt_any h hz ht ho hi hq c m m hc).2, claim_sign s.o ⟨s.id, q⟩ s.seed c m hc h.o]
 exact climb_root h hq
theorem ver_own {s z : SgV} (h : Whole s) (hz : Whole z) (ht : z.t = s.t) (ho : z.o = s.o) (hi : z.id = s.id) {q : BitVec 32} (hq : q.toNat < hH s.t) (c m : List (BitVec 8)) (hc : c.length = 32) : verE (pubSg z) m (sigF s q c m) = if s.ns.getD 1 [] = z.ns.getD 1 [] then 0 else 5 := by
 rw [verE, (rt_any h hz ht ho hi hq c m m hc).1, rt_own h hz ht ho hi hq c m hc, pub_read hz]
 simp
end Job
end Go.Am
namespace Go.Am
set_option linter.unusedSimpArgs false
set_option linter.unusedVariables false
attribute [local congr] bnd_congr kCond_congr kGd_congr kPick_congr kCall_congr kIdx_congr kSlice_congr kLoop_congr cond_congr' aBin_congr aBounds_congr aApp_congr aCopy_congr kFn_congr
namespace Job
open Go.Am.F
set_option maxRecDepth 10000
def layK (h : BitVec 8) : Nat := 1 + h.toNat % 2
def layT (h : BitVec 8) : BitVec 32 := BitVec.ofNat 32 (3758096384 + layK h)
def layO (t : BitVec 8) : BitVec 32 := if t.toNat % 3 = 2 then 2#32 else 3#32
theorem layT_eq (h : BitVec 8) : (layT h).toNat = 3758096384 + layK h := by
 unfold layT layK
 rw [BitVec.toNat_ofNat]
 omega
theorem layT_ok (h : BitVec 8) : okH (layT h).toNat = true := by
 rw [layT_eq, okH]
 unfold layK
 simp only [decide_eq_true_eq]
 omega
theorem layT_h (h : BitVec 8) : hT (layT h).toNat = layK h := by
 rw [layT_eq, hT]
 unfold layK
 rw [if_neg (by omega), if_pos (by omega)]
 omega
theorem layO_ok (t : BitVec 8) : okT (layO t).toNat = true := by
 unfold layO; split <;> decide
theorem layK_le (h : BitVec 8) : layK h = 1 ∨ layK h = 2 := by unfold layK; omega
theorem layH (h : BitVec 8) : hH (layT h) = 2 ^ layK h := by rw [hH, layT_h]
abbrev layS (h t : BitVec 8) (id seed : List (BitVec 8)) : Sg := sgNew (layT h) (layO t) id seed (nodesL (layO t) id seed (hH (layT h)))
theorem lay_whole {R : Rows} {L : At4} {h t : BitVec 8} {id seed : List (BitVec 8)} (hS : Sgn R L (layS h t id seed)) (hid : id.length = 16) (hsd : seed.length = 32) : Whole ((layS h t id seed).v L) :=
 ⟨layT_ok h, by show hT (layT h).toNat ≤ 10; rw [layT_h]; unfold layK; omega, layO_ok t, hid, hsd, rfl, Sg.ld_noref hS⟩
theorem lay_run (C CT : Ctx) (hN : LmC CT) (n1 : C.fn 24 = none) (r1 : C.fnr 24 = some (afun CT 4 r_lms_New a_lms_New)) {rows : Rows} {h t : BitVec 8} {id seed : List (BitVec 8)} (hid : id.length = 16) (hsd : seed.length = 32) {K : D → Rows → Prop}
  (hk : ∀ rows' L, Sgn rows' L (layS h t id seed) → KeptL rows rows' → rows.length ≤ L.r → rows.length ≤ L.nr → rows.length ≤ L.ms → rows.length ≤ L.mt → L.dl = .raw (.slice none 0 0) → K (.tup [.ptr SSig L.r [0], .raw (it (layK h : Int)), .raw (u32 (layO t))]) rows') :
  afun C 4 r_law06_lay a_law06_lay [.raw (u8 h), .raw (u8 t), .agg (.ar 16 L8) (bs id), .agg (.ar 32 L8) (bs seed)] rows K := by
 refine afun_mk rfl ?_
 unfold a_law06_lay r_law06_lay
 have e1 : (h % 2#8 = 0#8 ∧ layK h = 1) ∨ (h % 2#8 = 1#8 ∧ layK h = 2) := by
  unfold layK
  rcases Nat.mod_two_eq_zero_or_one h.toNat with e | e
  ·exact .inl ⟨BitVec.eq_of_toNat_eq (by rw [BitVec.toNat_umod]; exact e), by omega⟩
  ·exact .inr ⟨BitVec.eq_of_toNat_eq (by rw [BitVec.toNat_umod]; exact e), by omega⟩
 have e2 : (t % 3#8 = 0#8 ∧ layO t = 3#32) ∨ (t % 3#8 = 1#8 ∧ layO t = 3#32) ∨ (t % 3#8 = 2#8 ∧ layO t = 2#32) := by
  unfold layO
  have : t.toNat % 3 = 0 ∨ t.toNat % 3 = 1 ∨ t.toNat % 3 = 2 := by omega
  rcases this with e | e | e
  ·exact .inl ⟨BitVec.eq_of_toNat_eq (by rw [BitVec.toNat_umod]; exact e), if_neg (by omega)⟩
  ·exact .inr (.inl ⟨BitVec.eq_of_toNat_eq (by rw [BitVec.toNat_umod]; exact e), if_neg (by omega)⟩)
  ·exact .inr (.inr ⟨BitVec.eq_of_toNat_eq (by rw [BitVec.toNat_umod]; exact e), if_pos e⟩)
 have hT10 : hT (layT h).toNat ≤ 10 := by rw [layT_h]; unfold layK; omega
 have hlT : layT h = BitVec.ofNat 32 (3758096384 + layK h) := rfl
 have key := fun (R : Rows) (K' : D → Rows → Prop) => newL_run CT hN (rows := R) (K := K') (layT_ok h) hT10 (layO_ok t) hid hsd
 simp only [layS] at hk
 rcases e1 with ⟨a1, a2⟩ | ⟨a1, a2⟩ <;> rcases e2 with ⟨b1, b2⟩ | ⟨b1, b2⟩ | ⟨b1, b2⟩ <;>
  (rw [hlT, a2, b2] at key
   rw [hlT, a2, b2] at hk
   simp only [↓amD, amU, simprocAttr, zipEnv, amR, a1, b1, n1, r1]
   refine key _ _ ?_
   intro R1 L hS hK l1 l2 l3 l4 hd
   simp only [↓amD, amU, simprocAttr, zipEnv, amR]
   refine hk _ L hS ((KeptL.app _ _).trans hK) ?_ ?_ ?_ ?_ hd
   all_goals simp only [List.length_append] at l1 l2 l3 l4; omega)
end Job
end Go.Am
