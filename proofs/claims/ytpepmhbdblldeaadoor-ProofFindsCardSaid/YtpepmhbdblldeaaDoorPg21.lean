import Derived.Test.YtpepmhbdblldeaaDoorPg20
namespace Go.Am
set_option linter.unusedSimpArgs false
set_option linter.unusedVariables false
attribute [local congr] bnd_congr kCond_congr kGd_congr kPick_congr kCall_congr kIdx_congr kSlice_congr kLoop_congr cond_congr' aBin_congr aBounds_congr aApp_congr aCopy_congr kFn_congr
namespace Job
open Go.Am.F
set_option maxRecDepth 10000
def KeptL (rows rows' : Rows) : Prop := ∀ q row, live rows q = some row → live rows' q = some row
theorem KeptL.refl (rows : Rows) : KeptL rows rows := fun _ _ h => h
theorem KeptL.app (rows L : Rows) : KeptL rows (rows ++ L) := fun _ _ h => live_push h
theorem KeptL.trans {a b c : Rows} (h : KeptL a b) (h' : KeptL b c) : KeptL a c := fun q row hq => h' q row (h q row hq)
theorem KeptL.set {rows rs : Rows} (h : KeptL rows rs) {q : Nat} (hq : rows.length ≤ q) (x : Option Row) : KeptL rows (rs.set q x) := fun p row hp => by
 have := live_lt hp
 rw [live_set_ne (by omega)]
 exact h p row hp
structure Sg where
 t : BitVec 32
 o : BitVec 32
 id : List (BitVec 8)
 seed : List (BitVec 8)
 ns : List (List (BitVec 8))
 nx : BitVec 32
 sm : List D
 tm : List D
 last : List (List (BitVec 8) × List (BitVec 8))
structure At4 where
 r : Nat
 nr : Nat
 ms : Nat
 mt : Nat
 ne : Bool
 dl : D
def letD (x : List (BitVec 8) × List (BitVec 8)) : D := .agg SLet [.raw (.string (msgV x.1)), .agg (.ar 32 L8) (bs x.2)]
def sgR (L : At4) (s : Sg) : D := .agg SSig [.raw (u32 s.t), .raw (u32 s.o), .agg (.ar 16 L8) (bs s.id), .agg (.ar 32 L8) (bs s.seed), .sl (.ar 32 L8) L.nr [] 0 s.ns.length L.ne, .raw (u32 s.nx), .mp L.ms, .mp L.mt, L.dl]
structure Sgn (rows : Rows) (L : At4) (s : Sg) : Prop where
 a : live rows L.r = some ⟨SSig, [sgR L s]⟩
 n : live rows L.nr = some ⟨.ar 32 L8, s.ns.map d32D⟩
 m : live rows L.ms = some ⟨MSgn, s.sm⟩
 t : live rows L.mt = some ⟨MTold, s.tm⟩
 l : Own SLet L.dl rows (s.last.map letD)
def ldV (L : At4) (s : Sg) : D := match L.dl with
 | .sl _ _ _ _ _ ex => .lst SLet (s.last.map letD) ex
 | d => d
def Sg.v (s : Sg) (L : At4) : SgV := ⟨s.t, s.o, s.id, s.seed, s.ns, L.ne, s.nx, s.sm, s.tm, ldV L s⟩
theorem Sgn.keep {rows rows' : Rows} {L : At4} {s : Sg} (h : Sgn rows L s) (hk : KeptL rows rows') : Sgn rows' L s := by
 refine ⟨hk _ _ h.a, hk _ _ h.n, hk _ _ h.m, hk _ _ h.t, ?_⟩
 rcases h.l with h | ⟨r, ex, e, hl⟩
 ·exact .inl h
 ·exact .inr ⟨r, ex, e, hk _ _ hl⟩
theorem Sgn.push {rows : Rows} {L : At4} {s : Sg} (h : Sgn rows L s) (more : Rows) : Sgn (rows ++ more) L s := h.keep (KeptL.app _ _)
theorem Sgn.vw {rows : Rows} {L : At4} {s : Sg} (h : Sgn rows L s) (n : Nat) : view rows (n + 4) (.ptr SSig L.r [0]) = some (sgV (s.v L)) := by
 have en : elems rows (.sl (.ar 32 L8) L.nr [] 0 s.ns.length L.ne) = some (s.ns.map d32D) := by
  simp only [elems, h.n]
  simp [List.take_of_length_le]
 have hm : live rows L.ms = some ⟨MSgn, s.sm⟩ := h.m
 have ht : live rows L.mt = some ⟨MTold, s.tm⟩ := h.t
 have hv : view rows (n + 2) L.dl = some (ldV L s) := by
  rcases h.l with ⟨e2, e⟩ | ⟨r, ex, e, hl⟩
  ·rw [ldV, e]; rfl
  ·have hll : (s.last.map letD).length = s.last.length := List.length_map _
   have el : elems rows (.sl SLet r [] 0 s.last.length ex) = some (s.last.map letD) := by
    simp only [elems, hl]
    simp [List.take_of_length_le]
   rw [ldV, e, hll]
   simp [view, el, Sh.pure]
 have h7 : view rows (n + 3) (sgR L s) = some (.agg SSig [.raw (u32 s.t), .raw (u32 s.o), .agg (.ar 16 L8) (bs s.id), .agg (.ar 32 L8) (bs s.seed), .lst (.ar 32 L8) (s.ns.map d32D) L.ne, .raw (u32 s.nx), .om MSgn s.sm, .om MTold s.tm, ldV L s]) := by
  unfold sgR
  rw [vw_agg]
  simp [Sh.pure, view, mapO, en, hm, ht, hv]
 rw [vw_ptr, h.a]
 have hg : rowGet [sgR L s] [0] = some (sgR L s) := rfl
 simp only [Option.bind_some, hg, h7]
 rfl
theorem Sgn.rd {rows : Rows} {L : At4} {s : Sg} (h : Sgn rows L s) : RdIn rows (rdOf sgV) (.ptr SSig L.r [0]) (s.v L) :=
 ⟨⟨sgV (s.v L), h.vw 5, rdOf_eq sgV_inj _⟩, fun h => by simp [hasRef] at h⟩
theorem Sg.ld_noref {L : At4} {s : Sg} {rows : Rows} (h : Sgn rows L s) : hasRef (ldV L s) = false := by
 rcases h.l with ⟨e2, e⟩ | ⟨r, ex, e, hl⟩
 ·rw [ldV, e]; rfl
 ·rw [ldV, e]; rfl
def lfS (o : BitVec 32) (id seed : List (BitVec 8)) (H r : Nat) : List (BitVec 8) := leafS id (BitVec.ofNat 32 r) (pubS o.toNat ⟨id, BitVec.ofNat 32 (r - H)⟩ seed)
def ndV (o : BitVec 32) (id seed : List (BitVec 8)) (H : Nat) (N : List (List (BitVec 8))) (r : Nat) : List (BitVec 8) := if H ≤ r then lfS o id seed H r else nodeS id (BitVec.ofNat 32 r) (N.getD (2 * r) []) (N.getD (2 * r + 1) [])
def ndL (o : BitVec 32) (id seed : List (BitVec 8)) (H : Nat) : Nat → List (List (BitVec 8))
 | 0 => List.replicate (2 * H) z32
 | k + 1 => (ndL o id seed H k).set (2 * H - 1 - k) (ndV o id seed H (ndL o id seed H k) (2 * H - 1 - k))
def nodesL (o : BitVec 32) (id seed : List (BitVec 8)) (H : Nat) : List (List (BitVec 8)) := ndL o id seed H (2 * H - 1)
section
variable (o : BitVec 32) (id seed : List (BitVec 8)) (H : Nat)
theorem ndL_len : ∀ k, (ndL o id seed H k).length = 2 * H
 | 0 => by simp [ndL]
 | k + 1 => by simp [ndL, ndL_len k]
theorem ndV_len (N : List (List (BitVec 8))) (r : Nat) : (ndV o id seed H N r).length = 32 := by
 unfold ndV
 split
 ·exact leafS_len _ _ _
 ·exact nodeS_len _ _ _ _
theorem ndL_32 : ∀ k, ∀ x ∈ ndL o id seed H k, x.length = 32
 | 0, x, hx => by rw [List.eq_of_mem_replicate hx]; rfl
 | k + 1, x, hx => by
  rcases List.mem_or_eq_of_mem_set hx with h | rfl
  ·exact ndL_32 k x h
  ·exact ndV_len _ _ _ _ _ _
theorem ndL_stay (k : Nat) : ∀ m j, 1 ≤ j → 2 * H - k ≤ j → (ndL o id seed H (k + m)).getD j [] = (ndL o id seed H k).getD j []
 | 0, j, _, _ => rfl
 | m + 1, j, h0, h => by
  have ih := ndL_stay k m j h0 h
  rw [show k + (m + 1) = (k + m) + 1 from rfl, ndL]
  by_cases hlt : j < 2 * H
  ·rw [← ih]
   have hne : 2 * H - 1 - (k + m) ≠ j := by omega
   simp only [List.getD, List.getElem?_set_ne hne]
  ·rw [← ih]
   have h1 : (ndL o id seed H (k + m)).length ≤ j := by rw [ndL_len]; omega
   simp only [List.getD]
   rw [List.getElem?_eq_none (by rw [List.length_set]; exact h1), List.getElem?_eq_none h1]
theorem nodes_at (r : Nat) (h1 : 1 ≤ r) (h2 : r < 2 * H) : (nodesL o id seed H).getD r [] = ndV o id seed H (nodesL o id seed H) r := by
 obtain ⟨k, hk⟩ : ∃ k, r = 2 * H - 1 - k := ⟨2 * H - 1 - r, by omega⟩
 have e1 : (nodesL o id seed H).getD r [] = (ndL o id seed H (k + 1)).getD r [] := by
  have := ndL_stay o id seed H (k + 1) (2 * H - 1 - (k + 1)) r (by omega) (by omega)
  rw [show k + 1 + (2 * H - 1 - (k + 1)) = 2 * H - 1 by omega] at this
  exact this
 have hl := ndL_len o id seed H k
 rw [e1, ndL, ← hk]
 have e2 : ((ndL o id seed H k).set r (ndV o id seed H (ndL o id seed H k) r)).getD r [] = ndV o id seed H (ndL o id seed H k) r := by
  simp [List.getD, hl, h2]
 rw [e2]
 unfold ndV
 by_cases hH : H ≤ r
 ·rw [if_pos hH, if_pos hH]
 ·rw [if_neg hH, if_neg hH]
  have st := fun j (h0 : 1 ≤ j) (hj : 2 * H - k ≤ j) => by
   have := ndL_stay o id seed H k (2 * H - 1 - k) j h0 hj
   rw [show k + (2 * H - 1 - k) = 2 * H - 1 by omega] at this
   exact this
  show nodeS _ _ _ _ = nodeS _ _ ((nodesL o id seed H).getD (2 * r) []) ((nodesL o id seed H).getD (2 * r + 1) [])
  rw [nodesL, st (2 * r) (by omega) (by omega), st (2 * r + 1) (by omega) (by omega)]
theorem nodes_leaf (r : Nat) (h1 : H ≤ r) (h2 : r < 2 * H) : (nodesL o id seed H).getD r [] = lfS o id seed H r := by
 rw [nodes_at o id seed H r (by omega) h2, ndV, if_pos h1]
theorem nodes_node (r : Nat) (h1 : 1 ≤ r) (h2 : r < H) : (nodesL o id seed H).getD r [] = nodeS id (BitVec.ofNat 32 r) ((nodesL o id seed H).getD (2 * r) []) ((nodesL o id seed H).getD (2 * r + 1) []) := by
 rw [nodes_at o id seed H r h1 (by omega), ndV, if_neg (by omega)]
end
structure LmC (C : Ctx) : Prop where
 hei : C.fn 45 = some fHeight
 par : C.fn 40 = some fParams
 lvs : C.fn 24 = some fLeaves
 sit : C.fn 26 = some fSite
 pub : C.fn 33 = some fPublic
 lea : C.fn 46 = some fLeaf
 nod : C.fn 47 = some fNode
def sgNew (t o : BitVec 32) (id seed : List (BitVec 8)) (N : List (List (BitVec 8))) : Sg := ⟨t, o, id, seed, N, 0#32, [], [], []⟩
def hH (t : BitVec 32) : Nat := 2 ^ hT t.toNat
theorem okSg_of {rows : Rows} {L : At4} {s : Sg} (h : Sgn rows L s) (h1 : s.id.length = 16) (h2 : s.seed.length = 32) (h3 : ∀ x ∈ s.ns, x.length = 32) (h4 : 4 ≤ s.ns.length) (h5 : s.ns.length ≤ 2048) (h6 : s.ns.length % 2 = 0) : okSg (s.v L) = true :=
 okSg_iff.2 ⟨h1, h2, h3, h4, h5, h6, Sg.ld_noref h⟩
theorem ne_sh {rows : Rows} {a b : Nat} {s s' : Sh} {l l' : List D} (h : live rows a = some ⟨s, l⟩) (h' : live rows b = some ⟨s', l'⟩) (hs : s ≠ s') : a ≠ b := by
 rintro rfl
 rw [h] at h'
 injection h' with h'
 injection h' with h' _
 exact hs h'
theorem Sgn.setNs {rows : Rows} {L : At4} {s : Sg} (h : Sgn rows L s) {N : List (List (BitVec 8))} (hN : N.length = s.ns.length) : Sgn (rows.set L.nr (some ⟨.ar 32 L8, N.map d32D⟩)) L { s with ns := N } := by
 have n1 := ne_sh h.n h.a (by decide)
 have n2 := ne_sh h.n h.m (by decide)
 have n3 := ne_sh h.n h.t (by decide)
 refine ⟨?_, live_set_eq h.n, ?_, ?_, ?_⟩
 ·rw [live_set_ne n1, h.a]; simp only [sgR, hN]
 ·rw [live_set_ne n2]; exact h.m
 ·rw [live_set_ne n3]; exact h.t
 ·rcases h.l with e | ⟨r, ex, e, hl⟩
  ·exact .inl e
  ·have n4 := ne_sh h.n hl (by decide)
   exact .inr ⟨r, ex, e, by rw [live_set_ne n4]; exact hl⟩
set_option maxHeartbeats 4000000 in
theorem newL_run (C : Ctx) (h : LmC C) {rows : Rows} {t o : BitVec 32} {id seed : List (BitVec 8)} (ht : okH t.toNat = true) (ht2 : hT t.toNat ≤ 10) (ho : okT o.toNat = true) (hid : id.length = 16) (hsd : seed.length = 32) {K : D → Rows → Prop}
  (hk : ∀ rows' L, Sgn rows' L (sgNew t o id seed (nodesL o id seed (hH t))) → KeptL rows rows' → rows.length ≤ L.r → rows.length ≤ L.nr → rows.length ≤ L.ms → rows.length ≤ L.mt → L.dl = .raw (.slice none 0 0) → K (.tup [.ptr SSig L.r [0], .raw (it 0)]) rows') :
  afun C 4 r_lms_New a_lms_New [.raw (u32 t), .raw (u32 o), .agg (.ar 16 L8) (bs id), .agg (.ar 32 L8) (bs seed)] rows K := by
 refine afun_mk rfl ?_
 unfold a_lms_New r_lms_New
 have hz : D.agg SPar [.raw (it 0), .raw (it 0), .raw (it 0)] = parD ⟨0, 0, 0⟩ := rfl
 have h1 := okH_pos ht
 have b0 : ∀ n : Nat, ((0 : Int) ≤ (n : Int)) = True := fun n => eq_true (by omega)
 have c1 : ((10 : Int) < ((hT t.toNat : Nat) : Int)) = False := eq_false (by omega)
 have hs2 := shl_it 2 (hT t.toNat) (by decide) (by omega)
 rw [show ((2 : Nat) : Int) = 2 from rfl] at hs2
 have hHd : 2 ^ hT t.toNat = hH t := rfl
 have hH2 : 2 ≤ hH t := by
  have : 2 ^ 1 ≤ 2 ^ hT t.toNat := Nat.pow_le_pow_right (by decide) h1
  exact this
 have hH10 : hH t ≤ 1024 := by
  have : 2 ^ hT t.toNat ≤ 2 ^ 10 := Nat.pow_le_pow_right (by decide) ht2
  exact this
 rw [hHd] at hs2
 simp only [hz, z32_eq]
 simp only [↓amD, amU, simprocAttr, zipEnv, amR, h.hei, kHeight, h.par, kParams, par_fits, ht, ho, c1, hs2, b0, Bool.not_true]
 have z1 : wz (((2 * hH t : Nat) : Int) - 1) = ((2 * hH t - 1 : Nat) : Int) := by rw [wz_id (by omega)]; omega
 refine ⟨by omega, by omega, ?_⟩
 rw [z1]
 generalize hHh : hH t = H at *
 obtain ⟨L, lr, ln, lm, lt, le, ld⟩ : ∃ L : At4, L.r = rows.length + 6 ∧ L.nr = rows.length + 3 ∧ L.ms = rows.length + 4 ∧ L.mt = rows.length + 5 ∧ L.ne = true ∧ L.dl = .raw (.slice none 0 0) := ⟨⟨_, _, _, _, _, _⟩, rfl, rfl, rfl, rfl, rfl, rfl⟩
 have hz32 : List.replicate (2 * H) (D.agg (.ar 32 L8) (bs z32)) = (ndL o id seed H 0).map d32D := by simp [ndL, d32D]
 rw [hz32]
 have hnl := ndL_len o id seed H
 have hn32 := ndL_32 o id seed H
 refine kLoop_up (2 * H - 1) (fun k env rs => has env [(15, .raw (it ((2 * H - 1 - k : Nat) : Int))), (14, .ptr SSig L.r [0]), (7, .ptr (.ar 32 L8) (rows.length + 1) [0]), (6, .ptr (.ar 16 L8) rows.length [0]), (1, .raw (u32 o))] ∧
  Sgn rs L (sgNew t o id seed (ndL o id seed H k)) ∧ KeptL rows rs ∧ live rs rows.length = some ⟨.ar 16 L8, [.agg (.ar 16 L8) (bs id)]⟩ ∧ live rs (rows.length + 1) = some ⟨.ar 32 L8, [.agg (.ar 32 L8) (bs seed)]⟩) ?_ ?_ ⟨?_, ⟨?_, ?_, ?_, ?_, .inl ⟨rfl, ld⟩⟩, KeptL.app _ _, ?_, ?_⟩
 ·rintro k hk2 env rs ⟨hw, hS, hK, r0, r1⟩ R hR
  simp only [has] at hw
  have hok : okSg ((sgNew t o id seed (ndL o id seed H k)).v L) = true := okSg_of hS hid hsd (hn32 k) (by show 4 ≤ (ndL o id seed H k).length; rw [hnl]; omega) (by show (ndL o id seed H k).length ≤ 2048; rw [hnl]; omega) (by show (ndL o id seed H k).length % 2 = 0; rw [hnl]; omega)
  have hlv : lvN ((sgNew t o id seed (ndL o id seed H k)).v L) = H := by show (ndL o id seed H k).length / 2 = H; rw [hnl]; omega
  have kLv := fun k' => kLeavesV rs k' _ _ hS.rd hok
  have kSt := fun q k' => kSiteV rs k' _ _ q hS.rd hok
  rw [hlv] at kLv
  have hSa := hS.a
  have hSn := hS.n
  have hsgR : sgR L (sgNew t o id seed (ndL o id seed H k)) = .agg SSig [.raw (u32 t), .raw (u32 o), .agg (.ar 16 L8) (bs id), .agg (.ar 32 L8) (bs seed), .sl (.ar 32 L8) L.nr [] 0 (2 * H) true, .raw (u32 0#32), .mp L.ms, .mp L.mt, .raw (.slice none 0 0)] := by
   show D.agg SSig [.raw (u32 t), .raw (u32 o), .agg (.ar 16 L8) (bs id), .agg (.ar 32 L8) (bs seed), .sl (.ar 32 L8) L.nr [] 0 (ndL o id seed H k).length L.ne, .raw (u32 0#32), .mp L.ms, .mp L.mt, L.dl] = _
   rw [hnl, le, ld]
  rw [hsgR] at hSa
  have hns : (sgNew t o id seed (ndL o id seed H k)).ns = ndL o id seed H k := rfl
  rw [hns] at hSn
  have hid2 : ((sgNew t o id seed (ndL o id seed H k)).v L).id = id := rfl
  rw [hid2] at kSt
  generalize hr : 2 * H - 1 - k = r at *
  have hr1 : 1 ≤ r := by omega
  have hr2 : r < 2 * H := by omega
  have hnx : 2 * H - 1 - (k + 1) = r - 1 := by omega
  have hst : ndL o id seed H (k + 1) = (ndL o id seed H k).set r (ndV o id seed H (ndL o id seed H k) r) := by rw [← hr]; rfl
  have f0 : ((0 : Int) < (r : Int)) = True := eq_true (by omega)
  have f1 : ((r : Int) < ((2 * H : Nat) : Int)) = True := eq_true (by omega)
  have f2 : wz ((r : Int) - 1) = ((r - 1 : Nat) : Int) := by rw [wz_id (by omega)]; omega
  have f3 : wz ((r : Int) - (H : Int)) = (r : Int) - (H : Int) := wz_id (by omega)
  have f4 : BitVec.ofInt 32 (r : Int) = BitVec.ofNat 32 r := BitVec.ofInt_natCast _ _
  have hgg : ∀ j, j < 2 * H → ((ndL o id seed H k).map d32D)[j]? = some (.agg (.ar 32 L8) (bs ((ndL o id seed H k).getD j []))) ∧ ((ndL o id seed H k).getD j []).length = 32 := fun j hj => by
   have hj2 : j < (ndL o id seed H k).length := by rw [hnl]; exact hj
   have e : (ndL o id seed H k).getD j [] = (ndL o id seed H k)[j] := by simp [List.getD, hj2]
   rw [e]
   exact ⟨by simp [d32D, hj2], hn32 k _ (List.getElem_mem hj2)⟩
  have hgr := (hgg r hr2).1
  have hNl : (ndL o id seed H (k + 1)).length = (sgNew t o id seed (ndL o id seed H k)).ns.length := by rw [hns, hnl, hnl]
  by_cases hH : H ≤ r
  ·have f5 : ((0 : Int) ≤ (r : Int) - (H : Int)) = True := eq_true (by omega)
   have f6 : BitVec.ofInt 32 ((r : Int) - (H : Int)) = BitVec.ofNat 32 (r - H) := by
    rw [show (r : Int) - (H : Int) = ((r - H : Nat) : Int) by omega]; exact BitVec.ofInt_natCast _ _
   have kPb := fun rows' k' => kPublic rows' k' o ⟨id, BitVec.ofNat 32 (r - H)⟩ seed hid hsd ho
   have hpl : (pubS o.toNat ⟨id, BitVec.ofNat 32 (r - H)⟩ seed).length = 32 := sumS_len _
   have kLf := fun rows' k' => kLeaf rows' k' id (BitVec.ofNat 32 r) (pubS o.toNat ⟨id, BitVec.ofNat 32 (r - H)⟩ seed) hid hpl
   have hlf : ndV o id seed H (ndL o id seed H k) r = leafS id (BitVec.ofNat 32 r) (pubS o.toNat ⟨id, BitVec.ofNat 32 (r - H)⟩ seed) := by rw [ndV, if_pos hH]; rfl
   rw [hlf] at hst
   have hSaA := fun L' => live_app hSa L'
   have hSnA := fun L' => live_app hSn L'
   have r0A := fun L' => live_app r0 L'
   simp only [↓amD, amU, simprocAttr, zipEnv, amR, hw, f0, f1, f2, f3, f4, f5, f6, b0, h.lvs, kLv, h.sit, kSt, h.pub, r1, kPb, hSaA, hSnA, r0A, h.lea, kLf]
   have hset : ((ndL o id seed H k).map d32D).set r (.agg (.ar 32 L8) (bs (leafS id (BitVec.ofNat 32 r) (pubS o.toNat ⟨id, BitVec.ofNat 32 (r - H)⟩ seed)))) = (ndL o id seed H (k + 1)).map d32D := by rw [hst, List.map_set]; rfl
   simp only [hgr, hset, ↓amD, amU, simprocAttr, zipEnv]
   exact hR _ _ ⟨by simp only [has, ↓amD, amU, simprocAttr, zipEnv, hw, hnx], (hS.push _).setNs (N := ndL o id seed H (k + 1)) hNl, (hK.trans (KeptL.app _ _)).set (by omega) _, by rw [live_set_ne (by omega)]; exact live_push r0, by rw [live_set_ne (by omega)]; exact live_push r1⟩
  ·have f5 : ((0 : Int) ≤ (r : Int) - (H : Int)) = False := eq_false (by omega)
   have a1 : wz (2 * (r : Int)) = ((2 * r : Nat) : Int) := by rw [wz_id (by omega)]; omega
   have a2 : wz (((2 * r : Nat) : Int) + 1) = ((2 * r + 1 : Nat) : Int) := by rw [wz_id (by omega)]; omega
   have a3 : (((2 * r : Nat) : Int) < ((2 * H : Nat) : Int)) = True := eq_true (by omega)
   have a4 : (((2 * r + 1 : Nat) : Int) < ((2 * H : Nat) : Int)) = True := eq_true (by omega)
   have g1 := hgg (2 * r) (by omega)
   have g2 := hgg (2 * r + 1) (by omega)
   have kNd := fun rows' k' => kNode rows' k' id (BitVec.ofNat 32 r) _ _ hid g1.2 g2.2
   have hlf : ndV o id seed H (ndL o id seed H k) r = nodeS id (BitVec.ofNat 32 r) ((ndL o id seed H k).getD (2 * r) []) ((ndL o id seed H k).getD (2 * r + 1) []) := by rw [ndV, if_neg hH]
   rw [hlf] at hst
   simp only [↓amD, amU, simprocAttr, zipEnv, amR, hw, f0, f1, f2, f3, f4, f5, a1, a2, a3, a4, b0, h.lvs, kLv, hSa, hSn, r0, g1.1, g2.1, h.nod, kNd]
   have hset : ((ndL o id seed H k).map d32D).set r (.agg (.ar 32 L8) (bs (nodeS id (BitVec.ofNat 32 r) ((ndL o id seed H k).getD (2 * r) []) ((ndL o id seed H k).getD (2 * r + 1) [])))) = (ndL o id seed H (k + 1)).map d32D := by rw [hst, List.map_set]; rfl
   simp only [hgr, hset, ↓amD, amU, simprocAttr, zipEnv]
   exact hR _ _ ⟨by simp only [has, ↓amD, amU, simprocAttr, zipEnv, hw, hnx], hS.setNs (N := ndL o id seed H (k + 1)) hNl, hK.set (by omega) _, by rw [live_set_ne (by omega)]; exact r0, by rw [live_set_ne (by omega)]; exact r1⟩
 ·rintro env rs ⟨hw, hS, hK, r0, r1⟩ R
  simp only [has] at hw
  have f0 : ((0 : Int) < ((2 * H - 1 - (2 * H - 1) : Nat) : Int)) = False := eq_false (by omega)
  simp only [↓amD, amU, simprocAttr, zipEnv, amR, hw, f0]
  exact hk rs L hS hK (by omega) (by omega) (by omega) (by omega) ld
 ·rw [lr, Nat.sub_zero]
  simp only [has, ↓amD, amU, simprocAttr, zipEnv]
 ·rw [lr, lv_appk]
  have e : sgR L (sgNew t o id seed (ndL o id seed H 0)) = .agg SSig [.raw (u32 t), .raw (u32 o), .agg (.ar 16 L8) (bs id), .agg (.ar 32 L8) (bs seed), .sl (.ar 32 L8) (rows.length + 3) [] 0 (2 * H) true, .raw (u32 0#32), .mp (rows.length + 4), .mp (rows.length + 5), .raw (.slice none 0 0)] := by
   show D.agg SSig [.raw (u32 t), .raw (u32 o), .agg (.ar 16 L8) (bs id), .agg (.ar 32 L8) (bs seed), .sl (.ar 32 L8) L.nr [] 0 (ndL o id seed H 0).length L.ne, .raw (u32 0#32), .mp L.ms, .mp L.mt, L.dl] = _
   rw [hnl, le, ld, ln, lm, lt]
  rw [e]; rfl
 ·rw [ln, lv_appk]; rfl
 ·rw [lm, lv_appk]; rfl
 ·rw [lt, lv_appk]; rfl
 ·rw [lv_app0]; rfl
 ·rw [lv_appk]; rfl
structure LmS (C : Ctx) : Prop where
 lef : C.fn 48 = some fLeft
 sit : C.fn 26 = some fSite
 mas : C.fn 50 = some fMash
 dig : C.fn 49 = some fDigits
 frc : C.fn 10 = some fForce
def MsgIn (rows : Rows) (d : D) (m : List (BitVec 8)) : Prop := (∃ e, d = .lst L8 (bs m) e) ∨ ∃ r e, d = .sl L8 r [] 0 m.length e ∧ live rows r = some ⟨L8, bs m⟩
theorem MsgIn.bs {rows : Rows} {d : D} {m : List (BitVec 8)} (h : MsgIn rows d m) : BsIn rows d m := by
 rcases h with ⟨e, rfl⟩ | ⟨r, e, rfl, h⟩
 ·exact IsBs.to (.inr ⟨e, rfl⟩)
 ·exact BsIn.own h _ rfl
theorem MsgIn.el {rows : Rows} {d : D} {m : List (BitVec 8)} (h : MsgIn rows d m) : sshape L8 d = true ∧ elems rows d = some (Am.bs m) ∧ slen d = some m.length := by
 rcases h with ⟨e, rfl⟩ | ⟨r, e, rfl, h⟩
 ·exact ⟨by simp [sshape], rfl, by simp [slen, bs_len]⟩
 ·refine ⟨by simp [sshape], ?_, rfl⟩
  simp only [elems, h]
  rw [List.drop_zero, List.take_of_length_le (by rw [bs_len]; exact Nat.le_refl _)]
theorem MsgIn.keep {rows rows' : Rows} {d : D} {m : List (BitVec 8)} (h : MsgIn rows d m) (hk : ∀ q l, live rows q = some ⟨L8, l⟩ → live rows' q = some ⟨L8, l⟩) : MsgIn rows' d m := by
 rcases h with ⟨e, rfl⟩ | ⟨r, e, rfl, h⟩
 ·exact .inl ⟨e, rfl⟩
 ·exact .inr ⟨r, e, rfl, hk _ _ h⟩
def toldK (q : BitVec 32) (ds : List Nat) (tm : List D) : Nat → List D
 | 0 => tm
 | k + 1 => .agg (mpS SSpot LI) [spotD q (k : Int), .raw (it ((ds.getD k 0 : Nat) : Int))] :: toldK q ds tm k
def sgnE (m : List (BitVec 8)) : D := .agg (mpS LS LB) [.raw (.string (msgV m)), .raw (.bool true)]
def Sg.next (s : Sg) (c m : List (BitVec 8)) : Sg := { s with
 nx := s.nx + 1#32
 sm := sgnE m :: s.sm
 tm := toldK s.nx (dgS s.o.toNat ⟨s.id, s.nx⟩ c m) s.tm (pT s.o.toNat)
 last := s.last ++ [(m, c)] }
def At4.next (L : At4) (d : D) : At4 := { L with dl := d }
def Else (rows : Rows) (L : At4) (s : Sg) (q : Nat) : Prop := q ≠ L.r ∧ q ≠ L.nr ∧ q ≠ L.ms ∧ q ≠ L.mt ∧ ∀ ex n, L.dl ≠ .sl SLet q [] 0 n ex
theorem Sgn.ne_r {rows : Rows} {L : At4} {s : Sg} (h : Sgn rows L s) : L.r ≠ L.nr ∧ L.r ≠ L.ms ∧ L.r ≠ L.mt ∧ L.nr ≠ L.ms ∧ L.nr ≠ L.mt ∧ L.ms ≠ L.mt :=
 ⟨ne_sh h.a h.n (by decide), ne_sh h.a h.m (by decide), ne_sh h.a h.t (by decide), ne_sh h.n h.m (by decide), ne_sh h.n h.t (by decide), ne_sh h.m h.t (by decide)⟩
theorem Own.setO {s : Sh} {d : D} {rows : Rows} {els : List D} {q : Nat} {s' : Sh} {l : List D} (h : Own s d rows els) (hq : live rows q = some ⟨s', l⟩) (hs : s' ≠ s) (x : Option Row) : Own s d (rows.set q x) els := by
 rcases h with e | ⟨r, ex, e, hl⟩
 ·exact .inl e
 ·exact .inr ⟨r, ex, e, by rw [live_set_ne (ne_sh hq hl hs)]; exact hl⟩
theorem Sgn.setNx {rows : Rows} {L : At4} {s : Sg} (h : Sgn rows L s) (x : BitVec 32) : Sgn (rows.set L.r (some ⟨SSig, [sgR L { s with nx := x }]⟩)) L { s with nx := x } := by
 obtain ⟨n1, n2, n3, n4, n5, n6⟩ := h.ne_r
 exact ⟨live_set_eq h.a, by rw [live_set_ne n1]; exact h.n, by rw [live_set_ne n2]; exact h.m, by rw [live_set_ne n3]; exact h.t, Own.setO h.l h.a (by decide) _⟩
theorem Sgn.setM {rows : Rows} {L : At4} {s : Sg} (h : Sgn rows L s) (x : List D) : Sgn (rows.set L.ms (some ⟨MSgn, x⟩)) L { s with sm := x } := by
 obtain ⟨n1, n2, n3, n4, n5, n6⟩ := h.ne_r
 exact ⟨by rw [live_set_ne n2.symm]; exact h.a, by rw [live_set_ne n4.symm]; exact h.n, live_set_eq h.m, by rw [live_set_ne n6]; exact h.t, Own.setO h.l h.m (by decide) _⟩
theorem Sgn.setT {rows : Rows} {L : At4} {s : Sg} (h : Sgn rows L s) (x : List D) : Sgn (rows.set L.mt (some ⟨MTold, x⟩)) L { s with tm := x } := by
 obtain ⟨n1, n2, n3, n4, n5, n6⟩ := h.ne_r
 exact ⟨by rw [live_set_ne n3.symm]; exact h.a, by rw [live_set_ne n5.symm]; exact h.n, by rw [live_set_ne n6.symm]; exact h.m, live_set_eq h.t, Own.setO h.l h.t (by decide) _⟩
theorem MsgIn.setO {rows : Rows} {d : D} {m : List (BitVec 8)} (h : MsgIn rows d m) {q : Nat} {s' : Sh} {l : List D} (hq : live rows q = some ⟨s', l⟩) (hs : s' ≠ L8) (x : Option Row) : MsgIn (rows.set q x) d m :=
 h.keep fun p l' hp => by rw [live_set_ne (ne_sh hq hp hs)]; exact hp
theorem MsgIn.push {rows : Rows} {d : D} {m : List (BitVec 8)} (h : MsgIn rows d m) (more : Rows) : MsgIn (rows ++ more) d m := h.keep fun _ _ hp => live_push hp
theorem Sgn.app {rows rows' : Rows} {L : At4} {s : Sg} (h : Sgn rows L s) {d' : D} {x : List (BitVec 8) × List (BitVec 8)} (hO : Own SLet d' rows' (s.last.map letD ++ [letD x]))
  (hfr : ∀ r y, live rows r = some y → (∀ ex n, L.dl ≠ .sl SLet r [] 0 n ex) → live rows' r = some y) :
  live rows' L.r = some ⟨SSig, [sgR L s]⟩ ∧ Sgn (rows'.set L.r (some ⟨SSig, [sgR (L.next d') { s with last := s.last ++ [x] }]⟩)) (L.next d') { s with last := s.last ++ [x] } := by
 obtain ⟨n1, n2, n3, n4, n5, n6⟩ := h.ne_r
 have ga := hfr _ _ h.a (own_neA h.l h.a (by decide))
 have gn := hfr _ _ h.n (own_neA h.l h.n (by decide))
 have gm := hfr _ _ h.m (own_neA h.l h.m (by decide))
 have gt := hfr _ _ h.t (own_neA h.l h.t (by decide))
 refine ⟨ga, live_set_eq ga, by rw [show (L.next d').nr = L.nr from rfl, live_set_ne n1]; exact gn, by rw [show (L.next d').ms = L.ms from rfl, live_set_ne n2]; exact gm, by rw [show (L.next d').mt = L.mt from rfl, live_set_ne n3]; exact gt, ?_⟩
 rw [List.map_append]
 exact Own.setO hO ga (by decide) _
set_option maxHeartbeats 8000000 in
theorem sign_run (C : Ctx) (h : LmS C) {rows : Rows} {L : At4} {s : Sg} {d : D} {c m : List (BitVec 8)} (hS : Sgn rows L s) (hp : okSg (s.v L) = true) (ho : okT s.o.toNat = true) (hc : c.length = 32) (hm : MsgIn rows d m) (hml : m.length ≤ 1099511627776)
  (hnx : s.nx.toNat < lvN (s.v L)) (hla : s.last.length ≤ 1000000) {K : D → Rows → Prop}
  (hk : ∀ rows' dl' r', Sgn rows' (L.next dl') (s.next c m) → live rows' r' = some ⟨L8, bs (sigF (s.v L) s.nx c m)⟩ → rows.length ≤ r' → (∀ q row, live rows q = some row → Else rows L s q → live rows' q = some row) → (∀ q ex n, dl' = .sl SLet q [] 0 n ex → rows.length ≤ q) → rows.length ≤ rows'.length →
   K (.tup [.sl L8 r' [] 0 (44 + 32 * pT s.o.toNat + 32 * pathN (s.v L) s.nx.toNat) false, .raw (it 0)]) rows') :
  afun C 3 r_lms_Signer_Sign a_lms_Signer_Sign [.ptr SSig L.r [0], .agg (.ar 32 L8) (bs c), d] rows K := by
 refine afun_mk rfl ?_
 unfold a_lms_Signer_Sign r_lms_Signer_Sign
 have hS1 := hS.push [some ⟨.ar 32 L8, [.agg (.ar 32 L8) (bs c)]⟩]
 have kLe := fun k' => kLeftV _ k' _ _ hS1.rd hp
 have hlv : lvN (s.v L) ≤ 1024 := by
  have := (okSg_iff.1 hp).2.2.2.2.1
  unfold lvN; omega
 have c0 : ((lvN (s.v L) : Int) - ((s.v L).nx.toNat : Int) = 0) = False := eq_false (by show ¬ ((lvN (s.v L) : Int) - (s.nx.toNat : Int) = 0); omega)
 have hSa := hS1.a
 simp only [sgR] at hSa
 have hcr : live (rows ++ [some (⟨.ar 32 L8, [.agg (.ar 32 L8) (bs c)]⟩ : Row)]) rows.length = some ⟨.ar 32 L8, [.agg (.ar 32 L8) (bs c)]⟩ := by rw [lv_app0]; rfl
 have hm1 := hm.push [some ⟨.ar 32 L8, [.agg (.ar 32 L8) (bs c)]⟩]
 have hF1 : ∀ q row, live rows q = some row → Else rows L s q → live (rows ++ [some (⟨.ar 32 L8, [.agg (.ar 32 L8) (bs c)]⟩ : Row)]) q = some row := fun q row hq _ => live_push hq
 have hN1 : rows.length < (rows ++ [some (⟨.ar 32 L8, [.agg (.ar 32 L8) (bs c)]⟩ : Row)]).length := by simp
 simp only [↓amD, amU, simprocAttr, zipEnv]
 generalize rows ++ [some (⟨.ar 32 L8, [.agg (.ar 32 L8) (bs c)]⟩ : Row)] = R1 at *
 have hS2 := hS1.setNx (s.nx + 1#32)
 have hne := hS1.ne_r
 have hcr2 : live (R1.set L.r (some ⟨SSig, [sgR L { s with nx := s.nx + 1#32 }]⟩)) rows.length = some ⟨.ar 32 L8, [.agg (.ar 32 L8) (bs c)]⟩ := by rw [live_set_ne (ne_sh hS1.a hcr (by decide))]; exact hcr
 have hm2 := hm1.setO hS1.a (by decide) (some ⟨SSig, [sgR L { s with nx := s.nx + 1#32 }]⟩)
 have hF2 : ∀ q row, live rows q = some row → Else rows L s q → live (R1.set L.r (some ⟨SSig, [sgR L { s with nx := s.nx + 1#32 }]⟩)) q = some row := fun q row hq he => by rw [live_set_ne (Ne.symm he.1)]; exact hF1 q row hq he
 have hN2 : rows.length < (R1.set L.r (some ⟨SSig, [sgR L { s with nx := s.nx + 1#32 }]⟩)).length := by simpa using hN1
 have hSa2 := hS2.a
 have hln2 : (R1.set L.r (some (⟨SSig, [sgR L { s with nx := s.nx + 1#32 }]⟩ : Row))).length = R1.length := List.length_set
 simp only [sgR] at hSa2 hS2 hcr2 hm2 hF2 hN2 hln2
 simp only [↓amD, amU, simprocAttr, zipEnv, amR, h.lef, kLe, c0, hSa]
 generalize R1.set L.r (some (⟨SSig, [.agg SSig [.raw (u32 s.t), .raw (u32 s.o), .agg (.ar 16 L8) (bs s.id), .agg (.ar 32 L8) (bs s.seed), .sl (.ar 32 L8) L.nr [] 0 s.ns.length L.ne, .raw (u32 (s.nx + 1#32)), .mp L.ms, .mp L.mt, L.dl]]⟩ : Row)) = R2 at *
 obtain ⟨e1, e2, e3⟩ := hm2.el
 have hby := byte_bs m
 have hmv : (⟨(ub m).toArray⟩ : ByteArray) = msgV m := rfl
 have hM2 := hS2.m
 have hS3 := hS2.setM (.agg (mpS LS LB) [.raw (.string (msgV m)), .raw (.bool true)] :: s.sm)
 have hcr3 : live (R2.set L.ms (some ⟨MSgn, .agg (mpS LS LB) [.raw (.string (msgV m)), .raw (.bool true)] :: s.sm⟩)) rows.length = some ⟨.ar 32 L8, [.agg (.ar 32 L8) (bs c)]⟩ := by rw [live_set_ne (ne_sh hM2 hcr2 (by decide))]; exact hcr2
 have hm3 := hm2.setO hM2 (by decide) (some ⟨MSgn, .agg (mpS LS LB) [.raw (.string (msgV m)), .raw (.bool true)] :: s.sm⟩)
 have hF3 : ∀ q row, live rows q = some row → Else rows L s q → live (R2.set L.ms (some ⟨MSgn, .agg (mpS LS LB) [.raw (.string (msgV m)), .raw (.bool true)] :: s.sm⟩)) q = some row := fun q row hq he => by rw [live_set_ne (Ne.symm he.2.2.1)]; exact hF2 q row hq he
 have hN3 : rows.length < (R2.set L.ms (some ⟨MSgn, .agg (mpS LS LB) [.raw (.string (msgV m)), .raw (.bool true)] :: s.sm⟩)).length := by simpa using hN2
 have hln3 : (R2.set L.ms (some (⟨MSgn, .agg (mpS LS LB) [.raw (.string (msgV m)), .raw (.bool true)] :: s.sm⟩ : Row))).length = R1.length := by rw [List.length_set, hln2]
 simp only [↓amD, amU, simprocAttr, zipEnv, amR, hSa2, e1, e2, e3, bs_len, hby, hmv, hM2]
 generalize R2.set L.ms (some (⟨MSgn, .agg (mpS LS LB) [.raw (.string (msgV m)), .raw (.bool true)] :: s.sm⟩ : Row)) = R3 at *
 have hSa3 := hS3.a
 simp only [sgR] at hSa3
 obtain ⟨f1, f2, f3⟩ := hm3.el
 have hSa3A := fun L' => live_app hSa3 L'
 have hcr3A := fun L' => live_app hcr3 L'
 have f2A : ∀ L', elems (R3 ++ L') d = some (bs m) := fun L' => (hm3.push L').el.2.1
 simp only [↓amD, amU, simprocAttr, zipEnv, amR, hSa3, f1, f2, f2A, f3, bs_len, hby, hmv, hcr3, hSa3A, hcr3A]
 have hnew : live (R3 ++ [some (⟨SLet, [.agg SLet [.raw (.string (msgV m)), .agg (.ar 32 L8) (bs c)]]⟩ : Row)]) R1.length = some ⟨SLet, [.agg SLet [.raw (.string (msgV m)), .agg (.ar 32 L8) (bs c)]]⟩ := by
  rw [← hln3, lv_app0]; rfl
 have hlet : D.agg SLet [.raw (.string (msgV m)), .agg (.ar 32 L8) (bs c)] = letD (m, c) := rfl
 have hO3 := Own.push (more := [some (⟨SLet, [.agg SLet [.raw (.string (msgV m)), .agg (.ar 32 L8) (bs c)]]⟩ : Row)]) hS3.l
 have hS3p := hS3.push [some (⟨SLet, [.agg SLet [.raw (.string (msgV m)), .agg (.ar 32 L8) (bs c)]]⟩ : Row)]
 have hcr3p := hcr3A [some (⟨SLet, [.agg SLet [.raw (.string (msgV m)), .agg (.ar 32 L8) (bs c)]]⟩ : Row)]
 have hm3p := hm3.push [some (⟨SLet, [.agg SLet [.raw (.string (msgV m)), .agg (.ar 32 L8) (bs c)]]⟩ : Row)]
 have hF3p : ∀ q row, live rows q = some row → Else rows L s q → live (R3 ++ [some (⟨SLet, [.agg SLet [.raw (.string (msgV m)), .agg (.ar 32 L8) (bs c)]]⟩ : Row)]) q = some row := fun q row hq he => live_push (hF3 q row hq he)
 have hN3p : rows.length < (R3 ++ [some (⟨SLet, [.agg SLet [.raw (.string (msgV m)), .agg (.ar 32 L8) (bs c)]]⟩ : Row)]).length := by rw [List.length_append]; omega
 simp only [↓amD, amU, simprocAttr, zipEnv, hnew, List.take]
 generalize R3 ++ [some (⟨SLet, [.agg SLet [.raw (.string (msgV m)), .agg (.ar 32 L8) (bs c)]]⟩ : Row)] = R4 at *
 rw [hlet]
 refine app_ownA hO3 (by rw [List.length_map]; simp [most]; omega) (by rw [List.length_map]; simp [most]; omega) fun R5 hl5 hfr hlen5 => ?_
 obtain ⟨d', hd'⟩ : ∃ d', d' = D.sl SLet R4.length [] 0 ((s.last.map letD).length + [letD (m, c)].length) false := ⟨_, rfl⟩
 rw [← hd']
 have hO5 : Own SLet d' R5 (s.last.map letD ++ [letD (m, c)]) := .inr ⟨R4.length, false, by rw [hd', List.length_append], hl5⟩
 obtain ⟨hSa5, hS6⟩ := hS3p.app hO5 hfr
 have hcr5 := hfr _ _ hcr3p (own_neA hO3 hcr3p (by decide))
 have hm5 : MsgIn R5 d m := hm3p.keep fun q l hq => hfr _ _ hq (own_neA hO3 hq (by decide))
 have hF5 : ∀ q row, live rows q = some row → Else rows L s q → live R5 q = some row := fun q row hq he => hfr _ _ (hF3p q row hq he) he.2.2.2.2
 have hcr6 : live (R5.set L.r (some ⟨SSig, [sgR (L.next d') { s with nx := s.nx + 1#32, sm := .agg (mpS LS LB) [.raw (.string (msgV m)), .raw (.bool true)] :: s.sm, last := s.last ++ [(m, c)] }]⟩)) rows.length = some ⟨.ar 32 L8, [.agg (.ar 32 L8) (bs c)]⟩ := by rw [live_set_ne (ne_sh hSa5 hcr5 (by decide))]; exact hcr5
 have hm6 := hm5.setO hSa5 (by decide) (some ⟨SSig, [sgR (L.next d') { s with nx := s.nx + 1#32, sm := .agg (mpS LS LB) [.raw (.string (msgV m)), .raw (.bool true)] :: s.sm, last := s.last ++ [(m, c)] }]⟩)
 have hF6 : ∀ q row, live rows q = some row → Else rows L s q → live (R5.set L.r (some ⟨SSig, [sgR (L.next d') { s with nx := s.nx + 1#32, sm := .agg (mpS LS LB) [.raw (.string (msgV m)), .raw (.bool true)] :: s.sm, last := s.last ++ [(m, c)] }]⟩)) q = some row := fun q row hq he => by rw [live_set_ne (Ne.symm he.1)]; exact hF5 q row hq he
 have hN6 : rows.length < (R5.set L.r (some (⟨SSig, [sgR (L.next d') { s with nx := s.nx + 1#32, sm := .agg (mpS LS LB) [.raw (.string (msgV m)), .raw (.bool true)] :: s.sm, last := s.last ++ [(m, c)] }]⟩ : Row))).length := by rw [List.length_set, hlen5]; omega
 have hdf : D.fits d' .ref = true := by rw [hd']; rfl
 have hdr : ∀ q ex n, d' = .sl SLet q [] 0 n ex → rows.length ≤ q := fun q ex n e => by rw [hd'] at e; injection e with _ e; omega
 simp only [sgR] at hSa5
 have hR6 : R5.set L.r (some (⟨SSig, [sgR (L.next d') { s with nx := s.nx + 1#32, sm := .agg (mpS LS LB) [.raw (.string (msgV m)), .raw (.bool true)] :: s.sm, last := s.last ++ [(m, c)] }]⟩ : Row)) = R5.set L.r (some ⟨SSig, [.agg SSig [.raw (u32 s.t), .raw (u32 s.o), .agg (.ar 16 L8) (bs s.id), .agg (.ar 32 L8) (bs s.seed), .sl (.ar 32 L8) L.nr [] 0 s.ns.length L.ne, .raw (u32 (s.nx + 1#32)), .mp L.ms, .mp L.mt, d']]⟩) := rfl
 rw [hR6] at hcr6 hm6 hN6 hS6
 have hF6 : ∀ q row, live rows q = some row → Else rows L s q → live (R5.set L.r (some ⟨SSig, [.agg SSig [.raw (u32 s.t), .raw (u32 s.o), .agg (.ar 16 L8) (bs s.id), .agg (.ar 32 L8) (bs s.seed), .sl (.ar 32 L8) L.nr [] 0 s.ns.length L.ne, .raw (u32 (s.nx + 1#32)), .mp L.ms, .mp L.mt, d']]⟩)) q = some row := hF6
 clear hR6
 obtain ⟨e1', e2', e3'⟩ := hm5.el
 simp only [↓amD, amU, simprocAttr, zipEnv, amR, hSa5, hcr5, e1', e2', e3', bs_len, hby, hmv, hdf]
 generalize R5.set L.r (some (⟨SSig, [.agg SSig [.raw (u32 s.t), .raw (u32 s.o), .agg (.ar 16 L8) (bs s.id), .agg (.ar 32 L8) (bs s.seed), .sl (.ar 32 L8) L.nr [] 0 s.ns.length L.ne, .raw (u32 (s.nx + 1#32)), .mp L.ms, .mp L.mt, d']]⟩ : Row)) = R6 at *
 have hSa6 := hS6.a
 simp only [sgR, At4.next] at hSa6
 obtain ⟨hid, hsd, h32, hn4, hn, hev, hld⟩ := okSg_iff.1 hp
 have hp6 : okSg (Sg.v { s with nx := s.nx + 1#32, sm := .agg (mpS LS LB) [.raw (.string (msgV m)), .raw (.bool true)] :: s.sm, last := s.last ++ [(m, c)] } (L.next d')) = true := okSg_of hS6 hid hsd h32 hn4 hn hev
 have kSt := fun k' => kSiteV R6 k' _ _ s.nx hS6.rd hp6
 have hrL : (L.next d').r = L.r := rfl
 have hidE : (Sg.v { s with nx := s.nx + 1#32, sm := .agg (mpS LS LB) [.raw (.string (msgV m)), .raw (.bool true)] :: s.sm, last := s.last ++ [(m, c)] } (L.next d')).id = s.id := rfl
 rw [hrL, hidE] at kSt
 have kMa := fun k' => kMash R6 k' ⟨s.id, s.nx⟩ c m d hm6.bs hid hc
 have hml' : (mashS s.id s.nx c m).length = 32 := sumS_len _
 have kDi := fun k' => kDigits R6 k' s.o (mashS s.id s.nx c m) hml' ho
 have hdg : digitsS s.o.toNat (mashS s.id s.nx c m) = dgS s.o.toNat ⟨s.id, s.nx⟩ c m := rfl
 rw [hdg] at kDi
 have hpt : pT s.o.toNat ≤ 265 := (parT_ok ho).2.2.1
 simp only [↓amD, amU, simprocAttr, zipEnv, amR, hSa6, h.sit, kSt, hcr6, h.mas, kMa, h.dig, kDi]
 have hdl : (dgS s.o.toNat ⟨s.id, s.nx⟩ c m).length = pT s.o.toNat := dgS_len _ _ _ _
 have hSd : live (R6 ++ [some (⟨LI, (dgS s.o.toNat ⟨s.id, s.nx⟩ c m).map natD⟩ : Row)]) R6.length = some ⟨LI, (dgS s.o.toNat ⟨s.id, s.nx⟩ c m).map natD⟩ := by rw [lv_app0]; rfl
 have hSx : Sg.next s c m = { s with nx := s.nx + 1#32, sm := .agg (mpS LS LB) [.raw (.string (msgV m)), .raw (.bool true)] :: s.sm, tm := toldK s.nx (dgS s.o.toNat ⟨s.id, s.nx⟩ c m) s.tm (pT s.o.toNat), last := s.last ++ [(m, c)] } := rfl
 rw [hSx] at hk
 have hsF : ∀ tm, sigF (Sg.v { s with nx := s.nx + 1#32, sm := .agg (mpS LS LB) [.raw (.string (msgV m)), .raw (.bool true)] :: s.sm, tm := tm, last := s.last ++ [(m, c)] } (L.next d')) s.nx c m = sigF (s.v L) s.nx c m := fun _ => rfl
 have hpN : ∀ tm, pathN (Sg.v { s with nx := s.nx + 1#32, sm := .agg (mpS LS LB) [.raw (.string (msgV m)), .raw (.bool true)] :: s.sm, tm := tm, last := s.last ++ [(m, c)] } (L.next d')) s.nx.toNat = pathN (s.v L) s.nx.toNat := fun _ => rfl
 generalize dgS s.o.toNat ⟨s.id, s.nx⟩ c m = ds at *
 generalize hPP : pT s.o.toNat = P at *
 refine kLoop_up P (fun i env rs => has env [(60, .raw (it (i : Int))), (59, .raw (it (P : Int))), (58, .sl LI R6.length [] 0 P false), (0, .ptr SSig L.r [0]), (8, .raw (u32 s.nx)), (4, .ptr (.ar 32 L8) rows.length [0]), (2, d)] ∧
  Sgn rs (L.next d') { s with nx := s.nx + 1#32, sm := .agg (mpS LS LB) [.raw (.string (msgV m)), .raw (.bool true)] :: s.sm, tm := toldK s.nx ds s.tm i, last := s.last ++ [(m, c)] } ∧
  live rs R6.length = some ⟨LI, ds.map natD⟩ ∧ live rs rows.length = some ⟨.ar 32 L8, [.agg (.ar 32 L8) (bs c)]⟩ ∧ MsgIn rs d m ∧ (∀ q row, live rows q = some row → Else rows L s q → live rs q = some row) ∧ rows.length < rs.length) ?_ ?_
  ⟨?_, hS6.push _, hSd, live_push hcr6, hm6.push _, fun q row hq he => live_push (hF6 q row hq he), by rw [List.length_append]; omega⟩
 ·rintro i hi env rs ⟨hw, hSi, hdi, hci, hmi, hFi, hNi⟩ R hR
  simp only [has] at hw
  have g0 : ((i : Int) < (P : Int)) = True := eq_true (by omega)
  have b0 : ∀ n : Nat, ((0 : Int) ≤ (n : Int)) = True := fun n => eq_true (by omega)
  have g1 := wz_succ i (by omega)
  have g2 : (ds.map natD)[i]? = some (.raw (it ((ds.getD i 0 : Nat) : Int))) := by
   have : i < ds.length := by omega
   simp [List.getD, this, natD]
  have hSai := hSi.a
  have hSti := hSi.t
  simp only [sgR, At4.next] at hSai
  have hsp : D.agg S7 [.raw (u32 s.nx), .raw (it (i : Int))] = spotD s.nx (i : Int) := rfl
  have spf : (spotD s.nx (i : Int)).fits SSpot = true := rfl
  have hT := hSi.setT (toldK s.nx ds s.tm (i + 1))
  have htk : toldK s.nx ds s.tm (i + 1) = .agg (mpS SSpot LI) [spotD s.nx (i : Int), .raw (it ((ds.getD i 0 : Nat) : Int))] :: toldK s.nx ds s.tm i := rfl
  have hmt : (L.next d').mt = L.mt := rfl
  rw [hmt] at hSti
  simp only [↓amD, amU, simprocAttr, zipEnv, amR, hw, g0, g1, g2, b0, hdi, hSai, hsp, spf, hSti]
  rw [hmt, htk] at hT
  refine hR _ _ ⟨by simp only [has, ↓amD, amU, simprocAttr, zipEnv, hw], ?_, ?_, ?_, ?_, ?_, ?_⟩
  ·rw [htk]; exact hT
  ·rw [live_set_ne (ne_sh hSti hdi (by decide))]; exact hdi
  ·rw [live_set_ne (ne_sh hSti hci (by decide))]; exact hci
  ·exact hmi.setO hSti (by decide) _
  ·exact fun q row hq he => by rw [live_set_ne (Ne.symm he.2.2.2.1)]; exact hFi q row hq he
  ·rw [List.length_set]; exact hNi
 ·rintro env rs ⟨hw, hSi, hdi, hci, hmi, hFi, hNi⟩ R
  simp only [has] at hw
  have g0 : ((P : Int) < (P : Int)) = False := eq_false (by omega)
  have hpi := okSg_of hSi hid hsd h32 hn4 hn hev
  have kFo := fun k' => kForceV rs k' _ d _ s.nx c m hSi.rd hmi.bs hpi ho hc hml hnx
  rw [hrL] at kFo
  simp only [↓amD, amU, simprocAttr, zipEnv, amR, hw, g0, hci, h.frc, kFo]
  have hpo : pT (Sg.v { s with nx := s.nx + 1#32, sm := .agg (mpS LS LB) [.raw (.string (msgV m)), .raw (.bool true)] :: s.sm, tm := toldK s.nx ds s.tm P, last := s.last ++ [(m, c)] } (L.next d')).o.toNat = P := hPP
  rw [hsF, hpN, hpo, ← Nat.add_assoc]
  refine hk _ d' rs.length (hSi.push _) (by rw [lv_app0]; rfl) (by omega) (fun q row hq he => live_push (hFi q row hq he)) hdr (by rw [List.length_append]; omega)
 ·simp only [has, ↓amD, amU, simprocAttr, zipEnv]
end Job
end Go.Am
namespace Go.Am
set_option linter.unusedSimpArgs false
set_option linter.unusedVariables false
namespace Job
open Go.Am.F
set_option maxRecDepth 10000
structure Whole (s : SgV) : Prop where
 t : okH s.t.toNat = true
 t10 : hT s.t.toNat ≤ 10
 o : okT s.o.toNat = true
 id : s.id.length = 16
 sd : s.seed.length = 32
 ns : s.ns = nodesL s.o s.id s.seed (hH s.t)
 ld : hasRef s.ld = false
theorem hH_ge {t : BitVec 32} (h : okH t.toNat = true) : 2 ≤ hH t := by
 have : 2 ^ 1 ≤ 2 ^ hT t.toNat := Nat.pow_le_pow_right (by decide) (okH_pos h)
 exact this
theorem hH_le {t : BitVec 32} (h : hT t.toNat ≤ 10) : hH t ≤ 1024 := by
 have : 2 ^ hT t.toNat ≤ 2 ^ 10 := Nat.pow_le_pow_right (by decide) h
 exact this
theorem Whole.len {s : SgV} (h : Whole s) : s.ns.length = 2 * hH s.t := by rw [h.ns]; exact ndL_len _ _ _ _ _
theorem Whole.lv {s : SgV} (h : Whole s) : lvN s = hH s.t := by unfold lvN; rw [h.len]; omega
theorem Whole.ok {s : SgV} (h : Whole s) : okSg s = true := by
 have h1 := hH_ge h.t
 have h2 := hH_le h.t10
 have h3 := h.len
 refine okSg_iff.2 ⟨h.id, h.sd, ?_, by omega, by omega, by omega, h.ld⟩
 rw [h.ns]
 exact ndL_32 _ _ _ _ _
theorem Whole.pn {s : SgV} (h : Whole s) {q : Nat} (hq : q < hH s.t) : pathN s q = hT s.t.toNat := by
 have h1 := hH_ge h.t
 have e : hH s.t = 2 ^ hT s.t.toNat := rfl
 unfold pathN
 rw [h.lv]
 refine (Nat.log2_eq_iff (by omega)).2 ⟨by omega, ?_⟩
 rw [Nat.pow_succ]; omega
theorem numS_front (x : BitVec 32) (l : List (BitVec 8)) : numS (wordB x ++ l) = x := by
 rw [← numS_take _ 4 (by decide)]
 show numS (wordB x) = x
 exact numS_wordB x
section
variable {s : SgV} (h : Whole s) {q : BitVec 32} (hq : q.toNat < hH s.t) (c m : List (BitVec 8)) (hc : c.length = 32)
theorem sf_q : lqS (sigF s q c m) = q := by
 rw [lqS, sigF]
 simp only [List.append_assoc]
 exact numS_front _ _
theorem sf_4 : (sigF s q c m).drop 4 = signS s.o ⟨s.id, q⟩ s.seed c m ++ (wordB s.t ++ (pathG s q.toNat).flatten) := by
 rw [sigF]
 simp only [List.append_assoc]
 rfl
theorem sf_o : loS (sigF s q c m) = s.o := by
 rw [loS, sf_4, signS]
 simp only [List.append_assoc]
 exact numS_front _ _
theorem sf_p : lpS (sigF s q c m) = pT s.o.toNat := by rw [lpS, sf_o]
include hc
theorem sf_40 : (sigF s q c m).drop (40 + 32 * pT s.o.toNat) = wordB s.t ++ (pathG s q.toNat).flatten := by
 have hl := signS_len s.o ⟨s.id, q⟩ s.seed c m hc
 rw [show 40 + 32 * pT s.o.toNat = 4 + (signS s.o ⟨s.id, q⟩ s.seed c m).length by omega, ← List.drop_drop, sf_4, List.drop_left]
theorem sf_one : oneS (sigF s q c m) = signS s.o ⟨s.id, q⟩ s.seed c m := by
 have hl := signS_len s.o ⟨s.id, q⟩ s.seed c m hc
 rw [oneS, sf_p, sf_4, ← hl, List.take_left]
theorem sf_t : ltS (sigF s q c m) = s.t := by rw [ltS, sf_p, sf_40 c m hc]; exact numS_front _ _
theorem sf_h : lhS (sigF s q c m) = hT s.t.toNat := by rw [lhS, sf_t c m hc]
include h hq
theorem sf_path : pathS (sigF s q c m) (hT s.t.toNat) = pathG s q.toNat := by
 have hl := pathG_len s q.toNat
 have hn := h.pn hq
 refine List.ext_getElem (by rw [pathS_len, hl, hn]) fun i h1 h2 => ?_
 have e : (pathS (sigF s q c m) (hT s.t.toNat))[i] = pcS (sigF s q c m) i := by simp [pathS]
 have e44 : (sigF s q c m).drop (44 + 32 * pT s.o.toNat) = (pathG s q.toNat).flatten := by
  rw [show 44 + 32 * pT s.o.toNat = (40 + 32 * pT s.o.toNat) + 4 by omega, ← List.drop_drop, sf_40 c m hc]
  rfl
 rw [e, pcS, sf_p, ← List.drop_drop, e44]
 exact flat_chunk (pathG_32 h.ok (by rw [h.lv]; exact hq)) i h2
theorem sf_E : partsE (sigF s q c m) = 0 := by
 have hl := sigF_len h.ok (by rw [h.lv]; exact hq) c m hc
 rw [h.pn hq] at hl
 have hsh : q.toNat >>> hT s.t.toNat = 0 := by rw [Nat.shiftRight_eq_div_pow]; exact Nat.div_eq_of_lt hq
 have h1 := okH_pos h.t
 unfold partsE
 rw [sf_o, sf_p, sf_t c m hc, sf_h c m hc, sf_q, if_neg (by omega), if_neg (by rw [h.o]; decide), if_neg (by omega), if_neg (by rw [h.t]; decide), if_neg]
 rintro (e | e)
 ·exact e hl
 ·exact e hsh
end
theorem shr_nat (r : BitVec 32) (i : Nat) : (r >>> i).toNat = r.toNat / 2 ^ i := by simp [Nat.shiftRight_eq_div_pow]
theorem q_top {t : BitVec 32} (ht : hT t.toNat ≤ 10) {q : BitVec 32} (hq : q.toNat < hH t) : (q + 1#32 <<< hT t.toNat).toNat = hH t + q.toNat := by
 have h2 := hH_le ht
 have e : (1#32 <<< hT t.toNat).toNat = hH t := by
  rw [BitVec.toNat_shiftLeft, Nat.shiftLeft_eq]
  show 1 * hH t % 4294967296 = hH t
  omega
 rw [BitVec.toNat_add, e]
 omega
theorem ofNat_to (x : BitVec 32) (n : Nat) (h : x.toNat = n) : BitVec.ofNat 32 n = x := by
 rw [← h]; simp
theorem dI_nodes {s : SgV} (h : Whole s) {q : BitVec 32} (hq : q.toNat < hH s.t) {x : List (BitVec 8)} (hx : x = s.ns.getD (hH s.t + q.toNat) []) :
  ∀ i, i ≤ hT s.t.toNat → dI s.id (q + 1#32 <<< hT s.t.toNat) x (pathG s q.toNat) i = s.ns.getD ((hH s.t + q.toNat) / 2 ^ i) []
 | 0, _ => by rw [dI, hx, Nat.pow_zero, Nat.div_one]
 | i + 1, hi => by
  have ih := dI_nodes h hq hx i (by omega)
  have hHe : hH s.t = 2 ^ hT s.t.toNat := rfl
  have ht := q_top h.t10 hq
  have hr : ((q + 1#32 <<< hT s.t.toNat) >>> i).toNat = (hH s.t + q.toNat) / 2 ^ i := by rw [shr_nat, ht]
  have hr1 : (((q + 1#32 <<< hT s.t.toNat) >>> i) >>> 1).toNat = (hH s.t + q.toNat) / 2 ^ i / 2 := by rw [shr_nat, hr]
  have hge : 2 ≤ (hH s.t + q.toNat) / 2 ^ i := by
   rw [Nat.le_div_iff_mul_le (Nat.two_pow_pos i)]
   have : 2 ^ (i + 1) ≤ 2 ^ hT s.t.toNat := Nat.pow_le_pow_right (by decide) hi
   rw [Nat.pow_succ] at this
   omega
  have hle : (hH s.t + q.toNat) / 2 ^ i < 2 * hH s.t := Nat.lt_of_le_of_lt (Nat.div_le_self _ _) (by omega)
  have hp : (pathG s q.toNat).getD i [] = s.ns.getD ((hH s.t + q.toNat) / 2 ^ i ^^^ 1) [] := by
   have hl := pathG_len s q.toNat
   have hn := h.pn hq
   have : i < (pathG s q.toNat).length := by omega
   simp only [List.getD, List.getElem?_eq_getElem this, Option.getD_some]
   simp [pathG, pathAt, h.lv, List.getD]
  have hd : (hH s.t + q.toNat) / 2 ^ (i + 1) = (hH s.t + q.toNat) / 2 ^ i / 2 := by rw [Nat.pow_succ, Nat.div_div_eq_div_mul]
  rw [dI, ih, hp, hd]
  generalize (hH s.t + q.toNat) / 2 ^ i = r at *
  have hnd := nodes_node s.o s.id s.seed (hH s.t) (r / 2) (by omega) (by omega)
  rw [← h.ns, ofNat_to _ _ hr1] at hnd
  rw [hnd]
  unfold stepC
  have hx1 := xor1 r
  have hb : ((q + 1#32 <<< hT s.t.toNat) >>> i &&& 1#32 = 1#32) = (r % 2 = 1) := by
   rw [← and1]
   apply propext
   constructor
   ·intro e
    have := congrArg BitVec.toNat e
    rw [BitVec.toNat_umod, hr] at this
    exact this
   ·intro e
    apply BitVec.eq_of_toNat_eq
    rw [BitVec.toNat_umod, hr]
    exact e
  by_cases c : r % 2 = 1
  ·rw [if_pos (by rw [hb]; exact c)]
   rw [if_neg (by omega)] at hx1
   rw [hx1, show 2 * (r / 2) = r - 1 by omega, show r - 1 + 1 = r by omega]
  ·rw [if_neg (by rw [hb]; exact c)]
   rw [if_pos (by omega)] at hx1
   rw [hx1, show 2 * (r / 2) = r by omega]
theorem leaf_at {s : SgV} (h : Whole s) {q : BitVec 32} (hq : q.toNat < hH s.t) : leafS s.id (q + 1#32 <<< hT s.t.toNat) (pubS s.o.toNat ⟨s.id, q⟩ s.seed) = s.ns.getD (hH s.t + q.toNat) [] := by
 have h1 := hH_ge h.t
 rw [h.ns, nodes_leaf _ _ _ _ _ (by omega) (by omega), lfS, ofNat_to _ _ (q_top h.t10 hq), show hH s.t + q.toNat - hH s.t = q.toNat by omega]
 simp
theorem climb_root {s : SgV} (h : Whole s) {q : BitVec 32} (hq : q.toNat < hH s.t) : climbS s.id q (leafS s.id (q + 1#32 <<< hT s.t.toNat) (pubS s.o.toNat ⟨s.id, q⟩ s.seed)) (pathG s q.toNat) = s.ns.getD 1 [] := by
 have e := dI_nodes h hq (leaf_at h hq) (hT s.t.toNat) (Nat.le_refl _)
 have hl := pathG_len s q.toNat
 rw [h.pn hq] at hl
 rw [climbS, hl, e]
 have h1 : hH s.t = 2 ^ hT s.t.toNat := rfl
 rw [show (hH s.t + q.toNat) / 2 ^ hT s.t.toNat = 1 by rw [← h1]; exact Nat.div_eq_of_lt_le (by omega) (by omega)]
theorem pub_t (s : SgV) : numS (pubSg s) = s.t := by
 rw [pubSg]; simp only [List.append_assoc]; exact numS_front _ _
theorem pub_o (s : SgV) : numS ((pubSg s).drop 4) = s.o := by
 rw [pubSg]; simp only [List.append_assoc]; exact numS_front s.o (s.id ++ s.ns.getD 1 [])
theorem pub_8 (s : SgV) : (pubSg s).drop 8 = s.id ++ s.ns.getD 1 [] := by
 rw [pubSg]; simp only [List.append_assoc]; rfl
theorem pub_id {s : SgV} (h : s.id.length = 16) : ((pubSg s).drop 8).take 16 = s.id := by
 rw [pub_8, ← h, List.take_left]
theorem pub_root {s : SgV} (h : s.id.length = 16) : (pubSg s).drop 24 = s.ns.getD 1 [] := by
 rw [show 24 = 8 + s.id.length by omega, ← List.drop_drop, pub_8, List.drop_left]
theorem pub_read {s : SgV} (h : Whole s) : readS (pubSg s) = (⟨s.t, s.o, s.id, s.ns.getD 1 []⟩, 0) := by
 unfold readS
 simp only [pubSg_len h.ok, pub_t, pub_o, h.t, h.o, decide_true, Bool.and_true, cond_true, keyOf, pub_id h.id, pub_root h.id]
theorem rt_any {s z : SgV} (h : Whole s) (hz : Whole z) (ht : z.t = s.t) (ho : z.o = s.o) (hi : z.id = s.id) {q : BitVec 32} (hq : q.toNat < hH s.t) (c m m2 : List (BitVec 8)) (hc : c.length = 32) : rtE (pubSg z) (sigF s q c m) = 0 ∧
  rtS (pubSg z) m2 (sigF s q c m) = climbS s.id q (leafS s.id (q + 1#32 <<< hT s.t.toNat) (claimS ⟨s.id, q⟩ (signS s.o ⟨s.id, q⟩ s.seed c m) m2)) (pathG s q.toNat) := by
 constructor
 ·rw [rtE, pub_read hz, sf_E h hq c m hc, sf_t c m hc, sf_o]
  simp [ht, ho]
 ·rw [rtS, pub_read hz, sf_q, sf_h c m hc, sf_one c m hc, sf_path h hq c m hc]
  simp only [hi]
theorem rt_own {s z : SgV} (h : Whole s) (hz : Whole z) (ht : z.t = s.t) (ho : z.o = s.o) (hi : z.id = s.id) {q : BitVec 32} (hq : q.toNat < hH s.t) (c m : List (BitVec 8)) (hc : c.length = 32) : rtS (pubSg z) m (sigF s q c m) = s.ns.getD 1 [] := by
 rw [(rt_any h hz ht ho hi hq c m m hc).2, claim_sign s.o ⟨s.id, q⟩ s.seed c m hc h.o]
 exact climb_root h hq
theorem ver_own {s z : SgV} (h : Whole s) (hz : Whole z) (ht : z.t = s.t) (ho : z.o = s.o) (hi : z.id = s.id) {q : BitVec 32} (hq : q.toNat < hH s.t) (c m : List (BitVec 8)) (hc : c.length = 32) : verE (pubSg z) m (sigF s q c m) = if s.ns.getD 1 [] = z.ns.getD 1 [] then 0 else 5 := by
 rw [verE, (rt_any h hz ht ho hi hq c m m hc).1, rt_own h hz ht ho hi hq c m hc, pub_read hz]
 simp
theorem Sgn.els {rows : Rows} {L : At4} {s : Sg} (h : Sgn rows L s) {q : Nat} {l : List D} (hq : live rows q = some ⟨L8, l⟩) : Else rows L s q :=
 ⟨(ne_sh h.a hq (by decide)).symm, (ne_sh h.n hq (by decide)).symm, (ne_sh h.m hq (by decide)).symm, (ne_sh h.t hq (by decide)).symm, own_neA h.l hq (by decide)⟩
theorem new_whole {R : Rows} {L : At4} {t o : BitVec 32} {id seed : List (BitVec 8)} (h : Sgn R L (sgNew t o id seed (nodesL o id seed (hH t)))) (ht : okH t.toNat = true) (h10 : hT t.toNat ≤ 10) (ho : okT o.toNat = true) (hid : id.length = 16) (hsd : seed.length = 32) : Whole ((sgNew t o id seed (nodesL o id seed (hH t))).v L) :=
 ⟨ht, h10, ho, hid, hsd, rfl, Sg.ld_noref h⟩
theorem next_whole {R' : Rows} {L : At4} {s : Sg} {d : D} {c m : List (BitVec 8)} (h : Whole (s.v L)) (h' : Sgn R' (L.next d) (s.next c m)) : Whole ((s.next c m).v (L.next d)) :=
 ⟨h.t, h.t10, h.o, h.id, h.sd, h.ns, Sg.ld_noref h'⟩
def txS (id : List (BitVec 8)) (r : BitVec 32) (kind : List (BitVec 8)) (l : List (List (BitVec 8))) : List (BitVec 8) := id ++ wordB r ++ kind ++ l.flatten
theorem txS_inj {id kind : List (BitVec 8)} {r : BitVec 32} {l l' : List (List (BitVec 8))} (h : txS id r kind l = txS id r kind l') : l.flatten = l'.flatten := List.append_cancel_left h
theorem tx_one {id kind : List (BitVec 8)} {r : BitVec 32} {a a' : List (BitVec 8)} (h : txS id r kind [a] = txS id r kind [a']) : a = a' := by
 have := txS_inj h
 simpa using this
theorem tx_two {id kind : List (BitVec 8)} {r : BitVec 32} {a b a' b' : List (BitVec 8)} (h : txS id r kind [a, b] = txS id r kind [a', b']) (hl : a.length = a'.length) : a = a' ∧ b = b' := by
 have := txS_inj h
 simp only [List.flatten_cons, List.flatten_nil, List.append_nil] at this
 exact List.append_inj this hl
def lvP (r : BitVec 32) (x d : List (BitVec 8)) : List (List (BitVec 8)) := if r &&& 1#32 = 1#32 then [x, d] else [d, x]
def lvS (id : List (BitVec 8)) (r : BitVec 32) (k : List (BitVec 8)) (path : List (List (BitVec 8))) : Nat → List (BitVec 8)
 | 0 => txS id r (be2 33410) [k]
 | i + 1 => txS id (r >>> (i + 1)) (be2 33667) (lvP (r >>> i) (path.getD i []) (dI id r (leafS id r k) path i))
theorem lv_sum (id : List (BitVec 8)) (r : BitVec 32) (k : List (BitVec 8)) (path : List (List (BitVec 8))) : ∀ i, sumS (lvS id r k path i) = dI id r (leafS id r k) path i
 | 0 => rfl
 | i + 1 => by
  rw [lvS, dI, stepC, lvP, shr_add]
  split <;> rfl
theorem lv_down {id : List (BitVec 8)} {r : BitVec 32} {k k' : List (BitVec 8)} {p p' : List (List (BitVec 8))} {i : Nat} (hp : (p.getD i []).length = 32) (hp' : (p'.getD i []).length = 32)
  (h : lvS id r k p (i + 1) = lvS id r k' p' (i + 1)) : dI id r (leafS id r k) p i = dI id r (leafS id r k') p' i := by
 have l1 := dI_len id r (leafS id r k) p (leafS_len _ _ _) i
 have l2 := dI_len id r (leafS id r k') p' (leafS_len _ _ _) i
 rw [lvS, lvS, lvP, lvP] at h
 by_cases c : r >>> i &&& 1#32 = 1#32
 ·rw [if_pos c, if_pos c] at h
  exact (tx_two h (by omega)).2
 ·rw [if_neg c, if_neg c] at h
  exact (tx_two h (by omega)).1
theorem lv_find {id : List (BitVec 8)} {r : BitVec 32} {k k' : List (BitVec 8)} {p p' : List (List (BitVec 8))} {n j : Nat} (hp : ∀ i, i < n → (p.getD i []).length = 32) (hp' : ∀ i, i < n → (p'.getD i []).length = 32)
  (hr : dI id r (leafS id r k) p n = dI id r (leafS id r k') p' n) (hj : j ≤ n) (ha : ∀ i, j < i → i ≤ n → lvS id r k p i = lvS id r k' p' i) : sumS (lvS id r k p j) = sumS (lvS id r k' p' j) := by
 rw [lv_sum, lv_sum]
 by_cases c : j = n
 ·rw [c]; exact hr
 ·exact lv_down (hp j (by omega)) (hp' j (by omega)) (ha (j + 1) (by omega) (by omega))
theorem step_tx (id : List (BitVec 8)) (q : BitVec 32) (i j : Nat) (x : List (BitVec 8)) : stepS id q i j x = sumS (txS id q (be2 i ++ [BitVec.ofNat 8 j]) [x]) := by
 unfold stepS txS
 simp
theorem fold_tx (id : List (BitVec 8)) (q : BitVec 32) (l : List (List (BitVec 8))) : foldS id q l = sumS (txS id q (be2 32896) l) := rfl
theorem mash_tx (id : List (BitVec 8)) (q : BitVec 32) (c m : List (BitVec 8)) : mashS id q c m = sumS (txS id q (be2 33153) [c] ++ m) := by
 unfold mashS txS
 simp
theorem flat_inj : ∀ {a b : List (List (BitVec 8))}, a.length = b.length → (∀ x ∈ a, x.length = 32) → (∀ x ∈ b, x.length = 32) → a.flatten = b.flatten → a = b
 | [], [], _, _, _, _ => rfl
 | [], _ :: _, h, _, _, _ => by cases h
 | _ :: _, [], h, _, _, _ => by cases h
 | x :: a, y :: b, h, ha, hb, e => by
  simp only [List.flatten_cons] at e
  obtain ⟨e1, e2⟩ := List.append_inj e (by rw [ha x (.head _), hb y (.head _)])
  rw [e1, flat_inj (by simpa using h) (fun z hz => ha z (.tail _ hz)) (fun z hz => hb z (.tail _ hz)) e2]
theorem coefN_ar (p : List (BitVec 8)) (i w : Nat) (hw : w4 w = true) : coefN p i w = (p.getD (i / (8 / w)) 0#8).toNat / 2 ^ (8 - w * (i % (8 / w)) - w) % 2 ^ w := by
 unfold coefN
 generalize p.getD (i / (8 / w)) 0#8 = x
 generalize 8 - w * (i % (8 / w)) - w = s
 rw [BitVec.toNat_and, BitVec.toNat_ushiftRight, Nat.shiftRight_eq_div_pow]
 have h : (BitVec.ofNat 8 (2 ^ w - 1)).toNat = 2 ^ w - 1 := by rcases w4_eq.1 hw with rfl | rfl | rfl | rfl <;> rfl
 rw [h, Nat.and_two_pow_sub_one_eq_mod]
theorem chk_get (a : List (BitVec 8)) (c j w e : Nat) (ha : a.length = 32) (he : 8 / w = e) (hw : w4 w = true) : coefN (a ++ be2 c) (32 * e + j) w = ((be2 c).getD (j / e) 0#8).toNat / 2 ^ (8 - w * (j % e) - w) % 2 ^ w := by
 have he0 : 0 < e := by rw [← he]; rcases w4_eq.1 hw with rfl | rfl | rfl | rfl <;> decide
 rw [coefN_ar _ _ _ hw, he]
 have h1 : (32 * e + j) / e = 32 + j / e := by rw [Nat.add_comm, Nat.add_mul_div_right _ _ he0, Nat.add_comm]
 have h2 : (32 * e + j) % e = j % e := by rw [Nat.add_comm, Nat.add_mul_mod_self_right]
 rw [h1, h2]
 congr 3
 rw [List.getD, List.getElem?_append_right (by rw [ha]; exact Nat.le_add_right _ _), ha, Nat.add_sub_cancel_left]
 rfl
theorem msg_get (x : Par) (a : List (BitVec 8)) (ha : a.length = 32) (i w : Nat) (hw : w4 w = true) (hi : i / (8 / w) < 32) : coefN (fullD x a) i w = coefN a i w := by
 rw [coefN_ar _ _ _ hw, coefN_ar _ _ _ hw]
 congr 3
 rw [fullD, List.getD, List.getElem?_append_left (by omega)]
 rfl
set_option maxHeartbeats 1000000
theorem csum2 (s : Nat) (a : List (BitVec 8)) (ha : a.length = 32) (hs : s * 2 ^ 6 < 65536) :
  coefN (a ++ be2 (s * 2 ^ 6)) (128 + 0) 2 * 256 + coefN (a ++ be2 (s * 2 ^ 6)) (128 + 1) 2 * 64 + coefN (a ++ be2 (s * 2 ^ 6)) (128 + 2) 2 * 16 + coefN (a ++ be2 (s * 2 ^ 6)) (128 + 3) 2 * 4 + coefN (a ++ be2 (s * 2 ^ 6)) (128 + 4) 2 * 1 = s := by
 have g0 := chk_get a (s * 2 ^ 6) 0 2 4 ha rfl (by decide)
 have g1 := chk_get a (s * 2 ^ 6) 1 2 4 ha rfl (by decide)
 have g2 := chk_get a (s * 2 ^ 6) 2 2 4 ha rfl (by decide)
 have g3 := chk_get a (s * 2 ^ 6) 3 2 4 ha rfl (by decide)
 have g4 := chk_get a (s * 2 ^ 6) 4 2 4 ha rfl (by decide)
 simp only [Nat.reduceMul, Nat.reduceDiv, Nat.reduceMod, Nat.reduceAdd, Nat.reduceSub, Nat.reducePow] at g0 g1 g2 g3 g4
 have hb0 : ((be2 (s * 64)).getD 0 0#8).toNat = s * 64 / 256 := by
  show (BitVec.ofNat 8 (s * 64 / 256)).toNat = _
  rw [BitVec.toNat_ofNat]; omega
 have hb1 : ((be2 (s * 64)).getD 1 0#8).toNat = s * 64 % 256 := by
  show (BitVec.ofNat 8 (s * 64)).toNat = _
  rw [BitVec.toNat_ofNat]
 simp only [hb0, hb1] at g0 g1 g2 g3 g4
 simp only [Nat.reducePow, Nat.reduceAdd] at hs ⊢
 rw [g0, g1, g2, g3, g4]
 omega
theorem csum3 (s : Nat) (a : List (BitVec 8)) (ha : a.length = 32) (hs : s * 2 ^ 4 < 65536) :
  coefN (a ++ be2 (s * 2 ^ 4)) (64 + 0) 4 * 256 + coefN (a ++ be2 (s * 2 ^ 4)) (64 + 1) 4 * 16 + coefN (a ++ be2 (s * 2 ^ 4)) (64 + 2) 4 * 1 = s := by
 have g0 := chk_get a (s * 2 ^ 4) 0 4 2 ha rfl (by decide)
 have g1 := chk_get a (s * 2 ^ 4) 1 4 2 ha rfl (by decide)
 have g2 := chk_get a (s * 2 ^ 4) 2 4 2 ha rfl (by decide)
 simp only [Nat.reduceMul, Nat.reduceDiv, Nat.reduceMod, Nat.reduceAdd, Nat.reduceSub, Nat.reducePow] at g0 g1 g2
 have hb0 : ((be2 (s * 16)).getD 0 0#8).toNat = s * 16 / 256 := by
  show (BitVec.ofNat 8 (s * 16 / 256)).toNat = _
  rw [BitVec.toNat_ofNat]; omega
 have hb1 : ((be2 (s * 16)).getD 1 0#8).toNat = s * 16 % 256 := by
  show (BitVec.ofNat 8 (s * 16)).toNat = _
  rw [BitVec.toNat_ofNat]
 simp only [hb0, hb1] at g0 g1 g2
 simp only [Nat.reducePow, Nat.reduceAdd] at hs ⊢
 rw [g0, g1, g2]
 omega
theorem sum_eq (a b : List (BitVec 8)) (w : Nat) (hw : w4 w = true) : ∀ n, (∀ i, i < n → coefN b i w ≤ coefN a i w) → sumD a w n ≤ sumD b w n ∧ (sumD b w n ≤ sumD a w n → ∀ i, i < n → coefN b i w = coefN a i w)
 | 0, _ => ⟨Nat.le_refl _, fun _ i hi => by omega⟩
 | n + 1, h => by
  obtain ⟨h1, h2⟩ := sum_eq a b w hw n (fun i hi => h i (by omega))
  have ha := coefN_le a n w hw
  have hb := coefN_le b n w hw
  have hn := h n (by omega)
  rw [sumD, sumD]
  refine ⟨by omega, fun h3 i hi => ?_⟩
  by_cases c : i = n
  ·subst c; omega
  ·exact h2 (by omega) i (by omega)
theorem bytes_eq (a b : List (BitVec 8)) (w : Nat) (ha : a.length = 32) (hb : b.length = 32) (hw : w = 2 ∨ w = 4) (h0 : ∀ i, i < 256 / w → coefN b i w = coefN a i w) : b = a := by
 have h : ∀ i, i < 256 / w → coefN a i w = coefN b i w := fun i hi => (h0 i hi).symm
 have key : ∀ q, q < 32 → (a.getD q 0#8).toNat = (b.getD q 0#8).toNat := by
  intro q hq
  have xa := (a.getD q 0#8).isLt
  have xb := (b.getD q 0#8).isLt
  rcases hw with rfl | rfl
  ·have h : ∀ r, r < 4 → coefN a (4 * q + r) 2 = coefN b (4 * q + r) 2 := fun r hr => h (4 * q + r) (by omega)
   have f0 := h 0 (by decide)
   rw [coefN_ar a _ 2 (by decide), coefN_ar b _ 2 (by decide), show (4 * q + 0) / (8 / 2) = q by omega, show (4 * q + 0) % (8 / 2) = 0 by omega] at f0
   have f1 := h 1 (by decide)
   rw [coefN_ar a _ 2 (by decide), coefN_ar b _ 2 (by decide), show (4 * q + 1) / (8 / 2) = q by omega, show (4 * q + 1) % (8 / 2) = 1 by omega] at f1
   have f2 := h 2 (by decide)
   rw [coefN_ar a _ 2 (by decide), coefN_ar b _ 2 (by decide), show (4 * q + 2) / (8 / 2) = q by omega, show (4 * q + 2) % (8 / 2) = 2 by omega] at f2
   have f3 := h 3 (by decide)
   rw [coefN_ar a _ 2 (by decide), coefN_ar b _ 2 (by decide), show (4 * q + 3) / (8 / 2) = q by omega, show (4 * q + 3) % (8 / 2) = 3 by omega] at f3
   simp only [Nat.reduceMul, Nat.reduceDiv, Nat.reduceMod, Nat.reduceAdd, Nat.reduceSub, Nat.reducePow] at f0 f1 f2 f3
   omega
  ·have h : ∀ r, r < 2 → coefN a (2 * q + r) 4 = coefN b (2 * q + r) 4 := fun r hr => h (2 * q + r) (by omega)
   have f0 := h 0 (by decide)
   rw [coefN_ar a _ 4 (by decide), coefN_ar b _ 4 (by decide), show (2 * q + 0) / (8 / 4) = q by omega, show (2 * q + 0) % (8 / 4) = 0 by omega] at f0
   have f1 := h 1 (by decide)
   rw [coefN_ar a _ 4 (by decide), coefN_ar b _ 4 (by decide), show (2 * q + 1) / (8 / 4) = q by omega, show (2 * q + 1) % (8 / 4) = 1 by omega] at f1
   simp only [Nat.reduceMul, Nat.reduceDiv, Nat.reduceMod, Nat.reduceAdd, Nat.reduceSub, Nat.reducePow] at f0 f1
   omega
 apply List.ext_getElem (by omega)
 intro i h1 h2
 have := BitVec.eq_of_toNat_eq (key i (by omega))
 simpa [List.getD, h1, h2] using this.symm
theorem digs_get (t : Nat) (a : List (BitVec 8)) (i : Nat) (hi : i < pT t) : (digitsS t a).getD i 0 = coefN (fullD (parT t) a) i (wT t) := by
 simp [digitsS, digsP, List.getD, hi]; rfl
theorem dom_eq (t : Nat) (ht : t = 2 ∨ t = 3) (a b : List (BitVec 8)) (ha : a.length = 32) (hb : b.length = 32) (h : ∀ i, i < pT t → (digitsS t b).getD i 0 ≤ (digitsS t a).getD i 0) : a = b := by
 have hle : ∀ i, i < pT t → coefN (fullD (parT t) b) i (wT t) ≤ coefN (fullD (parT t) a) i (wT t) := fun i hi => by
  rw [← digs_get t b i hi, ← digs_get t a i hi]; exact h i hi
 clear h
 rcases ht with rfl | rfl
 ·have hsa := csum2 (sumD a 2 128) a ha (by have := sumD_le a 2 128; simp only [Nat.reducePow] at this ⊢; omega)
  have hsb := csum2 (sumD b 2 128) b hb (by have := sumD_le b 2 128; simp only [Nat.reducePow] at this ⊢; omega)
  have hF : ∀ y, fullD (parT 2) y = y ++ be2 (sumD y 2 128 * 2 ^ 6) := fun y => rfl
  have hle : ∀ i, i < 133 → coefN (fullD (parT 2) b) i 2 ≤ coefN (fullD (parT 2) a) i 2 := hle
  have hm : ∀ i, i < 128 → coefN b i 2 ≤ coefN a i 2 := fun i hi => by
   have := hle i (by omega)
   rwa [msg_get (parT 2) b hb i 2 (by decide) (by omega), msg_get (parT 2) a ha i 2 (by decide) (by omega)] at this
  have c0 := hle (128 + 0) (by decide)
  have c1 := hle (128 + 1) (by decide)
  have c2 := hle (128 + 2) (by decide)
  have c3 := hle (128 + 3) (by decide)
  have c4 := hle (128 + 4) (by decide)
  rw [hF, hF] at c0 c1 c2 c3 c4
  have hss : sumD b 2 128 ≤ sumD a 2 128 := by
   rw [← hsa, ← hsb]
   omega
  exact (bytes_eq a b 2 ha hb (.inl rfl) ((sum_eq a b 2 (by decide) 128 hm).2 hss)).symm
 ·have hsa := csum3 (sumD a 4 64) a ha (by have := sumD_le a 4 64; simp only [Nat.reducePow] at this ⊢; omega)
  have hsb := csum3 (sumD b 4 64) b hb (by have := sumD_le b 4 64; simp only [Nat.reducePow] at this ⊢; omega)
  have hF : ∀ y, fullD (parT 3) y = y ++ be2 (sumD y 4 64 * 2 ^ 4) := fun y => rfl
  have hle : ∀ i, i < 67 → coefN (fullD (parT 3) b) i 4 ≤ coefN (fullD (parT 3) a) i 4 := hle
  have hm : ∀ i, i < 64 → coefN b i 4 ≤ coefN a i 4 := fun i hi => by
   have := hle i (by omega)
   rwa [msg_get (parT 3) b hb i 4 (by decide) (by omega), msg_get (parT 3) a ha i 4 (by decide) (by omega)] at this
  have c0 := hle (64 + 0) (by decide)
  have c1 := hle (64 + 1) (by decide)
  have c2 := hle (64 + 2) (by decide)
  rw [hF, hF] at c0 c1 c2
  have hss : sumD b 4 64 ≤ sumD a 4 64 := by
   rw [← hsa, ← hsb]
   omega
  exact (bytes_eq a b 4 ha hb (.inr rfl) ((sum_eq a b 4 (by decide) 64 hm).2 hss)).symm
end Job
end Go.Am
