/- the journal: what is done -/
import Derived.Test.YtmicfjeedofokaaDoorFlA
import Derived.Test.YtmicfjeedofokaaDoorJn3
namespace Go.Am
set_option linter.unusedSimpArgs false
set_option linter.unusedVariables false
attribute [local congr] bnd_congr kCond_congr kGd_congr kPick_congr kCall_congr kIdx_congr kSlice_congr kLoop_congr cond_congr' aBin_congr aBounds_congr aApp_congr aCopy_congr kFn_congr
namespace Job
open Go.Am.F
set_option maxRecDepth 10000
theorem kCall_rd4 {α β γ δ : Type} {rd : D → Option α} {rd' : D → Option β} {rd2 : D → Option γ} {rd3 : D → Option δ} {pre : α → β → γ → δ → Bool} {out : α → β → γ → δ → D × Rows} {rows : Rows} {d e f g : D} {a : α} {b : β} {c : γ} {z : δ} (h : RdIn rows rd d a) (h' : RdIn rows rd' e b) (h2 : RdIn rows rd2 f c) (h3 : RdIn rows rd3 g z) (hp : pre a b c z = true)
    (hr : (noLst (out a b c z).1 && noLstRows (out a b c z).2) = true) (k : D → Rows → Prop) :
    kCall (fn4 rd rd' rd2 rd3 pre out) rows k [d, e, f, g] = k (shift rows.length (out a b c z).1) (rows ++ shiftRows rows.length (out a b c z).2) := by
  obtain ⟨⟨x, hx, hx'⟩, hn⟩ := h
  obtain ⟨⟨y, hy, hy'⟩, hm⟩ := h'
  obtain ⟨⟨u, hz, hz'⟩, ho⟩ := h2
  obtain ⟨⟨v, hw, hw'⟩, hq⟩ := h3
  refine kCall_rd (ds' := [x, y, u, v]) (by simp only [mapO, hx, hy, hz, hw]) (fn4_eq hx' hy' hz' hw' hp) (fun hh => ?_) hr
  simp only [hasRefL, Bool.or_eq_false_iff, and_true] at hh
  exact fn4_eq (hn hh.1) (hm hh.2.1) (ho hh.2.2.1) (hq hh.2.2.2) hp
theorem RdIn.fl {rows : Rows} {r m : Nat} {x : List (BitVec 8)} (h : FlAt rows r m x) : ∃ e, RdIn rows (rdOf flD) (.ptr SF r [0]) (some (x, e)) := by
  obtain ⟨e, hv⟩ := h.view
  exact ⟨e, ⟨_, hv, rdOf_eq flD_inj _⟩, fun h => by simp [hasRef] at h⟩
theorem kAfterG {rows : Rows} {r m : Nat} {x : List (BitVec 8)} (h : FlAt rows r m x) (hx : x.length ≤ 1048576) (i a : Int) {d : D} {p : List (BitVec 8)} (hp : BsIn rows d p) (hpl : p.length ≤ 1048576) (h0 : errA (some (x, false)) i a p = 0) (k : D → Rows → Prop) :
    kCall fAfter rows k [.ptr SF r [0], .raw (it i), .raw (it a), d] = k (.tup [.sl L8 rows.length [] 0 256 false, .raw (it 0)]) (rows ++ [some ⟨L8, bs (datA (some (x, false)) i a p)⟩]) := by
  obtain ⟨e, hf⟩ := RdIn.fl h
  have hE : errA (some (x, e)) i a p = errA (some (x, false)) i a p := rfl
  have hD : datA (some (x, e)) i a p = datA (some (x, false)) i a p := rfl
  have ho : outA (some (x, e)) i a p = (.tup [.sl L8 0 [] 0 256 false, .raw (it 0)], [some ⟨L8, bs (datA (some (x, false)) i a p)⟩]) := by
    rw [outA, hE, if_pos h0, hD]
  refine (kCall_rd4 hf (.int i) (.int a) (.bs hp) (by simp [flLen, hx, hpl]) (by rw [ho]; simp [noLst, noLstL, noLstRows, Sh.pure]) k).trans ?_
  rw [ho]
  simp [shift, shiftL, shiftRows, Sh.pure]
def ff256 : List (BitVec 8) := List.replicate 256 255#8
theorem ff_len : ff256.length = 256 := by rw [ff256, List.length_replicate]
theorem ff_get (i : Nat) (h : i < 256) : ff256.getD i 0#8 = 255#8 := rep255 256 i h
noncomputable def fAllF : Fn
  | [], [] => some (.sl L8 0 [] 0 256 false, [some ⟨L8, bs ff256⟩])
  | _, _ => none
theorem allf_ok (C : Ctx) (hC : CtxOK C P) (hr : C.fn 34 = some fRepeat) : Meets C.glob P 35 (Fn.run fAllF) := by
  refine fn_meets (m_journal_all C hC) fun ds rows r h => ?_
  unfold fAllF at h
  split at h
  · cases h
    refine ⟨rfl, afun_mk rfl ?_⟩
    unfold a_journal_all r_journal_all
    simp only [↓amD, amU, Nat.reduceBEq, Nat.reduceAdd, Nat.reduceSub, Nat.reduceMul, Nat.reduceMod, Nat.reducePow, Nat.reduceLT, Nat.reduceDiv, Int.reduceToNat, BitVec.reduceToNat, zipEnv, Int.reduceLE, Int.reduceLT, Int.reduceNeg, BitVec.reduceEq, Int.reduceAdd, Int.reduceSub, Int.reduceMul, Nat.reduceLeDiff, Int.reduceEq, hr]
    refine Eq.mpr (kRepeat (b := 255#8) (BsIn.own (l := [255#8]) rfl _ rfl) 256 (by omega) _) ?_
    rw [show List.replicate 256 255#8 = ff256 from rfl]
    simp only [↓amD, amU, Nat.reduceBEq, Nat.reduceAdd, Nat.reduceSub, Nat.reduceMul, Nat.reduceMod, Nat.reducePow, Nat.reduceLT, Nat.reduceDiv, Int.reduceToNat, BitVec.reduceToNat, zipEnv, Int.reduceLE, Int.reduceLT, Int.reduceNeg, BitVec.reduceEq, Int.reduceAdd, Int.reduceSub, Int.reduceMul, Nat.reduceLeDiff, Int.reduceEq]
    exact .own L8 _ 0 256 false false _ rfl rfl id
  · cases h
theorem kAllF (rows : Rows) (k : D → Rows → Prop) : kCall fAllF rows k [] = k (.sl L8 (0 + rows.length) [] 0 256 false) (rows ++ [some ⟨L8, bs ff256⟩]) := by
  refine (kCall_val rfl (r := (.sl L8 0 [] 0 256 false, [some ⟨L8, bs ff256⟩])) rfl).trans ?_
  simp only [shift, shiftRows, Sh.pure, List.map_cons, List.map_nil, cond_true]
/-- all of a flash -/
noncomputable def fBytesF : Fn := fn1 (rdOf flD) (fun K => decide (flLen K ≤ 1048576) && K.isSome) fun K => outBs (flDat K) false
theorem bytesf_ok (C : Ctx) (hC : CtxOK C P) (hr : C.fn 36 = some fRead) (hs : C.fn 39 = some fSize) : Meets C.glob P 26 (Fn.run fBytesF) := by
  refine fn_meets (m_law22_all C hC) fun ds rows r h => ?_
  obtain ⟨d, K, rfl, rfl, hd, hp', rfl⟩ := fn1_some h
  cases rdOf_some hd
  simp only [Bool.and_eq_true, decide_eq_true_eq] at hp'
  obtain ⟨hl, hK⟩ := hp'
  refine ⟨rfl, afun_mk rfl ?_⟩
  clear h hd
  unfold a_law22_all r_law22_all
  rcases K with _ | ⟨x, e⟩
  · cases hK
  have hg : ∀ rs, FlIn rs (flD (some (x, e))) (some (x, e)) := fun rs => flIn_c rs _
  have ks := fun rows k => kSize (hg rows) k
  have kr := fun rows k => kRead (hg rows) hl ((0 : Nat) : Int) (x.length : Int) k
  have h0 : errW (some (x, e)) ((0 : Nat) : Int) (x.length : Int) = 0 := by simp only [errW]; rw [if_neg (by omega)]
  have hsx : sub x 0 x.length = x := by rw [sub, List.drop_zero, List.take_length]
  have ho : outR (some (x, e)) ((0 : Nat) : Int) (x.length : Int) = (.tup [.sl L8 0 [] 0 x.length false, .raw (it 0)], [some ⟨L8, bs x⟩]) := by
    rw [outR, if_pos h0, Int.toNat_natCast, Int.toNat_natCast, flDat, hsx]
  rw [ho] at kr
  simp only [shift, shiftL, shiftRows, Sh.pure, List.map_cons, List.map_nil, cond_true, Int.natCast_zero] at kr
  generalize hkk : flD (some (x, e)) = kk at kr ks ⊢
  simp only [↓amD, amU, Nat.reduceBEq, Nat.reduceAdd, Nat.reduceSub, Nat.reduceMul, Nat.reduceMod, Nat.reducePow, Nat.reduceLT, Nat.reduceDiv, Int.reduceToNat, BitVec.reduceToNat, zipEnv, Int.reduceLE, Int.reduceLT, Int.reduceNeg, BitVec.reduceEq, Int.reduceAdd, Int.reduceSub, Int.reduceMul, Nat.reduceLeDiff, Int.reduceEq, hs, ks, flLen, hr, kr]
  exact .own L8 _ 0 _ false false _ rfl rfl id
theorem kBytesF {rows : Rows} {r m : Nat} {x : List (BitVec 8)} (h : FlAt rows r m x) (hx : x.length ≤ 1048576) (k : D → Rows → Prop) :
    kCall fBytesF rows k [.ptr SF r [0]] = k (.sl L8 (0 + rows.length) [] 0 x.length false) (rows ++ [some ⟨L8, bs x⟩]) := by
  obtain ⟨e, hf⟩ := RdIn.fl h
  refine (kCall_rd1 hf (by simp [flLen, hx]) (by simp [outBs, noLst, noLstRows, Sh.pure]) k).trans ?_
  simp [outBs, shift, shiftRows, Sh.pure, flDat]
abbrev SOP : Sh := .cons L8 (.cons LI (.cons LI (.cons .ref (.cons LI (.cons L32 .nil)))))
/-- an op of a page: erase, or write from its beginning -/
def opD (kind : BitVec 8) (page : Nat) (d : D) : D := .agg SOP [.raw (u8 kind), .raw (it (page : Int)), .raw (it 0), d, .raw (it 0), .raw (u32 0#32)]
theorem op_g0 (k : BitVec 8) (i : Nat) (d : D) : (opD k i d).get [0] = some (.raw (u8 k)) := rfl
theorem op_g1 (k : BitVec 8) (i : Nat) (d : D) : (opD k i d).get [1] = some (.raw (it (i : Int))) := rfl
theorem op_g2 (k : BitVec 8) (i : Nat) (d : D) : (opD k i d).get [2] = some (.raw (it 0)) := rfl
theorem op_g3 (k : BitVec 8) (i : Nat) (d : D) : (opD k i d).get [3] = some d := rfl
/-- what an op of a page writes: nothing, or a slice's bytes -/
inductive OpB (rows : Rows) (m : Nat) : BitVec 8 → D → List (BitVec 8) → Prop where
  | er : OpB rows m 1#8 (.raw (.slice none 0 0)) []
  | wr (q : Nat) (p : List (BitVec 8)) (ex : Bool) : live rows q = some ⟨L8, bs p⟩ → 0 < p.length → p.length ≤ 256 → q ≠ m → OpB rows m 2#8 (.sl L8 q [] 0 p.length ex) p
theorem OpB.fits {rows : Rows} {m : Nat} {k : BitVec 8} {d : D} {p : List (BitVec 8)} (h : OpB rows m k d p) (i : Nat) : (opD k i d).fits SOP = true := by
  cases h <;> rfl
theorem OpB.bs {rows : Rows} {m : Nat} {k : BitVec 8} {d : D} {p : List (BitVec 8)} (h : OpB rows m k d p) (L : Rows) : BsIn (rows ++ L) d p := by
  cases h with
  | er => exact IsBs.to (.inl ⟨rfl, rfl⟩)
  | wr q p ex h1 h2 h3 h4 => exact BsIn.own (live_app h1 L) _ rfl
theorem OpB.len {rows : Rows} {m : Nat} {k : BitVec 8} {d : D} {p : List (BitVec 8)} (h : OpB rows m k d p) : p.length ≤ 256 := by
  cases h with
  | er => simp
  | wr q p ex h1 h2 h3 h4 => exact h3
def newX (x : List (BitVec 8)) (i : Nat) (p w : List (BitVec 8)) : List (BitVec 8) := teX x i (datA (some (x, false)) i 0 p) w
theorem newX_len (x : List (BitVec 8)) (i : Nat) (p w : List (BitVec 8)) : (newX x i p w).length = x.length := teX_len _ _ _ _
theorem dat_len (x : List (BitVec 8)) (i : Nat) (p : List (BitVec 8)) (hp : p.length ≤ 256) (hx : 256 * i + 256 ≤ x.length) : (datA (some (x, false)) i 0 p).length = 256 := by
  unfold datA
  split
  · rw [List.length_replicate]
  · have hsl : (sub (flDat (some (x, false))) (256 * (i : Int).toNat) 256).length = 256 := sub_len (x := x) (by omega)
    rw [show (0 : Int).toNat = 0 from rfl, splice_len _ _ _ (by omega), hsl]
theorem tearB {rows : Rows} {r m q1 q2 n : Nat} {x w k : List (BitVec 8)} {ex1 ex2 : Bool} (h : FlAt rows r m x) (hx : x.length ≤ 1048576) (hq1 : live rows q1 = some ⟨L8, bs w⟩) (hn : n = w.length) (hq2 : live rows q2 = some ⟨L8, bs k⟩) (n1 : m ≠ q1) (n2 : m ≠ q2) (hw : w.length ≤ 1048576) (hkl : k.length ≤ 1048576) (i : Int) (hE : erE x i = 0) {K : D → Rows → Prop}
    (hk : ∀ rows', Upd rows rows' r m (teX x i w k) → K (.raw (it 0)) rows') : afun CF 4 r_flash_Flash_Tear a_flash_Flash_Tear [.ptr SF r [0], .raw (it i), .sl L8 q1 [] 0 n ex1, .sl L8 q2 [] 0 k.length ex2] rows K := by
  subst hn
  refine tearA h hx hq1 hq2 n1 n2 hw hkl i fun rows' U => ?_
  rw [hE]
  exact hk rows' U
theorem Upd.of {rows L rows' : Rows} {r m : Nat} {x : List (BitVec 8)} (h : Upd (rows ++ L) rows' r m x) : Upd rows rows' r m x := ⟨h.fl, fun q row hq hn => h.frame q row (live_app hq L) hn⟩
set_option maxHeartbeats 1000000 in
theorem jtear_run (C : Ctx) {rows : Rows} {r m qm i : Nat} {ex : Bool} {kind : BitVec 8} {d : D} {x p w : List (BitVec 8)} (hF : FlAt rows r m x) (hx : x.length ≤ 1048576) (hi : 256 * i + 256 ≤ x.length) (ho : OpB rows m kind d p)
    (hm : live rows qm = some ⟨L8, bs w⟩) (nm : m ≠ qm) (hw : w.length ≤ 1048576) (h0 : errA (some (x, false)) (i : Int) 0 p = 0)
    (hA : C.fn 41 = some fAfter) (nT : C.fn 42 = none) (rT : C.fnr 42 = some (afun CF 4 r_flash_Flash_Tear a_flash_Flash_Tear)) {K : D → Rows → Prop}
    (hk : ∀ rows', Upd rows rows' r m (newX x i p w) → K (.raw (it 0)) rows') : afun C 4 r_journal_Tear a_journal_Tear [.ptr SF r [0], .raw (.pointer none), opD kind i d, .sl L8 qm [] 0 w.length ex] rows K := by
  refine afun_mk rfl ?_
  unfold a_journal_Tear r_journal_Tear
  have hE : erE x (i : Int) = 0 := by simp only [erE, errP]; rw [if_neg (by omega)]
  have hfit := ho.fits i
  have hd := dat_len x i p ho.len hi
  have ka := fun L k => kAfterG (hF.push L) hx (i : Int) 0 (ho.bs L) (by have := ho.len; omega) h0 k
  have lt := hF.lt
  cases ho with
  | er =>
    simp only [↓amD, amU, Nat.reduceBEq, Nat.reduceAdd, Nat.reduceSub, Nat.reduceMul, Nat.reduceMod, Nat.reducePow, Nat.reduceLT, Nat.reduceDiv, Int.reduceToNat, BitVec.reduceToNat, zipEnv, Int.reduceLE, Int.reduceLT, Int.reduceNeg, BitVec.reduceEq, Int.reduceAdd, Int.reduceSub, Int.reduceMul, Nat.reduceLeDiff, Int.reduceEq, lv_app0, lv_appk, set_app0, set_appk, List.append_assoc, List.append_nil, Nat.add_assoc, hfit, op_g0, op_g1, op_g2, op_g3, hA, ka, nT, rT]
    refine tearB (hF.push _) hx (w := datA (some (x, false)) (i : Int) 0 []) (by rw [lv_appk]; rfl) hd.symm (live_app hm _) (by omega) nm (by omega) hw _ hE fun rows' U => ?_
    simp only [↓amD, amU, Nat.reduceBEq, Nat.reduceAdd, Nat.reduceSub, Nat.reduceMul, Nat.reduceMod, Nat.reducePow, Nat.reduceLT, Nat.reduceDiv, Int.reduceToNat, BitVec.reduceToNat, zipEnv, Int.reduceLE, Int.reduceLT, Int.reduceNeg, BitVec.reduceEq, Int.reduceAdd, Int.reduceSub, Int.reduceMul, Nat.reduceLeDiff, Int.reduceEq]
    exact hk rows' U.of
  | wr q p ex h1 h2 h3 h4 =>
    have c0 : ((p.length : Int) = 0) = False := eq_false (by omega)
    simp only [↓amD, amU, Nat.reduceBEq, Nat.reduceAdd, Nat.reduceSub, Nat.reduceMul, Nat.reduceMod, Nat.reducePow, Nat.reduceLT, Nat.reduceDiv, Int.reduceToNat, BitVec.reduceToNat, zipEnv, Int.reduceLE, Int.reduceLT, Int.reduceNeg, BitVec.reduceEq, Int.reduceAdd, Int.reduceSub, Int.reduceMul, Nat.reduceLeDiff, Int.reduceEq, lv_app0, lv_appk, set_app0, set_appk, List.append_assoc, List.append_nil, Nat.add_assoc, hfit, op_g0, op_g1, op_g2, op_g3, c0, hA, ka, nT, rT]
    refine tearB (hF.push _) hx (w := datA (some (x, false)) (i : Int) 0 p) (by rw [lv_appk]; rfl) hd.symm (live_app hm _) (by omega) nm (by omega) hw _ hE fun rows' U => ?_
    simp only [↓amD, amU, Nat.reduceBEq, Nat.reduceAdd, Nat.reduceSub, Nat.reduceMul, Nat.reduceMod, Nat.reducePow, Nat.reduceLT, Nat.reduceDiv, Int.reduceToNat, BitVec.reduceToNat, zipEnv, Int.reduceLE, Int.reduceLT, Int.reduceNeg, BitVec.reduceEq, Int.reduceAdd, Int.reduceSub, Int.reduceMul, Nat.reduceLeDiff, Int.reduceEq]
    exact hk rows' U.of
end Job
end Go.Am
