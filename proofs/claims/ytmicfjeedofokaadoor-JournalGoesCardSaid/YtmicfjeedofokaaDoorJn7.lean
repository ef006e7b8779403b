/- the journal: all that the laws call; the example -/
import Derived.Test.YtmicfjeedofokaaDoorJn6
namespace Go.Am
set_option linter.unusedSimpArgs false
set_option linter.unusedVariables false
attribute [local congr] bnd_congr kCond_congr kGd_congr kPick_congr kCall_congr kIdx_congr kSlice_congr kLoop_congr cond_congr' aBin_congr aBounds_congr aApp_congr aCopy_congr kFn_congr
namespace Job
open Go.Am.F
set_option maxRecDepth 10000
/-- the contracts -/
structure JF (C : Ctx) : Prop where
  after : C.fn 41 = some fAfter
  read : C.fn 22 = some fReadJ
  right : C.fn 12 = some fRightJ
  bytes : C.fn 10 = some fBytesJ
  all : C.fn 35 = some fAllF
  cut : C.fn 9 = some fCut
  same : C.fn 13 = some fSame
  join : C.fn 15 = some fJoin
  rright : C.fn 11 = some fRightJ
  rbytes : C.fn 14 = some fRBytesJ
  parse : C.fn 16 = some fParseJ
  rparse : C.fn 17 = some fParseJ
  rread : C.fn 25 = some fRefJ
  bytesf : C.fn 26 = some fBytesF
  pages : C.fn 23 = some fPages
  first : C.fn 19 = some fFirst
  nT : C.fn 42 = none
  rT : C.fnr 42 = some (afun CF 4 r_flash_Flash_Tear a_flash_Flash_Tear)
  nN : C.fn 18 = none
  rN : C.fnr 18 = some (afun CF 1 r_flash_New a_flash_New)
/-- the runs of the journal -/
structure JR (C0 C1 C : Ctx) : Prop where
  f0 : JF C0
  f1 : JF C1
  f : JF C
  l0 : JC C0
  n1 : C1.fn 27 = none
  r1 : C1.fnr 27 = some (afun C0 4 r_journal_Tear a_journal_Tear)
  nt : C.fn 27 = none
  rt : C.fnr 27 = some (afun C0 4 r_journal_Tear a_journal_Tear)
  nn : C.fn 20 = none
  rn : C.fnr 20 = some (afun C0 2 r_journal_Next a_journal_Next)
  nd : C.fn 21 = none
  rd : C.fnr 21 = some (afun C1 3 r_journal_Do a_journal_Do)
  nl : C.fn 24 = none
  rl : C.fnr 24 = some (afun C0 2 r_law22_lay a_law22_lay)
abbrev K0 (x : List (BitVec 8)) : FV := some (x, false)
theorem read_e {x : List (BitVec 8)} (e : Bool) (h : 8704 ≤ x.length) : readJ (some (x, e)) = readJ (K0 x) := by rw [read_ref x e h, read_ref x false h]
theorem nextJ_e {x : List (BitVec 8)} (e : Bool) (s : JS) (h : 8704 ≤ x.length) : nextJ (some (x, e)) s = nextJ (K0 x) s := by unfold nextJ; rw [read_e e h]
theorem nextP_e {x : List (BitVec 8)} (e : Bool) (h : 8704 ≤ x.length) : nextP (some (x, e)) = nextP (K0 x) := by unfold nextP; rw [read_e e h]
theorem nextB_e {x : List (BitVec 8)} (e : Bool) (s : JS) (h : 8704 ≤ x.length) : nextB (some (x, e)) s = nextB (K0 x) s := by unfold nextB; rw [read_e e h]
theorem nextO_e {x : List (BitVec 8)} (e : Bool) (s : JS) (q : Nat) (h : 8704 ≤ x.length) : nextO (some (x, e)) s q = nextO (K0 x) s q := by unfold nextO; rw [nextP_e e h, nextJ_e e s h]
theorem kReadF {rows : Rows} {r m : Nat} {x : List (BitVec 8)} (h : FlAt rows r m x) (h1 : 8704 ≤ x.length) (h2 : x.length ≤ 1048576) (k : D → Rows → Prop) : kCall fReadJ rows k [.ptr SF r [0]] = k (.tup [jD (refJ x).1, .raw (it (refJ x).2)]) rows := by
  obtain ⟨e, hf⟩ := h.to
  rw [kReadJ hf h2, read_ref x e h1]
theorem nextA {C0 C1 C : Ctx} (H : JR C0 C1 C) {rows : Rows} {r m : Nat} {x : List (BitVec 8)} (hF : FlAt rows r m x) (hx1 : 8704 ≤ x.length) (hx2 : x.length ≤ 1048576) (s : JS) {Kk : D → Rows → Prop}
    (h0 : nextB (K0 x) s = false → ∀ L, Kk (.raw (.slice none 0 0)) (rows ++ L))
    (h1 : nextB (K0 x) s = true → ∀ L ro q, rows.length ≤ ro → rows.length ≤ q → live (rows ++ L) ro = some ⟨SOP, (nextO (K0 x) s q).map JO.D⟩ → live (rows ++ L) q = some ⟨L8, bs (bytesJ (nextJ (K0 x) s))⟩ → Kk (.sl SOP ro [] 0 2 true) (rows ++ L)) :
    afun C0 2 r_journal_Next a_journal_Next [.ptr SF r [0], jD s] rows Kk := by
  obtain ⟨e, hv⟩ := hF.view
  have hin : ∀ L, FlIn (rows ++ L) (.ptr SF r [0]) (some (x, e)) := fun L => by
    obtain ⟨e', hv'⟩ := (hF.push L).view
    have : e' = e := by
      obtain ⟨⟨ex, g1⟩, g2⟩ := hF
      have a1 : view rows 9 (.ptr SF r [0]) = some (flD (some (x, ex))) := by
        have he : elems rows (.sl L8 m [] 0 x.length ex) = some (bs x) := by
          simp only [elems, g2]; simp [bs_take_len]
        simp only [Am.view, g1, rowGet, List.getElem?_cons_zero, D.get, flD, Sh.pure, mapO]
        rw [he]
        simp [bs_len, mapO, he]
      have g1' := live_app g1 L
      have g2' := live_app g2 L
      have a2 : view (rows ++ L) 9 (.ptr SF r [0]) = some (flD (some (x, ex))) := by
        have he : elems (rows ++ L) (.sl L8 m [] 0 x.length ex) = some (bs x) := by
          simp only [elems, g2']; simp [bs_take_len]
        simp only [Am.view, g1', rowGet, List.getElem?_cons_zero, D.get, flD, Sh.pure, mapO]
        rw [he]
        simp [bs_len, mapO, he]
      have b1 := flD_inj _ _ (Option.some.inj (hv.symm.trans a1))
      have b2 := flD_inj _ _ (Option.some.inj (hv'.symm.trans a2))
      injection b1 with b1
      injection b2 with b2
      injection b1 with _ b1
      injection b2 with _ b2
      rw [b1, b2]
    subst this
    exact .inl ⟨by simp [hasRef], hv'⟩
  have hin0 := hin []
  rw [List.append_nil] at hin0
  refine next_run C0 s hin0 hin hx2 H.f0.read H.f0.right H.f0.bytes (fun hb L => h0 (by rw [← nextB_e e s hx1]; exact hb) L) (fun hb rows' ro q hL hro hq l1 l2 => ?_)
  obtain ⟨L, rfl⟩ := hL
  rw [nextO_e e s q hx1] at l1
  rw [nextJ_e e s hx1] at l2
  exact h1 (by rw [← nextB_e e s hx1]; exact hb) L ro q hro hq l1 l2
theorem doA {C0 C1 C : Ctx} (H : JR C0 C1 C) {rows : Rows} {r m ro q : Nat} {ex : Bool} {x : List (BitVec 8)} (s : JS) (hF : FlAt rows r m x) (hx1 : 8704 ≤ x.length) (hx2 : x.length ≤ 1048576) (hro : live rows ro = some ⟨SOP, (nextO (K0 x) s q).map JO.D⟩) (nro : ro ≠ m) (hq : live rows q = some ⟨L8, bs (bytesJ (nextJ (K0 x) s))⟩) (nq : q ≠ m) {K : D → Rows → Prop}
    (hk : ∀ rows', Upd rows rows' r m (doX x (nextO (K0 x) s q)) → K (.raw (it 0)) rows') : afun C1 3 r_journal_Do a_journal_Do [.ptr SF r [0], .raw (.pointer none), .sl SOP ro [] 0 2 ex] rows K := by
  refine do_run C1 C0 (n := 2) hF hx2 hro nro rfl (by omega) (fun j o ho => ?_) H.f0.after H.f0.nT H.f0.rT H.f1.all H.n1 H.r1 hk
  obtain ⟨a1, a2, a3⟩ := next_ok hx1 j o ho
  refine ⟨?_, a2, a3⟩
  match j with
  | 0 => cases ho; exact .er
  | 1 =>
    cases ho
    have := OpB.wr (rows := rows) (m := m) q (bytesJ (nextJ (K0 x) s)) false hq (by rw [bytes_len]; omega) (by rw [bytes_len]; omega) nq
    rwa [bytes_len] at this
  | j + 2 => cases ho
/-- a new flash tells nothing -/
theorem parse_ff (n : Nat) (p : List (BitVec 8)) (h : p.getD 0 0#8 = 255#8) : (parseJ p).2 = false := by
  by_cases hl : p.length = 32
  · have : ¬ bytesJ (ofJ p) = p := fun e => by
      have h4 := ((bytes_of p hl).1 e).1.1
      have h5 := congrArg (fun l => l.getD 0 0#8) h4
      have h6 : (p.take 4).getD 0 0#8 = p.getD 0 0#8 := by simp only [List.getD_eq_getElem?_getD]; rw [List.getElem?_take_of_lt (by omega)]
      simp only [h6, h] at h5
      exact absurd h5 (by decide)
    rw [parseJ, decide_eq_false this]; simp
  · rw [parseJ, decide_eq_false hl]; rfl
theorem new_ref (x : List (BitVec 8)) (hx : x = List.replicate 10240 255#8) : refJ x = (firstJ, -1) := by
  have hl : x.length = 10240 := by rw [hx, List.length_replicate]
  have hg : ∀ i, i < 10240 → x.getD i 0#8 = 255#8 := fun i hi => by rw [hx]; exact rep255 _ _ hi
  rw [ref_pick x (by omega)]
  have h1 := parse_ff 0 (sub x 8192 32) (by rw [sub_get _ _ _ _ (by omega)]; exact hg _ (by omega))
  have h2 := parse_ff 0 (sub x 8448 32) (by rw [sub_get _ _ _ _ (by omega)]; exact hg _ (by omega))
  rw [pick2, h1, h2]; rfl
theorem eqA_jD (a b : JS) : eqA SJ (jD a) (jD b) = some (decide (a = b)) := by
  obtain ⟨q, x, y, z⟩ := a
  obtain ⟨q', x', y', z'⟩ := b
  have h32 : ∀ p p' : BitVec 32, (p.toNat : Int) = (p'.toNat : Int) ↔ p = p' := fun p p' => ⟨fun h => BitVec.eq_of_toNat_eq (by omega), fun h => by rw [h]⟩
  simp only [jD, eqA, beq_self_eq_true, Bool.and_self, cond_true, eqL, eqD, eqLeaf, u32, it, JS.mk.injEq]
  by_cases h1 : q = q' <;> by_cases h2 : x = x' <;> by_cases h3 : y = y' <;> by_cases h4 : z = z' <;> simp [h1, h2, h3, h4, h32]
def fAwakeJ : Fn
  | [], [] => some (.raw (.bool true), [])
  | _, _ => none
set_option maxHeartbeats 1000000 in
theorem awakej_ok (C0 C1 C : Ctx) (hC : CtxOK C P) (H : JR C0 C1 C) : Meets C.glob P 8 (Fn.run fAwakeJ) := by
  refine fn_meets (m_law22_awake C hC) fun ds rows r h => ?_
  unfold fAwakeJ at h
  split at h
  · cases h
    refine ⟨rfl, afun_mk rfl ?_⟩
    unfold a_law22_awake r_law22_awake
    simp only [↓amD, amU, Nat.reduceBEq, Nat.reduceAdd, Nat.reduceSub, Nat.reduceMul, Nat.reduceMod, Nat.reducePow, Nat.reduceLT, Nat.reduceDiv, Int.reduceToNat, BitVec.reduceToNat, zipEnv, Int.reduceLE, Int.reduceLT, Int.reduceNeg, BitVec.reduceEq, Int.reduceAdd, Int.reduceSub, Int.reduceMul, Nat.reduceLeDiff, Int.reduceEq, H.f.nN, H.f.rN]
    refine newA 40 (by omega) fun R0 r m hM => ?_
    obtain ⟨x, hx⟩ : ∃ x, x = List.replicate (256 * 40) 255#8 := ⟨_, rfl⟩
    have hxl : x.length = 10240 := by rw [hx, List.length_replicate]
    have hnr := new_ref x hx
    rw [← hx] at hM
    simp only [↓amD, amU, Nat.reduceBEq, Nat.reduceAdd, Nat.reduceSub, Nat.reduceMul, Nat.reduceMod, Nat.reducePow, Nat.reduceLT, Nat.reduceDiv, Int.reduceToNat, BitVec.reduceToNat, zipEnv, Int.reduceLE, Int.reduceLT, Int.reduceNeg, BitVec.reduceEq, Int.reduceAdd, Int.reduceSub, Int.reduceMul, Nat.reduceLeDiff, Int.reduceEq, lv_app0, lv_appk, set_app0, set_appk, List.append_assoc, List.append_nil, Nat.add_assoc, H.nn, H.rn, jD_mk]
    have hr0 := read_ref x false (by omega)
    have hB : nextB (K0 x) ⟨0#32, 1, 0, 0⟩ = true := by
      unfold nextB; rw [hr0, hnr]; decide
    have hJ : nextJ (K0 x) ⟨0#32, 1, 0, 0⟩ = ⟨1#32, 1, 0, 0⟩ := by
      unfold nextJ; rw [hr0, hnr]; rfl
    have hP : nextP (K0 x) = 32 := by
      unfold nextP; rw [hr0, hnr]; rfl
    have hrt : rightJ ⟨1#32, 1, 0, 0⟩ = true := by decide
    refine nextA H hM.fl (by omega) (by omega) _ (fun h => by rw [hB] at h; cases h) fun _ L ro q hro hq l1 l2 => ?_
    simp only [↓amD, amU, Nat.reduceBEq, Nat.reduceAdd, Nat.reduceSub, Nat.reduceMul, Nat.reduceMod, Nat.reducePow, Nat.reduceLT, Nat.reduceDiv, Int.reduceToNat, BitVec.reduceToNat, zipEnv, Int.reduceLE, Int.reduceLT, Int.reduceNeg, BitVec.reduceEq, Int.reduceAdd, Int.reduceSub, Int.reduceMul, Nat.reduceLeDiff, Int.reduceEq, lv_app0, lv_appk, set_app0, set_appk, List.append_assoc, List.append_nil, Nat.add_assoc, H.nd, H.rd]
    have lt := hM.fl.lt
    refine doA H ⟨0#32, 1, 0, 0⟩ (hM.fl.push L) (by omega) (by omega) l1 (by omega) l2 (by omega) fun rows' U => ?_
    have hy := next_ref (x := x) (e := false) (s := ⟨0#32, 1, 0, 0⟩) (q := q) (by omega) hB
    rw [hJ, hP] at hy
    have hyl := doX_len x (nextO (K0 x) ⟨0#32, 1, 0, 0⟩ q)
    have hF := U.fl
    generalize doX x (nextO (K0 x) ⟨0#32, 1, 0, 0⟩ q) = y at hF hy hyl
    have kr := fun k => kReadF hF (by omega) (by omega) k
    rw [hy] at kr
    have hE : eqA SJ (jD ⟨1#32, 1, 0, 0⟩) (jD ⟨1#32, 1, 0, 0⟩) = some true := eqA_j _
    simp only [↓amD, amU, Nat.reduceBEq, Nat.reduceAdd, Nat.reduceSub, Nat.reduceMul, Nat.reduceMod, Nat.reducePow, Nat.reduceLT, Nat.reduceDiv, Int.reduceToNat, BitVec.reduceToNat, zipEnv, Int.reduceLE, Int.reduceLT, Int.reduceNeg, BitVec.reduceEq, Int.reduceAdd, Int.reduceSub, Int.reduceMul, Nat.reduceLeDiff, Int.reduceEq, lv_app0, lv_appk, set_app0, set_appk, List.append_assoc, List.append_nil, Nat.add_assoc, H.f.read, kr, jD_fits, jD_mk, hE]
    exact .val _ rfl
  · cases h
theorem kAwakeJ (rows : Rows) (k : D → Rows → Prop) : kCall fAwakeJ rows k [] = k (.raw (.bool true)) rows := by
  refine (kCall_val rfl (r := (.raw (.bool true), [])) rfl).trans ?_
  simp [shift, shiftRows]
end Job
end Go.Am
