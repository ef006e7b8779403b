/- manifests: images -/
import Derived.Test.YtbipaoihfpklgaaDoorManA
import Derived.Test.YtbipaoihfpklgaaDoorCom
import Derived.Test.YtbipaoihfpklgaaDoorMan4
namespace Go.Am
set_option linter.unusedSimpArgs false
set_option linter.unusedVariables false
attribute [local congr] bnd_congr kCond_congr kGd_congr kPick_congr kCall_congr kIdx_congr kSlice_congr kLoop_congr cond_congr' aBin_congr aBounds_congr aApp_congr aCopy_congr kFn_congr
namespace Job
open Go.Am.F
set_option maxRecDepth 10000
theorem b_shlI (a : Nat) (h : a < 256) (k : D → Prop) : aBin .shl (it (a : Int)) (u64 8#64) k = k (.raw (it ((a * 256 : Nat) : Int))) := by
  have e : wz ((a : Int) * 2 ^ 8) = ((a * 256 : Nat) : Int) := by rw [wz_id (by omega)]; omega
  show (0 ≤ (8 : Int) ∧ k (.raw (.int .i64 (IntKind.i64.wrap ((a : Int) * 2 ^ (min 8 64)))))) = _
  rw [show IntKind.i64.wrap ((a : Int) * 2 ^ (min 8 64)) = wz ((a : Int) * 2 ^ 8) from rfl, e]
  simp [it]
theorem b_orI (a b : Nat) (ha : a < 256) (hb : b < 256) (k : D → Prop) : aBin .or (it ((a * 256 : Nat) : Int)) (it (b : Int)) k = k (.raw (it ((a * 256 + b : Nat) : Int))) := by
  have e1 : (BitVec.ofInt 64 ((a * 256 : Nat) : Int) ||| BitVec.ofInt 64 (b : Int)).toNat = a * 256 + b := by
    have x1 : BitVec.ofInt 64 ((a * 256 : Nat) : Int) = BitVec.ofNat 64 (a * 256) := rfl
    have x2 : BitVec.ofInt 64 (b : Int) = BitVec.ofNat 64 b := rfl
    rw [x1, x2, BitVec.toNat_or, BitVec.toNat_ofNat, BitVec.toNat_ofNat, Nat.mod_eq_of_lt (by omega), Nat.mod_eq_of_lt (by omega)]
    have := shl_or a b 8 (by omega)
    rw [Nat.shiftLeft_eq] at this
    exact this
  show (IntKind.i64 = IntKind.i64 ∧ k (.raw (.int .i64 (IntKind.i64.wrap (((BitVec.ofInt 64 ((a * 256 : Nat) : Int) ||| BitVec.ofInt 64 (b : Int)).toNat : Nat) : Int))))) = _
  rw [e1, show IntKind.i64.wrap ((a * 256 + b : Nat) : Int) = wz ((a * 256 + b : Nat) : Int) from rfl, wz_id (by omega)]
  simp [it]
def n2I (n : Nat) : List (BitVec 8) := [BitVec.ofNat 8 (n / 256), BitVec.ofNat 8 n]
def imgL (m : Man) (sig p : List (BitVec 8)) : List (BitVec 8) := bodyL m ++ (n2I sig.length ++ (sig ++ p))
def imgOk (m : Man) (sig p : List (BitVec 8)) : Bool := rightS m && (decide ((p.length : Int) = m.s) && decide (sig.length ≤ 65535))
noncomputable def fImage : Fn := fn3 (rdOf manD) rdBs rdBs (fun m sig p => decide (m.dg.length = 32) && (Nat.ble sig.length 1099511627 && Nat.ble p.length 1099511627)) fun m sig p =>
  bif imgOk m sig p then (.tup [.sl L8 0 [] 0 (imgL m sig p).length false, .raw (it 0)], [some ⟨L8, bs (imgL m sig p)⟩]) else (.tup [.raw (.slice none 0 0), .raw (it 1)], [])
theorem kBJoin (rows : Rows) (k : D → Rows → Prop) (r n : Nat) (ex : Bool) (l : List D) (ls : List (List (BitVec 8))) (hl : live rows r = some ⟨.ref, l⟩) (hn : l.length = n)
    (hv : All2 (fun x y => BsIn rows x y) l ls) (hp : ls.length ≤ 1099511627776) (hp2 : ls.flatten.length ≤ 1099511627776) : kCall fBJoin rows k [.sl .ref r [] 0 n ex, .raw (.slice none 0 0)] = k (.sl L8 (0 + rows.length) [] 0 ls.flatten.length false) (rows ++ [some ⟨L8, bs ls.flatten⟩]) := by
  refine (kCall_rd2 (.parts hl hn hv) (.raw (a := ()) rfl) (by simp only [Bool.and_eq_true, Nat.ble_eq]; exact ⟨hp, hp2⟩) (by simp [outBs, noLst, noLstRows, Sh.pure]) k).trans ?_
  simp [outBs, shift, shiftRows, Sh.pure]
set_option maxHeartbeats 2000000 in
theorem image_ok (C : Ctx) (hC : CtxOK C P) (h7 : C.fn 7 = some fBodyM) (hj : C.fn 28 = some fBJoin) : Meets C.glob P 17 (Fn.run fImage) := by
  refine fn_meetsN (m_manifest_Image C hC) fun ds rows r h => ?_
  obtain ⟨d, e, f, m, sig, p, rfl, rfl, hd, he, hf, hp, rfl⟩ := fn3_some h
  cases rdOf_some hd
  obtain ⟨x, hx⟩ := rdBs_nrm he
  obtain ⟨y, hy⟩ := rdBs_nrm hf
  refine ⟨rfl, _, .cons (.refl _) (.cons hx (.cons hy .nil)), afun_mk rfl ?_⟩
  simp only [Bool.and_eq_true, decide_eq_true_eq, Nat.ble_eq] at hp
  obtain ⟨hm, hs, hpl⟩ := hp
  clear h hd he hf hx hy
  unfold a_manifest_Image r_manifest_Image
  have hfm := manD_fits m
  have gs : (manD m).get [1] = some (.raw (it m.s)) := rfl
  cases hk : rightS m
  · have kb := fun rows k => kBodyN rows k m hm hk
    have hi : imgOk m sig p = false := by simp [imgOk, hk]
    simp only [↓amD, amU, Nat.reduceBEq, Nat.reduceAdd, Nat.reduceSub, Nat.reduceMul, Nat.reduceMod, Nat.reducePow, Nat.reduceLT, Nat.reduceDiv, Int.reduceToNat, BitVec.reduceToNat, zipEnv, Int.reduceLE, Int.reduceLT, Int.reduceNeg, BitVec.reduceEq, Int.reduceAdd, Int.reduceSub, Int.reduceMul, Nat.reduceLeDiff, Int.reduceEq, hfm, h7, kb, hi, cond_false]
    exact .val _ rfl
  · have kb := fun rows k => kBodyM rows k m hm hk
    by_cases c1 : (p.length : Int) = m.s
    · by_cases c2 : sig.length ≤ 65535
      · have hi : imgOk m sig p = true := by simp [imgOk, hk, c1, c2]
        have c2' : (65535 < (sig.length : Int)) = False := eq_false (by omega)
        have e8 : ((sig.length : Int).fdiv (2 ^ (min 8 64))) = ((sig.length / 256 : Nat) : Int) := fdiv_nat sig.length 256
        have e4 : ∀ m : Nat, BitVec.ofInt 8 (m : Int) = BitVec.ofNat 8 m := fun m => rfl
        have b48 := body_len m hm
        simp only [↓amD, amU, Nat.reduceBEq, Nat.reduceAdd, Nat.reduceSub, Nat.reduceMul, Nat.reduceMod, Nat.reducePow, Nat.reduceLT, Nat.reduceDiv, Int.reduceToNat, BitVec.reduceToNat, zipEnv, Int.reduceLE, Int.reduceLT, Int.reduceNeg, BitVec.reduceEq, Int.reduceAdd, Int.reduceSub, Int.reduceMul, Nat.reduceLeDiff, Int.reduceEq, hfm, h7, kb, hi, cond_true, bs_len, gs, c1, c2', b_shri, e8, e4, hj]
        refine Eq.mpr (kBJoin _ _ _ 4 _ _ [bodyL m, n2I sig.length, sig, p] rfl rfl (.cons (BsIn.own rfl 48 b48.symm) (.cons (BsIn.own (l := n2I sig.length) rfl 2 rfl) (.cons (IsBs.to (.inr ⟨x, rfl⟩)) (.cons (IsBs.to (.inr ⟨y, rfl⟩)) .nil)))) (by simp) (by simp [b48, n2I]; omega)) ?_
        have hfl : [bodyL m, n2I sig.length, sig, p].flatten = imgL m sig p := by simp [imgL]
        rw [hfl]
        simp only [↓amD, amU, Nat.reduceBEq, Nat.reduceAdd, Nat.reduceSub, Nat.reduceMul, Nat.reduceMod, Nat.reducePow, Nat.reduceLT, Nat.reduceDiv, Int.reduceToNat, BitVec.reduceToNat, zipEnv, Int.reduceLE, Int.reduceLT, Int.reduceNeg, BitVec.reduceEq, Int.reduceAdd, Int.reduceSub, Int.reduceMul, Nat.reduceLeDiff, Int.reduceEq]
        exact .ownT L8 _ 0 _ false false _ [.raw (it 0)] rfl rfl rfl (fun h => by cases h)
      · have hi : imgOk m sig p = false := by simp [imgOk, c2]
        have c2' : (65535 < (sig.length : Int)) = True := eq_true (by omega)
        simp only [↓amD, amU, Nat.reduceBEq, Nat.reduceAdd, Nat.reduceSub, Nat.reduceMul, Nat.reduceMod, Nat.reducePow, Nat.reduceLT, Nat.reduceDiv, Int.reduceToNat, BitVec.reduceToNat, zipEnv, Int.reduceLE, Int.reduceLT, Int.reduceNeg, BitVec.reduceEq, Int.reduceAdd, Int.reduceSub, Int.reduceMul, Nat.reduceLeDiff, Int.reduceEq, hfm, h7, kb, hi, cond_false, bs_len, gs, c1, c2']
        exact .val _ rfl
    · have hi : imgOk m sig p = false := by simp [imgOk, c1]
      simp only [↓amD, amU, Nat.reduceBEq, Nat.reduceAdd, Nat.reduceSub, Nat.reduceMul, Nat.reduceMod, Nat.reducePow, Nat.reduceLT, Nat.reduceDiv, Int.reduceToNat, BitVec.reduceToNat, zipEnv, Int.reduceLE, Int.reduceLT, Int.reduceNeg, BitVec.reduceEq, Int.reduceAdd, Int.reduceSub, Int.reduceMul, Nat.reduceLeDiff, Int.reduceEq, hfm, h7, kb, hi, cond_false, bs_len, gs, c1]
      exact .val _ rfl
theorem kImage (rows : Rows) (k : D → Rows → Prop) (m : Man) (d e : D) (sig p : List (BitVec 8)) (hm : m.dg.length = 32) (h : BsIn rows d sig) (h' : BsIn rows e p) (hs : sig.length ≤ 1099511627) (hp : p.length ≤ 1099511627) (hi : imgOk m sig p = true) :
    kCall fImage rows k [manD m, d, e] = k (.tup [.sl L8 (0 + rows.length) [] 0 (imgL m sig p).length false, .raw (it 0)]) (rows ++ [some ⟨L8, bs (imgL m sig p)⟩]) := by
  refine (kCall_rd3 (.agg rfl (rdOf_eq manD_inj m)) (.bs h) (.bs h') (by simp [hm, hs, hp]) ?_ k).trans ?_
  · rw [hi]; simp [noLst, noLstL, noLstRows, Sh.pure]
  · rw [hi]; simp [shift, shiftL, shiftRows, Sh.pure]
theorem kImageN (rows : Rows) (k : D → Rows → Prop) (m : Man) (d e : D) (sig p : List (BitVec 8)) (hm : m.dg.length = 32) (h : BsIn rows d sig) (h' : BsIn rows e p) (hs : sig.length ≤ 1099511627) (hp : p.length ≤ 1099511627) (hi : imgOk m sig p = false) :
    kCall fImage rows k [manD m, d, e] = k (.tup [.raw (.slice none 0 0), .raw (it 1)]) rows := by
  refine (kCall_rd3 (.agg rfl (rdOf_eq manD_inj m)) (.bs h) (.bs h') (by simp [hm, hs, hp]) ?_ k).trans ?_
  · rw [hi]; simp [noLst, noLstL, noLstRows, Sh.pure]
  · rw [hi]; simp [shift, shiftL, shiftRows]
/-- what is read of an image -/
def sigN (q : List (BitVec 8)) : Nat := (q.getD 48 0#8).toNat * 256 + (q.getD 49 0#8).toNat
def readS (q : List (BitVec 8)) : Man × List (BitVec 8) × List (BitVec 8) × Int :=
  bif decide (q.length < 50) then (zeroM, [], [], 2) else
  bif decide ((parseS (q.take 48)).2 ≠ 0) then (zeroM, [], [], (parseS (q.take 48)).2) else
  bif decide ((q.length : Int) < 50 + sigN q + (parseS (q.take 48)).1.s) then (zeroM, [], [], 2) else
  ((parseS (q.take 48)).1, (q.drop 50).take (sigN q), (q.drop (50 + sigN q)).take (parseS (q.take 48)).1.s.toNat, 0)
theorem parse_s (p : List (BitVec 8)) (h : (parseS p).2 = 0) : ∃ s : Nat, (parseS p).1.s = (s : Int) ∧ s ≤ 2048 := by
  unfold parseS at h ⊢
  cases h1 : decide (p.length = 48) <;> cases h2 : decide (p.take 4 = curt) <;> rw [h1, h2] at h <;> simp only [Bool.and_self, Bool.and_true, Bool.and_false, Bool.false_and, cond_false, cond_true] at h ⊢ <;> try (exact absurd h (by decide))
  cases h3 : rightS (manOf p) <;> rw [h3] at h <;> simp only [cond_false, cond_true] at h ⊢
  · exact absurd h (by decide)
  · obtain ⟨v, s, e, hv, hs, he, b1, b2, b3, b4, -, -⟩ := right_nat h3
    exact ⟨s, hs, b2⟩
theorem ownMk {rows : Rows} {r n : Nat} {ex : Bool} {l : List (BitVec 8)} (h : live rows r = some ⟨L8, bs l⟩) (hn : n = l.length) : Own L8 (.sl L8 r [] 0 n ex) rows (bs l) := by
  subst hn
  exact .inr ⟨r, ex, by rw [bs_len], h⟩
/-- a text that was read: a slice of it, with the same bytes -/
def Read1 (rows rows' : Rows) (q : List (BitVec 8)) (d : D) : Prop := ∃ L d1 d2, rows' = rows ++ L ∧ d = .tup [manD (readS q).1, d1, d2, .raw (it (readS q).2.2.2)] ∧ Own L8 d1 rows' (bs (readS q).2.1) ∧ Own L8 d2 rows' (bs (readS q).2.2.1)
set_option maxHeartbeats 2000000 in
theorem read_run (C : Ctx) {rows : Rows} {r n : Nat} {ex : Bool} {q : List (BitVec 8)} (hl : live rows r = some ⟨L8, bs q⟩) (hn : n = q.length) (hq : q.length ≤ 1099511627) {K : D → Rows → Prop}
    (h13 : C.fn 13 = some fParse) (h30 : C.fn 30 = some fClone)
    (h : ∀ d rows', Read1 rows rows' q d → K d rows') : afun C 1 r_manifest_Read a_manifest_Read [.sl L8 r [] 0 n ex] rows K := by
  subst hn
  refine afun_mk rfl ?_
  unfold a_manifest_Read r_manifest_Read
  simp only [-List.reduceReplicate, manD_z]
  have hfz := manD_fits zeroM
  have hf := manD_fits
  by_cases c1 : q.length < 50
  · have c1' : ((q.length : Int) < 50) = True := eq_true (by omega)
    have hr : readS q = (zeroM, [], [], 2) := by unfold readS; rw [decide_eq_true c1]; rfl
    have fin : ∀ L, K (.tup [manD zeroM, .raw (.slice none 0 0), .raw (.slice none 0 0), .raw (it 2)]) (rows ++ L) := fun L => h _ _ ⟨L, _, _, rfl, by rw [hr], by rw [hr]; exact .inl ⟨rfl, rfl⟩, by rw [hr]; exact .inl ⟨rfl, rfl⟩⟩
    simp only [↓amD, amU, Nat.reduceBEq, Nat.reduceAdd, Nat.reduceSub, Nat.reduceMul, Nat.reduceMod, Nat.reducePow, Nat.reduceLT, Nat.reduceDiv, Int.reduceToNat, BitVec.reduceToNat, zipEnv, Int.reduceLE, Int.reduceLT, Int.reduceNeg, BitVec.reduceEq, Int.reduceAdd, Int.reduceSub, Int.reduceMul, Nat.reduceLeDiff, Int.reduceEq, lv_app0, lv_appk, set_app0, set_appk, List.append_assoc, List.append_nil, Nat.add_assoc, c1', hf]
    exact fin _
  · have c1' : ((q.length : Int) < 50) = False := eq_false (by omega)
    have c48 : (48 : Int) ≤ (q.length : Int) := by omega
    have b48 : ∀ L e, BsIn (rows ++ L) (.sl L8 r [] 0 48 e) (q.take 48) := fun L e => by
      have := BsIn.sub (off := 0) (len := 48) (ex := e) (live_app hl L) (by omega)
      rwa [List.drop_zero] at this
    have kp := fun L e k => kParse (rows ++ L) k (.sl L8 r [] 0 48 e) (q.take 48) (b48 L e) (by rw [List.length_take]; omega)
    simp only [↓amD, amU, Nat.reduceBEq, Nat.reduceAdd, Nat.reduceSub, Nat.reduceMul, Nat.reduceMod, Nat.reducePow, Nat.reduceLT, Nat.reduceDiv, Int.reduceToNat, BitVec.reduceToNat, zipEnv, Int.reduceLE, Int.reduceLT, Int.reduceNeg, BitVec.reduceEq, Int.reduceAdd, Int.reduceSub, Int.reduceMul, Nat.reduceLeDiff, Int.reduceEq, lv_app0, lv_appk, set_app0, set_appk, List.append_assoc, List.append_nil, Nat.add_assoc, c1', c48, hf, h13, kp]
    by_cases c2 : (parseS (q.take 48)).2 = 0
    · obtain ⟨s, hs, hs2⟩ := parse_s _ c2
      have gs : (manD (parseS (q.take 48)).1).get [1] = some (.raw (it (s : Int))) := by rw [← hs]; rfl
      have g48 := bs_get (l := q) (i := 48) (by omega)
      have g49 := bs_get (l := q) (i := 49) (by omega)
      have i48 : ((48 : Int) < (q.length : Int)) = True := eq_true (by omega)
      have i49 : ((49 : Int) < (q.length : Int)) = True := eq_true (by omega)
      have t48 : (q.getD 48 0#8).toNat < 256 := (q.getD 48 0#8).isLt
      have t49 : (q.getD 49 0#8).toNat < 256 := (q.getD 49 0#8).isLt
      have sh8 := fun k => b_shlI _ t48 k
      have or8 := fun k => b_orI _ _ t48 t49 k
      have sgn : (q.getD 48 0#8).toNat * 256 + (q.getD 49 0#8).toNat = sigN q := rfl
      have sgb : sigN q < 65536 := by unfold sigN; omega
      have w1 : wz ((sigN q : Int) + (s : Int)) = ((sigN q + s : Nat) : Int) := by rw [wz_id (by omega)]; omega
      have hlA := fun L => live_app hl L
      have c50 : (50 : Int) ≤ (q.length : Int) := by omega
      simp only [↓amD, amU, Nat.reduceBEq, Nat.reduceAdd, Nat.reduceSub, Nat.reduceMul, Nat.reduceMod, Nat.reducePow, Nat.reduceLT, Nat.reduceDiv, Int.reduceToNat, BitVec.reduceToNat, zipEnv, Int.reduceLE, Int.reduceLT, Int.reduceNeg, BitVec.reduceEq, Int.reduceAdd, Int.reduceSub, Int.reduceMul, Nat.reduceLeDiff, Int.reduceEq, lv_app0, lv_appk, set_app0, set_appk, List.append_assoc, List.append_nil, Nat.add_assoc, c2, hf, hlA, g48, g49, i48, i49, sh8, or8, sgn, gs, w1, c50]
      by_cases c3 : (q.length : Int) < 50 + (sigN q : Int) + (s : Int)
      · have hr : readS q = (zeroM, [], [], 2) := by
          unfold readS
          rw [decide_eq_false c1, c2, hs, decide_eq_true c3]
          rfl
        have fin : ∀ L, K (.tup [manD zeroM, .raw (.slice none 0 0), .raw (.slice none 0 0), .raw (it 2)]) (rows ++ L) := fun L => h _ _ ⟨L, _, _, rfl, by rw [hr], by rw [hr]; exact .inl ⟨rfl, rfl⟩, by rw [hr]; exact .inl ⟨rfl, rfl⟩⟩
        have c3' : (((q.length - 50 : Nat) : Int) < ((sigN q + s : Nat) : Int)) = True := eq_true (by omega)
        simp only [↓amD, amU, Nat.reduceBEq, Nat.reduceAdd, Nat.reduceSub, Nat.reduceMul, Nat.reduceMod, Nat.reducePow, Nat.reduceLT, Nat.reduceDiv, Int.reduceToNat, BitVec.reduceToNat, zipEnv, Int.reduceLE, Int.reduceLT, Int.reduceNeg, BitVec.reduceEq, Int.reduceAdd, Int.reduceSub, Int.reduceMul, Nat.reduceLeDiff, Int.reduceEq, lv_app0, lv_appk, set_app0, set_appk, List.append_assoc, List.append_nil, Nat.add_assoc, c3', hf]
        exact fin _
      · have hr : readS q = ((parseS (q.take 48)).1, (q.drop 50).take (sigN q), (q.drop (50 + sigN q)).take s, 0) := by
          unfold readS
          rw [decide_eq_false c1, c2, hs, decide_eq_false c3]
          rfl
        have fin : ∀ L d1 d2, Own L8 d1 (rows ++ L) (bs ((q.drop 50).take (sigN q))) → Own L8 d2 (rows ++ L) (bs ((q.drop (50 + sigN q)).take s)) → K (.tup [manD (parseS (q.take 48)).1, d1, d2, .raw (it 0)]) (rows ++ L) := fun L d1 d2 k1 k2 => h _ _ ⟨L, _, _, rfl, by rw [hr], by rw [hr]; exact k1, by rw [hr]; exact k2⟩
        have c3' : (((q.length - 50 : Nat) : Int) < ((sigN q + s : Nat) : Int)) = False := eq_false (by omega)
        have d0 : (0 : Int) ≤ (sigN q : Int) := by omega
        have d1 : (sigN q : Int) ≤ ((q.length - 50 : Nat) : Int) := by omega
        have d2 : (sigN q : Int) ≤ ((sigN q + s : Nat) : Int) := by omega
        have d3 : ((sigN q + s : Nat) : Int) ≤ ((q.length - 50 : Nat) : Int) := by omega
        have d4 : sigN q + s - sigN q = s := by omega
        have l1 : ((q.drop 50).take (sigN q)).length = sigN q := by rw [List.length_take, List.length_drop]; omega
        have l2 : ((q.drop (50 + sigN q)).take s).length = s := by rw [List.length_take, List.length_drop]; omega
        have kc1 := fun L e k => kClone (rows ++ L) k (.sl L8 r [] 50 (sigN q) e) ((q.drop 50).take (sigN q)) (BsIn.sub (live_app hl L) (by omega)) (by omega)
        have kc2 := fun L e k => kClone (rows ++ L) k (.sl L8 r [] (50 + sigN q) s e) ((q.drop (50 + sigN q)).take s) (BsIn.sub (live_app hl L) (by omega)) (by omega)
        rw [l1] at kc1
        rw [l2] at kc2
        simp only [↓amD, amU, Nat.reduceBEq, Nat.reduceAdd, Nat.reduceSub, Nat.reduceMul, Nat.reduceMod, Nat.reducePow, Nat.reduceLT, Nat.reduceDiv, Int.reduceToNat, BitVec.reduceToNat, zipEnv, Int.reduceLE, Int.reduceLT, Int.reduceNeg, BitVec.reduceEq, Int.reduceAdd, Int.reduceSub, Int.reduceMul, Nat.reduceLeDiff, Int.reduceEq, lv_app0, lv_appk, set_app0, set_appk, List.append_assoc, List.append_nil, Nat.add_assoc, c3', hf, d0, d1, Nat.sub_zero, h30, kc1]
        simp only [↓amD, amU, Nat.reduceBEq, Nat.reduceAdd, Nat.reduceSub, Nat.reduceMul, Nat.reduceMod, Nat.reducePow, Nat.reduceLT, Nat.reduceDiv, Int.reduceToNat, BitVec.reduceToNat, zipEnv, Int.reduceLE, Int.reduceLT, Int.reduceNeg, BitVec.reduceEq, Int.reduceAdd, Int.reduceSub, Int.reduceMul, Nat.reduceLeDiff, Int.reduceEq, lv_app0, lv_appk, set_app0, set_appk, List.append_assoc, List.append_nil, Nat.add_assoc, hf, gs, w1, d0, d1, d2, d3, d4, h30, kc2]
        refine fin _ _ _ ?_ ?_
        · exact ownMk (by rw [lv_appk]; rfl) l1.symm
        · exact ownMk (by rw [lv_appk]; rfl) l2.symm
    · have hr : readS q = (zeroM, [], [], (parseS (q.take 48)).2) := by
        unfold readS
        rw [decide_eq_false c1, decide_eq_true c2]
        rfl
      have fin : ∀ L, K (.tup [manD zeroM, .raw (.slice none 0 0), .raw (.slice none 0 0), .raw (it (parseS (q.take 48)).2)]) (rows ++ L) := fun L => h _ _ ⟨L, _, _, rfl, by rw [hr], by rw [hr]; exact .inl ⟨rfl, rfl⟩, by rw [hr]; exact .inl ⟨rfl, rfl⟩⟩
      simp only [↓amD, amU, Nat.reduceBEq, Nat.reduceAdd, Nat.reduceSub, Nat.reduceMul, Nat.reduceMod, Nat.reducePow, Nat.reduceLT, Nat.reduceDiv, Int.reduceToNat, BitVec.reduceToNat, zipEnv, Int.reduceLE, Int.reduceLT, Int.reduceNeg, BitVec.reduceEq, Int.reduceAdd, Int.reduceSub, Int.reduceMul, Nat.reduceLeDiff, Int.reduceEq, lv_app0, lv_appk, set_app0, set_appk, List.append_assoc, List.append_nil, Nat.add_assoc, c2, hf]
      exact fin _
theorem kValI (rows : Rows) (k : D → Rows → Prop) (d : D) (x : List (BitVec 8)) (h : BsIn rows d x) (hx : x.length ≤ 64) : kCall fValue rows k [d] = k (.raw (u64 (valS x))) rows := by
  refine (kCall_rd1 (.bs h) (by simp [most]; omega) rfl k).trans ?_
  simp [shift, shiftRows, valS]
theorem val2 (q : List (BitVec 8)) (h : 50 ≤ q.length) : wz (((valS ((q.drop 48).take 2)).toNat : Nat) : Int) = (sigN q : Int) := by
  have e : (q.drop 48).take 2 = [q.getD 48 0#8, q.getD 49 0#8] := by
    apply List.ext_getElem
    · simp only [List.length_take, List.length_drop, List.length_cons, List.length_nil]; omega
    · intro i h1 h2
      simp only [List.length_cons, List.length_nil] at h2
      have : i = 0 ∨ i = 1 := by omega
      rcases this with rfl | rfl
      · rw [List.getElem_take, List.getElem_drop]; simp [List.getD_eq_getElem?_getD]; rw [List.getElem?_eq_getElem (by omega)]; rfl
      · rw [List.getElem_take, List.getElem_drop]; simp [List.getD_eq_getElem?_getD]; rw [List.getElem?_eq_getElem (by omega)]; rfl
  rw [e]
  have t48 : (q.getD 48 0#8).toNat < 256 := (q.getD 48 0#8).isLt
  have t49 : (q.getD 49 0#8).toNat < 256 := (q.getD 49 0#8).isLt
  have v : (valS [q.getD 48 0#8, q.getD 49 0#8]).toNat = sigN q := by
    have : valS [q.getD 48 0#8, q.getD 49 0#8] = 256#64 * (256#64 * 0#64 + (q.getD 48 0#8).setWidth 64) + (q.getD 49 0#8).setWidth 64 := rfl
    rw [this]
    simp only [BitVec.toNat_add, BitVec.toNat_mul, BitVec.toNat_ofNat, BitVec.toNat_setWidth]
    unfold sigN
    omega
  rw [v, wz_id (by unfold sigN; omega)]
set_option maxHeartbeats 2000000 in
theorem rread_run (C : Ctx) {rows : Rows} {r n : Nat} {ex : Bool} {q : List (BitVec 8)} (hl : live rows r = some ⟨L8, bs q⟩) (hn : n = q.length) (hq : q.length ≤ 1099511627) {K : D → Rows → Prop}
    (h14 : C.fn 14 = some fParse) (h26 : C.fn 26 = some fValue) (h6 : C.fn 6 = some fCut)
    (h : ∀ d rows', Read1 rows rows' q d → K d rows') : afun C 1 r_ref08_Read a_ref08_Read [.sl L8 r [] 0 n ex] rows K := by
  subst hn
  refine afun_mk rfl ?_
  unfold a_ref08_Read r_ref08_Read
  simp only [-List.reduceReplicate, manD_z]
  have hfz := manD_fits zeroM
  have hf := manD_fits
  by_cases c1 : q.length < 50
  · have c1' : ((q.length : Int) < 50) = True := eq_true (by omega)
    have hr : readS q = (zeroM, [], [], 2) := by unfold readS; rw [decide_eq_true c1]; rfl
    have fin : ∀ L, K (.tup [manD zeroM, .raw (.slice none 0 0), .raw (.slice none 0 0), .raw (it 2)]) (rows ++ L) := fun L => h _ _ ⟨L, _, _, rfl, by rw [hr], by rw [hr]; exact .inl ⟨rfl, rfl⟩, by rw [hr]; exact .inl ⟨rfl, rfl⟩⟩
    simp only [↓amD, amU, Nat.reduceBEq, Nat.reduceAdd, Nat.reduceSub, Nat.reduceMul, Nat.reduceMod, Nat.reducePow, Nat.reduceLT, Nat.reduceDiv, Int.reduceToNat, BitVec.reduceToNat, zipEnv, Int.reduceLE, Int.reduceLT, Int.reduceNeg, BitVec.reduceEq, Int.reduceAdd, Int.reduceSub, Int.reduceMul, Nat.reduceLeDiff, Int.reduceEq, lv_app0, lv_appk, set_app0, set_appk, List.append_assoc, List.append_nil, Nat.add_assoc, c1', hf]
    exact fin _
  · have c1' : ((q.length : Int) < 50) = False := eq_false (by omega)
    have c48 : (48 : Int) ≤ (q.length : Int) := by omega
    have b48 : ∀ L e, BsIn (rows ++ L) (.sl L8 r [] 0 48 e) (q.take 48) := fun L e => by
      have := BsIn.sub (off := 0) (len := 48) (ex := e) (live_app hl L) (by omega)
      rwa [List.drop_zero] at this
    have kp := fun L e k => kParse (rows ++ L) k (.sl L8 r [] 0 48 e) (q.take 48) (b48 L e) (by rw [List.length_take]; omega)
    simp only [↓amD, amU, Nat.reduceBEq, Nat.reduceAdd, Nat.reduceSub, Nat.reduceMul, Nat.reduceMod, Nat.reducePow, Nat.reduceLT, Nat.reduceDiv, Int.reduceToNat, BitVec.reduceToNat, zipEnv, Int.reduceLE, Int.reduceLT, Int.reduceNeg, BitVec.reduceEq, Int.reduceAdd, Int.reduceSub, Int.reduceMul, Nat.reduceLeDiff, Int.reduceEq, lv_app0, lv_appk, set_app0, set_appk, List.append_assoc, List.append_nil, Nat.add_assoc, c1', c48, hf, h14, kp]
    by_cases c2 : (parseS (q.take 48)).2 = 0
    · obtain ⟨s, hs, hs2⟩ := parse_s _ c2
      have gs : (manD (parseS (q.take 48)).1).get [1] = some (.raw (it (s : Int))) := by rw [← hs]; rfl
      have g48 := bs_get (l := q) (i := 48) (by omega)
      have g49 := bs_get (l := q) (i := 49) (by omega)
      have i48 : ((48 : Int) < (q.length : Int)) = True := eq_true (by omega)
      have i49 : ((49 : Int) < (q.length : Int)) = True := eq_true (by omega)
      have t48 : (q.getD 48 0#8).toNat < 256 := (q.getD 48 0#8).isLt
      have t49 : (q.getD 49 0#8).toNat < 256 := (q.getD 49 0#8).isLt
      have sgb : sigN q < 65536 := by unfold sigN; omega
      have v2 := val2 q (by omega)
      have w0 : wz (50 + (sigN q : Int)) = ((50 + sigN q : Nat) : Int) := by rw [wz_id (by omega)]; omega
      have w1 : wz (((50 + sigN q : Nat) : Int) + (s : Int)) = ((50 + (sigN q + s) : Nat) : Int) := by rw [wz_id (by omega)]; omega
      have c50 : (50 : Int) ≤ (q.length : Int) := by omega
      have kv := fun L e k => kValI (rows ++ L) k (.sl L8 r [] 48 2 e) ((q.drop 48).take 2) (BsIn.sub (live_app hl L) (by omega)) (by rw [List.length_take]; omega)
      simp only [↓amD, amU, Nat.reduceBEq, Nat.reduceAdd, Nat.reduceSub, Nat.reduceMul, Nat.reduceMod, Nat.reducePow, Nat.reduceLT, Nat.reduceDiv, Int.reduceToNat, BitVec.reduceToNat, zipEnv, Int.reduceLE, Int.reduceLT, Int.reduceNeg, BitVec.reduceEq, Int.reduceAdd, Int.reduceSub, Int.reduceMul, Nat.reduceLeDiff, Int.reduceEq, lv_app0, lv_appk, set_app0, set_appk, List.append_assoc, List.append_nil, Nat.add_assoc, c2, hf, c50, h26, kv, v2, gs, w0, w1]
      by_cases c3 : (q.length : Int) < 50 + (sigN q : Int) + (s : Int)
      · have hr : readS q = (zeroM, [], [], 2) := by
          unfold readS
          rw [decide_eq_false c1, c2, hs, decide_eq_true c3]
          rfl
        have fin : ∀ L, K (.tup [manD zeroM, .raw (.slice none 0 0), .raw (.slice none 0 0), .raw (it 2)]) (rows ++ L) := fun L => h _ _ ⟨L, _, _, rfl, by rw [hr], by rw [hr]; exact .inl ⟨rfl, rfl⟩, by rw [hr]; exact .inl ⟨rfl, rfl⟩⟩
        have c3' : ((q.length : Int) < ((50 + (sigN q + s) : Nat) : Int)) = True := eq_true (by omega)
        simp only [↓amD, amU, Nat.reduceBEq, Nat.reduceAdd, Nat.reduceSub, Nat.reduceMul, Nat.reduceMod, Nat.reducePow, Nat.reduceLT, Nat.reduceDiv, Int.reduceToNat, BitVec.reduceToNat, zipEnv, Int.reduceLE, Int.reduceLT, Int.reduceNeg, BitVec.reduceEq, Int.reduceAdd, Int.reduceSub, Int.reduceMul, Nat.reduceLeDiff, Int.reduceEq, lv_app0, lv_appk, set_app0, set_appk, List.append_assoc, List.append_nil, Nat.add_assoc, c3', hf]
        exact fin _
      · have hr : readS q = ((parseS (q.take 48)).1, (q.drop 50).take (sigN q), (q.drop (50 + sigN q)).take s, 0) := by
          unfold readS
          rw [decide_eq_false c1, c2, hs, decide_eq_false c3]
          rfl
        have fin : ∀ L d1 d2, Own L8 d1 (rows ++ L) (bs ((q.drop 50).take (sigN q))) → Own L8 d2 (rows ++ L) (bs ((q.drop (50 + sigN q)).take s)) → K (.tup [manD (parseS (q.take 48)).1, d1, d2, .raw (it 0)]) (rows ++ L) := fun L d1 d2 k1 k2 => h _ _ ⟨L, _, _, rfl, by rw [hr], by rw [hr]; exact k1, by rw [hr]; exact k2⟩
        have c3' : ((q.length : Int) < ((50 + (sigN q + s) : Nat) : Int)) = False := eq_false (by omega)
        have d0 : (0 : Int) ≤ ((50 + sigN q : Nat) : Int) := by omega
        have d1 : ((50 + sigN q : Nat) : Int) ≤ (q.length : Int) := by omega
        have l1 : ((q.drop 50).take (sigN q)).length = sigN q := by rw [List.length_take, List.length_drop]; omega
        have l2 : ((q.drop (50 + sigN q)).take s).length = s := by rw [List.length_take, List.length_drop]; omega
        have kc1 := fun L e k => kCutI (rows ++ L) k (.sl L8 r [] 50 (q.length - 50) e) (q.drop 50) (sigN q) (by
          have := BsIn.sub (off := 50) (len := q.length - 50) (ex := e) (live_app hl L) (by omega)
          rwa [List.take_of_length_le (by rw [List.length_drop]; omega)] at this) (by rw [List.length_drop]; omega) (by rw [List.length_take, List.length_drop]; omega)
        have kc2 := fun L e k => kCutI (rows ++ L) k (.sl L8 r [] (50 + sigN q) (q.length - (50 + sigN q)) e) (q.drop (50 + sigN q)) s (by
          have := BsIn.sub (off := 50 + sigN q) (len := q.length - (50 + sigN q)) (ex := e) (live_app hl L) (by omega)
          rwa [List.take_of_length_le (by rw [List.length_drop]; omega)] at this) (by rw [List.length_drop]; omega) (by rw [List.length_take, List.length_drop]; omega)
        simp only [Int.toNat_natCast, l1] at kc1
        simp only [Int.toNat_natCast, l2] at kc2
        simp only [↓amD, amU, Nat.reduceBEq, Nat.reduceAdd, Nat.reduceSub, Nat.reduceMul, Nat.reduceMod, Nat.reducePow, Nat.reduceLT, Nat.reduceDiv, Int.reduceToNat, BitVec.reduceToNat, zipEnv, Int.reduceLE, Int.reduceLT, Int.reduceNeg, BitVec.reduceEq, Int.reduceAdd, Int.reduceSub, Int.reduceMul, Nat.reduceLeDiff, Int.reduceEq, lv_app0, lv_appk, set_app0, set_appk, List.append_assoc, List.append_nil, Nat.add_assoc, c3', hf, c50, h6, kc1, w0, d0, d1, gs]
        simp only [↓amD, amU, Nat.reduceBEq, Nat.reduceAdd, Nat.reduceSub, Nat.reduceMul, Nat.reduceMod, Nat.reducePow, Nat.reduceLT, Nat.reduceDiv, Int.reduceToNat, BitVec.reduceToNat, zipEnv, Int.reduceLE, Int.reduceLT, Int.reduceNeg, BitVec.reduceEq, Int.reduceAdd, Int.reduceSub, Int.reduceMul, Nat.reduceLeDiff, Int.reduceEq, lv_app0, lv_appk, set_app0, set_appk, List.append_assoc, List.append_nil, Nat.add_assoc, hf, gs, d0, d1, h6, kc2]
        refine fin _ _ _ ?_ ?_
        · exact ownMk (by rw [lv_appk]; rfl) l1.symm
        · exact ownMk (by rw [lv_appk]; rfl) l2.symm
    · have hr : readS q = (zeroM, [], [], (parseS (q.take 48)).2) := by
        unfold readS
        rw [decide_eq_false c1, decide_eq_true c2]
        rfl
      have fin : ∀ L, K (.tup [manD zeroM, .raw (.slice none 0 0), .raw (.slice none 0 0), .raw (it (parseS (q.take 48)).2)]) (rows ++ L) := fun L => h _ _ ⟨L, _, _, rfl, by rw [hr], by rw [hr]; exact .inl ⟨rfl, rfl⟩, by rw [hr]; exact .inl ⟨rfl, rfl⟩⟩
      simp only [↓amD, amU, Nat.reduceBEq, Nat.reduceAdd, Nat.reduceSub, Nat.reduceMul, Nat.reduceMod, Nat.reducePow, Nat.reduceLT, Nat.reduceDiv, Int.reduceToNat, BitVec.reduceToNat, zipEnv, Int.reduceLE, Int.reduceLT, Int.reduceNeg, BitVec.reduceEq, Int.reduceAdd, Int.reduceSub, Int.reduceMul, Nat.reduceLeDiff, Int.reduceEq, lv_app0, lv_appk, set_app0, set_appk, List.append_assoc, List.append_nil, Nat.add_assoc, c2, hf]
      exact fin _
end Job
end Go.Am
namespace Go.Am
set_option linter.unusedSimpArgs false
set_option linter.unusedVariables false
attribute [local congr] bnd_congr kCond_congr kGd_congr kPick_congr kCall_congr kIdx_congr kSlice_congr kLoop_congr cond_congr' aBin_congr aBounds_congr aApp_congr aCopy_congr kFn_congr
namespace Job
open Go.Am.F
set_option maxRecDepth 10000
def payS (p : List (BitVec 8)) : List (BitVec 8) := p.take (min p.length 120 / 4 * 4) ++ List.replicate 4 0#8
theorem pay_len (p : List (BitVec 8)) : ∃ n, (payS p).length = 4 * n + 4 ∧ n ≤ 30 := ⟨min p.length 120 / 4, by simp only [payS, List.length_append, List.length_take, List.length_replicate]; omega, by omega⟩
noncomputable def fPay : Fn := fn1 rdBs (fun p => Nat.ble p.length 9223372036854775807) fun p => outBs (payS p) false
theorem pay_ok (C : Ctx) (hC : CtxOK C P) (h6 : C.fn 6 = some fCut) (h12 : C.fn 12 = some fJoin) : Meets C.glob P 15 (Fn.run fPay) := by
  refine fn_meetsN (m_law08_payload C hC) fun ds rows r h => ?_
  obtain ⟨d, p, rfl, rfl, hd, hp, rfl⟩ := fn1_some h
  obtain ⟨x, hx⟩ := rdBs_nrm hd
  refine ⟨rfl, _, .cons hx .nil, afun_mk rfl ?_⟩
  simp only [Nat.ble_eq] at hp
  clear h hd hx
  unfold a_law08_payload r_law08_payload
  have e1 : (min (p.length : Int) 120) = ((min p.length 120 : Nat) : Int) := by omega
  have e2 : ∀ n : Nat, (n : Int).tdiv 4 = ((n / 4 : Nat) : Int) := fun n => rfl
  have e3 : wz ((min p.length 120 / 4 : Nat) : Int) = ((min p.length 120 / 4 : Nat) : Int) := wz_id (by omega)
  have e4 : wz (((min p.length 120 / 4 : Nat) : Int) * 4) = ((min p.length 120 / 4 * 4 : Nat) : Int) := by rw [wz_id (by omega)]; omega
  have kc := fun rows k => kCutI rows k (.lst L8 (bs p) x) p ((min p.length 120 / 4 * 4 : Nat) : Int) (IsBs.to (.inr ⟨x, rfl⟩)) hp (by rw [List.length_take, Int.toNat_natCast]; omega)
  have hl : (p.take (min p.length 120 / 4 * 4)).length = min p.length 120 / 4 * 4 := by rw [List.length_take]; omega
  simp only [Int.toNat_natCast, hl] at kc
  simp only [↓amD, amU, Nat.reduceBEq, Nat.reduceAdd, Nat.reduceSub, Nat.reduceMul, Nat.reduceMod, Nat.reducePow, Nat.reduceLT, Nat.reduceDiv, Int.reduceToNat, BitVec.reduceToNat, zipEnv, Int.reduceLE, Int.reduceLT, Int.reduceNeg, BitVec.reduceEq, Int.reduceAdd, Int.reduceSub, Int.reduceMul, Nat.reduceLeDiff, Int.reduceEq, bs_len, e1, e2, e3, e4, h6, kc, h12]
  have hz : [D.raw (u8 0#8), D.raw (u8 0#8), D.raw (u8 0#8), D.raw (u8 0#8)] = bs (List.replicate 4 0#8) := rfl
  rw [hz]
  refine Eq.mpr (kJoin _ _ _ 2 _ _ [p.take (min p.length 120 / 4 * 4), List.replicate 4 0#8] rfl rfl (.cons (BsIn.own rfl _ hl.symm) (.cons (BsIn.own (l := List.replicate 4 0#8) rfl 4 rfl) .nil)) (by simp) (by simp; omega)) ?_
  have hf : [p.take (min p.length 120 / 4 * 4), List.replicate 4 0#8].flatten = payS p := by simp only [List.flatten_cons, List.flatten_nil, List.append_nil]; rfl
  rw [hf]
  simp only [↓amD, amU, Nat.reduceBEq, Nat.reduceAdd, Nat.reduceSub, Nat.reduceMul, Nat.reduceMod, Nat.reducePow, Nat.reduceLT, Nat.reduceDiv, Int.reduceToNat, BitVec.reduceToNat, zipEnv, Int.reduceLE, Int.reduceLT, Int.reduceNeg, BitVec.reduceEq, Int.reduceAdd, Int.reduceSub, Int.reduceMul, Nat.reduceLeDiff, Int.reduceEq]
  exact .own L8 _ 0 _ false false _ rfl rfl id
theorem kPay (rows : Rows) (k : D → Rows → Prop) (d : D) (p : List (BitVec 8)) (h : BsIn rows d p) (hp : p.length ≤ 9223372036854775807) : kCall fPay rows k [d] = k (.sl L8 (0 + rows.length) [] 0 (payS p).length false) (rows ++ [some ⟨L8, bs (payS p)⟩]) := by
  refine (kCall_rd1 (.bs h) (by simpa using hp) (by simp [outBs, noLst, noLstRows, Sh.pure]) k).trans ?_
  simp [outBs, shift, shiftRows, Sh.pure]
theorem eqA_d32 (l : List (BitVec 8)) : eqA (.ar 32 L8) (.agg (.ar 32 L8) (bs l)) (.agg (.ar 32 L8) (bs l)) = some true := by
  simp [eqA, eqL_bs]
theorem read_img (m : Man) (sig p : List (BitVec 8)) (hm : m.dg.length = 32) (hi : imgOk m sig p = true) : readS (imgL m sig p) = (m, sig, p, 0) := by
  have hi' := hi
  unfold imgOk at hi'
  simp only [Bool.and_eq_true, decide_eq_true_eq] at hi'
  obtain ⟨hk, hs, hg⟩ := hi'
  have b48 := body_len m hm
  have t48 : (imgL m sig p).take 48 = bodyL m := by unfold imgL; rw [← b48, List.take_left]
  have d48 : (imgL m sig p).drop 48 = n2I sig.length ++ (sig ++ p) := by unfold imgL; rw [← b48, List.drop_left]
  have d50 : (imgL m sig p).drop 50 = sig ++ p := by
    rw [show (50 : Nat) = 48 + 2 from rfl, ← List.drop_drop, d48]; rfl
  have g48 : (imgL m sig p).getD 48 0#8 = BitVec.ofNat 8 (sig.length / 256) := by
    rw [List.getD_eq_getElem?_getD, show (48 : Nat) = 48 + 0 from rfl, ← List.getElem?_drop, d48]; rfl
  have g49 : (imgL m sig p).getD 49 0#8 = BitVec.ofNat 8 sig.length := by
    rw [List.getD_eq_getElem?_getD, show (49 : Nat) = 48 + 1 from rfl, ← List.getElem?_drop, d48]; rfl
  have hN : sigN (imgL m sig p) = sig.length := by
    unfold sigN
    rw [g48, g49]
    simp only [BitVec.toNat_ofNat]
    omega
  have hL : (imgL m sig p).length = 50 + sig.length + p.length := by
    unfold imgL n2I
    simp only [List.length_append, List.length_cons, List.length_nil, b48]
    omega
  have d2 : (imgL m sig p).drop (50 + sig.length) = p := by rw [← List.drop_drop, d50, List.drop_left]
  unfold readS
  rw [t48, parse_body m hm hk, hN, hL, d50, d2]
  rw [decide_eq_false (by omega)]
  simp only [cond_false, ne_eq, not_true_eq_false, decide_false]
  rw [decide_eq_false (by omega)]
  simp only [cond_false]
  rw [← hs, Int.toNat_natCast, List.take_left, List.take_length]
theorem of_right (v e : Nat) (p : List (BitVec 8)) (n : Nat) (hl : p.length = 4 * n + 4) (hn : n ≤ 30) (hv : v < 256) : rightS (ofS (v : Int) (((e % p.length) / 4 * 4 : Nat) : Int) p) = true := by
  have : e % p.length < p.length := Nat.mod_lt _ (by omega)
  have h4 : (((e % p.length) / 4 * 4 : Nat) : Int).tmod 4 = 0 := by
    show (((e % p.length) / 4 * 4 % 4 : Nat) : Int) = 0
    omega
  have h5 : ((p.length : Nat) : Int).tmod 4 = 0 := by
    show ((p.length % 4 : Nat) : Int) = 0
    omega
  simp only [rightS, ofS, Bool.and_eq_true]
  refine ⟨⟨⟨⟨⟨⟨⟨?_, ?_⟩, ?_⟩, ?_⟩, ?_⟩, ?_⟩, ?_⟩, ?_⟩ <;> first | exact decide_eq_true h4 | exact decide_eq_true h5 | exact decide_eq_true (by omega)
theorem read_len (q : List (BitVec 8)) : (readS q).2.1.length ≤ q.length ∧ (readS q).2.2.1.length ≤ q.length := by
  unfold readS
  cases decide (q.length < 50)
  · cases decide ((parseS (q.take 48)).2 ≠ 0)
    · cases decide ((q.length : Int) < 50 + sigN q + (parseS (q.take 48)).1.s)
      · simp only [cond_false, List.length_take, List.length_drop]; omega
      · simp
    · simp
  · simp
set_option maxHeartbeats 4000000 in
theorem images_ok (C0 C : Ctx) (f13 : C0.fn 13 = some fParse) (f14 : C0.fn 14 = some fParse) (f26 : C0.fn 26 = some fValue) (f6 : C0.fn 6 = some fCut) (f30 : C0.fn 30 = some fClone)
    (h5 : C.fn 5 = some fAwakeM) (h6 : C.fn 6 = some fCut) (h9 : C.fn 9 = some fOwn) (h10 : C.fn 10 = some fSame) (h12 : C.fn 12 = some fJoin) (h15 : C.fn 15 = some fPay) (h16 : C.fn 16 = some fOf) (h17 : C.fn 17 = some fImage) (h18 : C.fn 18 = some fRSum)
    (n19 : C.fn 19 = none) (r19 : C.fnr 19 = some (afun C0 1 r_manifest_Read a_manifest_Read)) (n20 : C.fn 20 = none) (r20 : C.fnr 20 = some (afun C0 1 r_ref08_Read a_ref08_Read))
    (version entry cut : BitVec 16) (dp ds dm : D) (p0 s0 m0 : List (BitVec 8)) (hp0 : IsBs dp p0) (hs0 : IsBs ds s0) (hm0 : IsBs dm m0) (lp : p0.length ≤ 9223372036854775807) (ls : s0.length ≤ 9223372036854775807) (lm : m0.length ≤ 9223372036854775807) :
    afun C 6 r_law08_ManifestImages a_law08_ManifestImages [.raw (u16 version), .raw (u16 entry), dp, ds, dm, .raw (u16 cut)] [] (fun d rows => d = .raw (.bool true)) := by
  refine afun_mk rfl ?_
  have kp := fun rows k => kPay rows k dp p0 (IsBs.to hp0) lp
  have ks := fun rows k => kCut rows k ds s0 100 hs0 ls (by rw [List.length_take]; omega)
  have km := fun rows k => kCut rows k dm m0 50 hm0 lm (by rw [List.length_take]; omega)
  have hsl : (s0.take 100).length ≤ 100 := by rw [List.length_take]; omega
  have hml : (m0.take 50).length ≤ 50 := by rw [List.length_take]; omega
  obtain ⟨n, hpl, hn⟩ := pay_len p0
  have e1 : (100 : Int).toNat = 100 := rfl
  have e2 : (50 : Int).toNat = 50 := rfl
  simp only [e1] at ks
  simp only [e2] at km
  generalize s0.take 100 = sig at ks hsl
  generalize m0.take 50 = more at km hml
  generalize payS p0 = p at kp hpl
  unfold a_law08_ManifestImages r_law08_ManifestImages
  simp only [-List.reduceReplicate, manD_z]
  have hf := manD_fits
  have hfz := manD_fits zeroM
  generalize hz0 : manD zeroM = z0 at hfz ⊢
  have hv : (version % 256#16).toNat < 256 := by rw [BitVec.toNat_umod]; exact Nat.mod_lt _ (by decide)
  have hk := of_right (version % 256#16).toNat entry.toNat p n hpl hn hv
  have w1 : ((entry.toNat : Nat) : Int).tmod (p.length : Int) = ((entry.toNat % p.length : Nat) : Int) := rfl
  have w2 : ∀ n : Nat, (n : Int).tdiv 4 = ((n / 4 : Nat) : Int) := fun n => rfl
  have w0 : entry.toNat % p.length < p.length := Nat.mod_lt _ (by omega)
  have w3 : wz (((entry.toNat % p.length) / 4 : Nat) : Int) = (((entry.toNat % p.length) / 4 : Nat) : Int) := wz_id (by omega)
  have w4 : wz ((((entry.toNat % p.length) / 4 : Nat) : Int) * 4) = (((entry.toNat % p.length) / 4 * 4 : Nat) : Int) := by rw [wz_id (by omega)]; omega
  have w5 : ((p.length : Int) = 0) = False := eq_false (by omega)
  have ko := fun k => kOf [some ⟨L8, bs p⟩, some ⟨L8, bs sig⟩, some ⟨L8, bs more⟩] k (version % 256#16).toNat ((entry.toNat % p.length / 4 * 4 : Nat) : Int) (.sl L8 0 [] 0 p.length false) p (BsIn.own rfl _ rfl) (by omega)
  simp only [↓amD, amU, Nat.reduceBEq, Nat.reduceAdd, Nat.reduceSub, Nat.reduceMul, Nat.reduceMod, Nat.reducePow, Nat.reduceLT, Nat.reduceDiv, Int.reduceToNat, BitVec.reduceToNat, zipEnv, Int.reduceLE, Int.reduceLT, Int.reduceNeg, BitVec.reduceEq, Int.reduceAdd, Int.reduceSub, Int.reduceMul, Nat.reduceLeDiff, Int.reduceEq, h5, kAwakeM, h15, kp, h6, ks, km, w1, w2, w3, w4, w5, hf, hfz, h16, ko]
  generalize hM : ofS ((version % 256#16).toNat : Int) ((entry.toNat % p.length / 4 * 4 : Nat) : Int) p = m at ko hk
  have hms : m.s = (p.length : Int) := by rw [← hM]; rfl
  have hmd : m.dg = sumS p := by rw [← hM]; rfl
  have hm32 : m.dg.length = 32 := by rw [hmd]; exact sumS_len _
  have hi : imgOk m sig p = true := by
    simp only [imgOk, hk, hms, Bool.true_and, Bool.and_eq_true, decide_eq_true_eq]
    exact ⟨trivial, by omega⟩
  have hR := read_img m sig p hm32 hi
  have ki := fun k => kImage [some ⟨L8, bs p⟩, some ⟨L8, bs sig⟩, some ⟨L8, bs more⟩, some ⟨SM, [manD m]⟩] k m (.sl L8 1 [] 0 sig.length false) (.sl L8 0 [] 0 p.length false) sig p hm32 (BsIn.own rfl _ rfl) (BsIn.own rfl _ rfl) (by omega) (by omega) hi
  have hIl : (imgL m sig p).length ≤ 300 := by
    unfold imgL n2I
    simp only [List.length_append, List.length_cons, List.length_nil, body_len m hm32]
    omega
  have hIp : 0 < (imgL m sig p).length := by
    unfold imgL n2I
    simp only [List.length_append, List.length_cons, List.length_nil, body_len m hm32]
    omega
  have hImg : ∀ q : List (BitVec 8), imgOk m sig (p ++ q) = decide (q.length = 0) := fun q => by
    simp only [imgOk, hk, hms, Bool.true_and, List.length_append]
    by_cases c : q.length = 0
    · rw [decide_eq_true (by omega), decide_eq_true (by omega), decide_eq_true c]; rfl
    · rw [decide_eq_false (by omega), decide_eq_false c]; rfl
  generalize imgL m sig p = img at hR ki hIl hIp
  simp only [↓amD, amU, Nat.reduceBEq, Nat.reduceAdd, Nat.reduceSub, Nat.reduceMul, Nat.reduceMod, Nat.reducePow, Nat.reduceLT, Nat.reduceDiv, Int.reduceToNat, BitVec.reduceToNat, zipEnv, Int.reduceLE, Int.reduceLT, Int.reduceNeg, BitVec.reduceEq, Int.reduceAdd, Int.reduceSub, Int.reduceMul, Nat.reduceLeDiff, Int.reduceEq, h17, ki, hf]
  have g1 : (manD m).get [1] = some (.raw (it (p.length : Int))) := by rw [← hms]; rfl
  have g3 : (manD m).get [3] = some (.agg (.ar 32 L8) (bs (sumS p))) := by rw [← hmd]; rfl
  have kr := fun L k => kRSum ([some ⟨L8, bs p⟩] ++ L) k (.sl L8 0 [] 0 p.length false) p (BsIn.own rfl _ rfl) (by omega)
  simp only [List.cons_append, List.nil_append] at kr
  have cw : wz ((img.length : Int) + 1) = ((img.length + 1 : Nat) : Int) := by rw [wz_id (by omega)]; omega
  have cr : ((cut.toNat : Nat) : Int).tmod ((img.length + 1 : Nat) : Int) = ((cut.toNat % (img.length + 1) : Nat) : Int) := rfl
  have c0 : (((img.length + 1 : Nat) : Int) = 0) = False := eq_false (by omega)
  simp only [↓amD, amU, Nat.reduceBEq, Nat.reduceAdd, Nat.reduceSub, Nat.reduceMul, Nat.reduceMod, Nat.reducePow, Nat.reduceLT, Nat.reduceDiv, Int.reduceToNat, BitVec.reduceToNat, zipEnv, Int.reduceLE, Int.reduceLT, Int.reduceNeg, BitVec.reduceEq, Int.reduceAdd, Int.reduceSub, Int.reduceMul, Nat.reduceLeDiff, Int.reduceEq, g1, g3, h18, kr, eqL_bs, bqtt, bqtf, bqft, bqff, Bool.not_true, Bool.not_false, h12]
  refine Eq.mpr (kJoin _ _ _ 2 _ _ [img, more] rfl rfl (.cons (BsIn.own rfl _ rfl) (.cons (BsIn.own rfl _ rfl) .nil)) (by simp) (by simp; omega)) ?_
  have hjl : [img, more].flatten.length ≤ 400 := by simp; omega
  generalize [img, more].flatten = jn at hjl ⊢
  have kt := fun L k => kCutI ([some ⟨L8, bs p⟩, some ⟨L8, bs sig⟩, some ⟨L8, bs more⟩, some ⟨SM, [manD m]⟩, some ⟨L8, bs img⟩] ++ L) k (.sl L8 4 [] 0 img.length false) img ((cut.toNat % (img.length + 1) : Nat) : Int) (BsIn.own rfl _ rfl) (by omega) (by rw [List.length_take]; omega)
  have hcl : (img.take (cut.toNat % (img.length + 1))).length ≤ 300 := by rw [List.length_take]; omega
  simp only [List.cons_append, List.nil_append, Int.toNat_natCast] at kt
  generalize img.take (cut.toNat % (img.length + 1)) = shrt at kt hcl
  simp only [↓amD, amU, Nat.reduceBEq, Nat.reduceAdd, Nat.reduceSub, Nat.reduceMul, Nat.reduceMod, Nat.reducePow, Nat.reduceLT, Nat.reduceDiv, Int.reduceToNat, BitVec.reduceToNat, zipEnv, Int.reduceLE, Int.reduceLT, Int.reduceNeg, BitVec.reduceEq, Int.reduceAdd, Int.reduceSub, Int.reduceMul, Nat.reduceLeDiff, Int.reduceEq, List.flatten_cons, List.flatten_nil, List.append_nil, cw, cr, c0, h6, kt]
  refine kLoop_for 4 (fun i => [(89, .sl .ref 8 [] 0 4 true), (90, .raw (it 4)), (91, .raw (it i)), (14, .sl L8 4 [] 0 img.length false), (13, .ptr SM 3 [0]), (3, .sl L8 1 [] 0 sig.length false), (2, .sl L8 0 [] 0 p.length false), (4, .sl L8 2 [] 0 more.length false)])
    (fun _ rows => live rows 4 = some ⟨L8, bs img⟩ ∧ live rows 6 = some ⟨L8, bs jn⟩ ∧ live rows 7 = some ⟨L8, bs shrt⟩ ∧ live rows 2 = some ⟨L8, bs more⟩ ∧ live rows 0 = some ⟨L8, bs p⟩ ∧ live rows 1 = some ⟨L8, bs sig⟩ ∧ live rows 3 = some ⟨SM, [manD m]⟩ ∧
      live rows 8 = some ⟨.ref, [.sl L8 4 [] 0 img.length false, .sl L8 6 [] 0 jn.length false, .sl L8 7 [] 0 shrt.length false, .sl L8 2 [] 0 more.length false]⟩) ?_ ?_ ?_ ?_
  · intro i hi env rows hh ⟨r4, r6, r7, r2, r0, r1, r3, r8⟩ R hR
    obtain ⟨x, q, hq, hql, hd⟩ : ∃ x q, live rows x = some ⟨L8, bs q⟩ ∧ q.length ≤ 400 ∧ [D.sl L8 4 [] 0 img.length false, .sl L8 6 [] 0 jn.length false, .sl L8 7 [] 0 shrt.length false, .sl L8 2 [] 0 more.length false][i]? = some (.sl L8 x [] 0 q.length false) := by
      match i, hi with
      | 0, _ => exact ⟨_, _, r4, by omega, rfl⟩
      | 1, _ => exact ⟨_, _, r6, hjl, rfl⟩
      | 2, _ => exact ⟨_, _, r7, by omega, rfl⟩
      | 3, _ => exact ⟨_, _, r2, by omega, rfl⟩
    simp only [has] at hh
    have h1 : ((0 : Int) ≤ (i : Int)) = True := eq_true (by omega)
    have h2 : ((i : Int) < 4) = True := eq_true (by omega)
    have hw := wz_succ i (by omega)
    have fin : ∀ env' rs, (∀ r x, live rows r = some x → live rs r = some x) → has env' [(89, .sl .ref 8 [] 0 4 true), (90, .raw (it 4)), (91, .raw (it ((i + 1 : Nat) : Int))), (14, .sl L8 4 [] 0 img.length false), (13, .ptr SM 3 [0]), (3, .sl L8 1 [] 0 sig.length false), (2, .sl L8 0 [] 0 p.length false), (4, .sl L8 2 [] 0 more.length false)] → R env' rs := fun env' rs f h => hR env' _ h ⟨f _ _ r4, f _ _ r6, f _ _ r7, f _ _ r2, f _ _ r0, f _ _ r1, f _ _ r3, f _ _ r8⟩
    simp only [↓amD, amU, Nat.reduceBEq, Nat.reduceAdd, Nat.reduceSub, Nat.reduceMul, Nat.reduceMod, Nat.reducePow, Nat.reduceLT, Nat.reduceDiv, Int.reduceToNat, BitVec.reduceToNat, zipEnv, Int.reduceLE, Int.reduceLT, Int.reduceNeg, BitVec.reduceEq, Int.reduceAdd, Int.reduceSub, Int.reduceMul, Nat.reduceLeDiff, Int.reduceEq, lv_app0, lv_appk, set_app0, set_appk, List.append_assoc, List.append_nil, Nat.add_assoc, hh, h1, h2, r8, hd, n19, r19]
    refine read_run C0 hq rfl (by omega) f13 f30 fun d rows' hR1 => ?_
    obtain ⟨L, d1, d2, hr1, rfl, o1, o2⟩ := hR1
    have v1 : ∀ r x, live rows r = some x → live rows' r = some x := fun r x h => by rw [hr1]; exact live_app h L
    simp only [↓amD, amU, Nat.reduceBEq, Nat.reduceAdd, Nat.reduceSub, Nat.reduceMul, Nat.reduceMod, Nat.reducePow, Nat.reduceLT, Nat.reduceDiv, Int.reduceToNat, BitVec.reduceToNat, zipEnv, Int.reduceLE, Int.reduceLT, Int.reduceNeg, BitVec.reduceEq, Int.reduceAdd, Int.reduceSub, Int.reduceMul, Nat.reduceLeDiff, Int.reduceEq, lv_app0, lv_appk, set_app0, set_appk, List.append_assoc, List.append_nil, Nat.add_assoc, hh, hf, hfz, n20, r20]
    refine rread_run C0 (live_app (v1 _ _ hq) _) rfl (by omega) f14 f26 f6 fun d rows2 hR2 => ?_
    obtain ⟨L', e1, e2, hr2, rfl, o3, o4⟩ := hR2
    have v2 : ∀ r x, live rows r = some x → live rows2 r = some x := fun r x h => by rw [hr2]; exact live_app (live_app (v1 r x h) _) L'
    have l18 : live rows2 rows'.length = some ⟨SM, [manD (readS q).1]⟩ := by rw [hr2]; exact live_app (by rw [lv_app0]; rfl) L'
    have l18' := fun l => live_app l18 l
    have q1 : Own L8 d1 rows2 (bs (readS q).2.1) := by rw [hr2]; exact o1.push.push
    have q2 : Own L8 d2 rows2 (bs (readS q).2.2.1) := by rw [hr2]; exact o2.push.push
    have b1 := read_len q
    have ka := fun L k => kSame (rows2 ++ L) k d1 e1 (readS q).2.1 (readS q).2.1 q1.push.to o3.push.to (by omega) (by omega)
    have kb := fun L k => kSame (rows2 ++ L) k d2 e2 (readS q).2.2.1 (readS q).2.2.1 q2.push.to o4.push.to (by omega) (by omega)
    simp only [decide_true] at ka kb
    simp only [↓amD, amU, Nat.reduceBEq, Nat.reduceAdd, Nat.reduceSub, Nat.reduceMul, Nat.reduceMod, Nat.reducePow, Nat.reduceLT, Nat.reduceDiv, Int.reduceToNat, BitVec.reduceToNat, zipEnv, Int.reduceLE, Int.reduceLT, Int.reduceNeg, BitVec.reduceEq, Int.reduceAdd, Int.reduceSub, Int.reduceMul, Nat.reduceLeDiff, Int.reduceEq, lv_app0, lv_appk, set_app0, set_appk, List.append_assoc, List.append_nil, Nat.add_assoc, hh, hf, hfz, h9, kOwn, l18', eqA_man, h10, ka, kb, hw, bqtt, bqtf, bqft, bqff, Bool.not_true, Bool.not_false]
    refine fin _ _ (fun r x h => live_app (v2 r x h) _) ?_
    simp only [has, ↓amD, amU, Nat.reduceBEq, Nat.reduceAdd, Nat.reduceSub, Nat.reduceMul, Nat.reduceMod, Nat.reducePow, Nat.reduceLT, Nat.reduceDiv, Int.reduceToNat, BitVec.reduceToNat, zipEnv, Int.reduceLE, Int.reduceLT, Int.reduceNeg, BitVec.reduceEq, Int.reduceAdd, Int.reduceSub, Int.reduceMul, Nat.reduceLeDiff, Int.reduceEq, hh]
  · intro env rows hh ⟨r4, r6, r7, r2, r0, r1, r3, r8⟩ R
    simp only [has] at hh
    simp only [↓amD, amU, Nat.reduceBEq, Nat.reduceAdd, Nat.reduceSub, Nat.reduceMul, Nat.reduceMod, Nat.reducePow, Nat.reduceLT, Nat.reduceDiv, Int.reduceToNat, BitVec.reduceToNat, zipEnv, Int.reduceLE, Int.reduceLT, Int.reduceNeg, BitVec.reduceEq, Int.reduceAdd, Int.reduceSub, Int.reduceMul, Nat.reduceLeDiff, Int.reduceEq, lv_app0, lv_appk, set_app0, set_appk, List.append_assoc, List.append_nil, Nat.add_assoc, hh, n19, r19]
    refine read_run C0 r4 rfl (by omega) f13 f30 fun d rows' hR1 => ?_
    obtain ⟨L, d1, d2, hr1, rfl, o1, o2⟩ := hR1
    have v1 : ∀ r x, live rows r = some x → live rows' r = some x := fun r x h => by rw [hr1]; exact live_app h L
    rw [hR] at o1 o2 ⊢
    simp only [↓amD, amU, Nat.reduceBEq, Nat.reduceAdd, Nat.reduceSub, Nat.reduceMul, Nat.reduceMod, Nat.reducePow, Nat.reduceLT, Nat.reduceDiv, Int.reduceToNat, BitVec.reduceToNat, zipEnv, Int.reduceLE, Int.reduceLT, Int.reduceNeg, BitVec.reduceEq, Int.reduceAdd, Int.reduceSub, Int.reduceMul, Nat.reduceLeDiff, Int.reduceEq, lv_app0, lv_appk, set_app0, set_appk, List.append_assoc, List.append_nil, Nat.add_assoc, hh, hf, hfz, fun l => live_app (v1 _ _ r3) l, h12]
    refine Eq.mpr (kJoin _ _ _ 2 _ _ [p, more] (by rw [lv_appk]; rfl) rfl (.cons (BsIn.own (live_app (v1 _ _ r0) _) _ rfl) (.cons (BsIn.own (live_app (v1 _ _ r2) _) _ rfl) .nil)) (by simp) (by simp; omega)) ?_
    have hfl : [p, more].flatten = p ++ more := by simp
    have hpm : (p ++ more).length ≤ 200 := by rw [List.length_append]; omega
    have hIm := hImg more
    rw [hfl]
    generalize p ++ more = pm at hpm hIm ⊢
    have ks2 := fun L k => kSame (rows' ++ L) k d1 (.sl L8 1 [] 0 sig.length false) sig sig o1.push.to (BsIn.own (live_app (v1 _ _ r1) _) _ rfl) (by omega) (by omega)
    have kp2 := fun L k => kSame (rows' ++ L) k d2 (.sl L8 0 [] 0 p.length false) p p o2.push.to (BsIn.own (live_app (v1 _ _ r0) _) _ rfl) (by omega) (by omega)
    simp only [decide_true] at ks2 kp2
    by_cases cm : more.length = 0
    · have hi2 : imgOk m sig pm = true := by rw [hIm, decide_eq_true cm]
      have cm1 : ((more.length : Int) = 0) = True := eq_true (by omega)
      simp only [↓amD, amU, Nat.reduceBEq, Nat.reduceAdd, Nat.reduceSub, Nat.reduceMul, Nat.reduceMod, Nat.reducePow, Nat.reduceLT, Nat.reduceDiv, Int.reduceToNat, BitVec.reduceToNat, zipEnv, Int.reduceLE, Int.reduceLT, Int.reduceNeg, BitVec.reduceEq, Int.reduceAdd, Int.reduceSub, Int.reduceMul, Nat.reduceLeDiff, Int.reduceEq, lv_app0, lv_appk, set_app0, set_appk, List.append_assoc, List.append_nil, Nat.add_assoc, hf, hh, h17]
      refine Eq.mpr (kImage _ _ m _ _ sig pm hm32 (BsIn.own (live_app (v1 _ _ r1) _) _ rfl) (BsIn.own (by rw [lv_appk]; rfl) _ rfl) (by omega) (by omega) hi2) ?_
      simp only [↓amD, amU, Nat.reduceBEq, Nat.reduceAdd, Nat.reduceSub, Nat.reduceMul, Nat.reduceMod, Nat.reducePow, Nat.reduceLT, Nat.reduceDiv, Int.reduceToNat, BitVec.reduceToNat, zipEnv, Int.reduceLE, Int.reduceLT, Int.reduceNeg, BitVec.reduceEq, Int.reduceAdd, Int.reduceSub, Int.reduceMul, Nat.reduceLeDiff, Int.reduceEq, lv_app0, lv_appk, set_app0, set_appk, List.append_assoc, List.append_nil, Nat.add_assoc, hf, hh, fun l => live_app (v1 _ _ r3) l, eqA_man, h10, ks2, kp2, cm1, bqtt, bqtf, bqft, bqff, Bool.not_true, Bool.not_false, decide_true]
    · have hi2 : imgOk m sig pm = false := by rw [hIm, decide_eq_false cm]
      have cm1 : ((more.length : Int) = 0) = False := eq_false (by omega)
      simp only [↓amD, amU, Nat.reduceBEq, Nat.reduceAdd, Nat.reduceSub, Nat.reduceMul, Nat.reduceMod, Nat.reducePow, Nat.reduceLT, Nat.reduceDiv, Int.reduceToNat, BitVec.reduceToNat, zipEnv, Int.reduceLE, Int.reduceLT, Int.reduceNeg, BitVec.reduceEq, Int.reduceAdd, Int.reduceSub, Int.reduceMul, Nat.reduceLeDiff, Int.reduceEq, lv_app0, lv_appk, set_app0, set_appk, List.append_assoc, List.append_nil, Nat.add_assoc, hf, hh, h17]
      refine Eq.mpr (kImageN _ _ m _ _ sig pm hm32 (BsIn.own (live_app (v1 _ _ r1) _) _ rfl) (BsIn.own (by rw [lv_appk]; rfl) _ rfl) (by omega) (by omega) hi2) ?_
      simp only [↓amD, amU, Nat.reduceBEq, Nat.reduceAdd, Nat.reduceSub, Nat.reduceMul, Nat.reduceMod, Nat.reducePow, Nat.reduceLT, Nat.reduceDiv, Int.reduceToNat, BitVec.reduceToNat, zipEnv, Int.reduceLE, Int.reduceLT, Int.reduceNeg, BitVec.reduceEq, Int.reduceAdd, Int.reduceSub, Int.reduceMul, Nat.reduceLeDiff, Int.reduceEq, lv_app0, lv_appk, set_app0, set_appk, List.append_assoc, List.append_nil, Nat.add_assoc, hf, hh, fun l => live_app (v1 _ _ r3) l, eqA_man, h10, ks2, kp2, cm1, bqtt, bqtf, bqft, bqff, Bool.not_true, Bool.not_false, decide_false]
  · simp only [has, ↓amD, amU, Nat.reduceBEq, Nat.reduceAdd, Nat.reduceSub, Nat.reduceMul, Nat.reduceMod, Nat.reducePow, Nat.reduceLT, Nat.reduceDiv, Int.reduceToNat, BitVec.reduceToNat, zipEnv, Int.reduceLE, Int.reduceLT, Int.reduceNeg, BitVec.reduceEq, Int.reduceAdd, Int.reduceSub, Int.reduceMul, Nat.reduceLeDiff, Int.reduceEq]
  · simp only [↓amD, amU, Nat.reduceBEq, Nat.reduceAdd, Nat.reduceSub, Nat.reduceMul, Nat.reduceMod, Nat.reducePow, Nat.reduceLT, Nat.reduceDiv, Int.reduceToNat, BitVec.reduceToNat, zipEnv, Int.reduceLE, Int.reduceLT, Int.reduceNeg, BitVec.reduceEq, Int.reduceAdd, Int.reduceSub, Int.reduceMul, Nat.reduceLeDiff, Int.reduceEq]
end Job
end Go.Am
