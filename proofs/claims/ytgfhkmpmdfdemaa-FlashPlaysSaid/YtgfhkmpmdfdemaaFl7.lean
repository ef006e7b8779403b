/- the flash: which pages are blank: the law -/
import Derived.Test.YtgfhkmpmdfdemaaFl6
namespace Go.Am
set_option linter.unusedSimpArgs false
set_option linter.unusedVariables false
attribute [local congr] bnd_congr kCond_congr kGd_congr kPick_congr kCall_congr kIdx_congr kSlice_congr kLoop_congr cond_congr' aBin_congr aBounds_congr aApp_congr aCopy_congr kFn_congr
namespace Job
open Go.Am.F
set_option maxRecDepth 10000
theorem rep255 (n i : Nat) (h : i < n) : (List.replicate n 255#8).getD i 0#8 = 255#8 := by simp [List.getD, h]
theorem set_get (x : List (BitVec 8)) (k i : Nat) (b : BitVec 8) (hk : k < x.length) : (x.set k b).getD i 0#8 = if i = k then b else x.getD i 0#8 := by
  by_cases h : i = k
  · subst h; simp [List.getD, hk]
  · rw [if_neg h]
    simp [List.getD, List.getElem?_set_ne (fun e => h e.symm)]
theorem sub_get (x : List (BitVec 8)) (a n i : Nat) (h : i < n) : (sub x a n).getD i 0#8 = x.getD (a + i) 0#8 := by
  simp [sub, List.getD, List.getElem?_take, h]
theorem xor_255 (b : BitVec 8) : (255#8 ^^^ b = 255#8) = (b = 0#8) := by
  rw [eq_iff_iff]; revert b; decide +kernel
/-- four pages, a byte turned: what is blank -/
theorem all_sub (k f p : Nat) (by_ : BitVec 8) (hk : k < 1024) (h : 256 * f + 256 * p ≤ 1024) :
    all255 (sub ((List.replicate 1024 255#8).set k (255#8 ^^^ by_)) (256 * f) (256 * p)) ↔ ¬ (by_ ≠ 0#8 ∧ f ≤ k / 256 ∧ k / 256 < f + p) := by
  have hl : (sub ((List.replicate 1024 255#8).set k (255#8 ^^^ by_)) (256 * f) (256 * p)).length = 256 * p := sub_len (by simp; omega)
  constructor
  · rintro ha ⟨h1, h2, h3⟩
    have := ha (k - 256 * f) (by rw [hl]; omega)
    rw [sub_get _ _ _ _ (by omega), set_get _ _ _ _ (by simp; omega), if_pos (by omega), xor_255] at this
    exact h1 this
  · intro hn i hi
    rw [hl] at hi
    rw [sub_get _ _ _ _ hi, set_get _ _ _ _ (by simp; omega)]
    split
    · rename_i he
      rw [xor_255]
      exact Decidable.byContradiction fun hb => hn ⟨hb, by omega, by omega⟩
    · exact rep255 _ _ (by omega)
theorem tu_ok {x : List (BitVec 8)} {a : Nat} (b : BitVec 8) (h : a < x.length) : tuE x (a : Int) = 0 ∧ tuX x (a : Int) b = x.set a (x.getD a 0#8 ^^^ b) := by
  have h0 : tuE x (a : Int) = 0 := by
    simp only [tuE, errW]; rw [if_neg (by omega)]
  exact ⟨h0, by rw [tuX, if_pos h0]; rfl⟩
theorem blank_out {x : List (BitVec 8)} {e : Bool} {f p : Int} (h : ¬ (0 ≤ f ∧ 0 ≤ p ∧ f ≤ 4 ∧ p ≤ 4 - f)) (hx : x.length = 1024) : blankB (some (x, e)) f p = false := by
  rw [blankB, if_pos]
  by_cases h1 : p < 0
  · exact .inl h1
  by_cases h2 : 1024 < p
  · exact .inr (.inl h2)
  by_cases h3 : f < 0
  · exact .inr (.inr (.inl h3))
  by_cases h4 : 1024 < f
  · exact .inr (.inr (.inr (.inl h4)))
  refine .inr (.inr (.inr (.inr ?_)))
  simp only [errW]
  rw [if_pos (by omega)]
  decide
set_option maxHeartbeats 4000000 in
theorem blanks_law (C : Ctx) (h : FlC C) (ha : C.fn 8 = some fAwake) (at_ : BitVec 16) (by_ : BitVec 8) (f p : Int) :
    afun C 4 r_law12_FlashBlanks a_law12_FlashBlanks [.raw (u16 at_), .raw (u8 by_), .raw (it f), .raw (it p)] [] (fun d _ => d = .raw (.bool true)) := by
  refine afun_mk rfl ?_
  unfold a_law12_FlashBlanks r_law12_FlashBlanks
  have kaw := fun rows k => kAwake rows k (F := fAwake) rfl
  simp only [↓amD, amU, Nat.reduceBEq, Nat.reduceAdd, Nat.reduceSub, Nat.reduceMul, Nat.reduceMod, Nat.reducePow, Nat.reduceLT, Nat.reduceDiv, Int.reduceToNat, BitVec.reduceToNat, zipEnv, Int.reduceLE, Int.reduceLT, Int.reduceNeg, BitVec.reduceEq, Int.reduceAdd, Int.reduceSub, Int.reduceMul, Nat.reduceLeDiff, Int.reduceEq, ha, kaw, h.n9, h.r9]
  refine newA (rows := []) 4 (by omega) fun R0 r m hM => ?_
  have hF : FlAt R0 r m (List.replicate 1024 255#8) := hM.fl
  obtain ⟨k, hk⟩ : ∃ k, k = (at_ % 1024#16).toNat := ⟨_, rfl⟩
  have hk2 : k < 1024 := by
    rw [hk, BitVec.toNat_umod]; exact Nat.mod_lt _ (by decide)
  simp only [↓amD, amU, Nat.reduceBEq, Nat.reduceAdd, Nat.reduceSub, Nat.reduceMul, Nat.reduceMod, Nat.reducePow, Nat.reduceLT, Nat.reduceDiv, Int.reduceToNat, BitVec.reduceToNat, zipEnv, Int.reduceLE, Int.reduceLT, Int.reduceNeg, BitVec.reduceEq, Int.reduceAdd, Int.reduceSub, Int.reduceMul, Nat.reduceLeDiff, Int.reduceEq, h.n10, h.r10, ← hk]
  have htu := tu_ok (x := List.replicate 1024 255#8) (a := k) by_ (by simp; exact hk2)
  rw [rep255 _ _ hk2] at htu
  have hxl : ((List.replicate 1024 255#8).set k (255#8 ^^^ by_)).length = 1024 := by rw [List.length_set, List.length_replicate]
  have hall := all_sub k
  have hblo := fun e h => blank_out (x := (List.replicate 1024 255#8).set k (255#8 ^^^ by_)) (e := e) (f := f) (p := p) h hxl
  have hbli := fun e f p h1 h2 h3 => blank_in (x := (List.replicate 1024 255#8).set k (255#8 ^^^ by_)) (e := e) (f := f) (p := p) h1 h2 h3
  have hgk : ((List.replicate 1024 255#8).set k (255#8 ^^^ by_)).getD k 0#8 = 255#8 ^^^ by_ := by rw [set_get _ _ _ _ (by simp; exact hk2), if_pos rfl]
  have hls : (List.replicate 1024 255#8).length ≤ 1048576 := by rw [List.length_replicate]; omega
  refine turnA hF hls (k : Int) by_ fun R1 U1 => ?_
  have hF1 := U1.fl
  rw [htu.1]
  rw [htu.2] at hF1
  have hall2 := fun f p h => all_sub k f p by_ hk2 h
  generalize (List.replicate 1024 255#8).set k (255#8 ^^^ by_) = x at *
  clear htu hF U1 hM hall
  have e1 : (k : Int).tdiv 256 = ((k / 256 : Nat) : Int) := rfl
  have e2 : wz ((k / 256 : Nat) : Int) = ((k / 256 : Nat) : Int) := wz_id (by omega)
  obtain ⟨e, hin⟩ := hF1.to
  have kb := fun k => kBlank hin (show x.length ≤ 1048576 by omega) f p k
  have tail : ∀ (env : Env), look env 9 = some (.ptr SF r [0]) → look env 11 = some (.raw (it (k : Int))) → True := fun _ _ _ => trivial
  have hs1 : sub x k 1 = [255#8 ^^^ by_] := by
    rw [← hgk]
    refine List.ext_getElem (by rw [sub_len (by omega)]; rfl) fun i h1 h2 => ?_
    obtain rfl : i = 0 := by simp at h2; exact h2
    have hkx : k < x.length := by omega
    simp [sub, List.getD, hkx]
  by_cases T : 0 ≤ f ∧ 0 ≤ p ∧ f ≤ 4 ∧ p ≤ 4 - f
  · obtain ⟨t1, t2, t3, t4⟩ := T
    obtain ⟨f, rfl⟩ := Int.eq_ofNat_of_zero_le t1
    obtain ⟨p, rfl⟩ := Int.eq_ofNat_of_zero_le t2
    have g1 : ((0 : Int) ≤ (f : Int)) = True := eq_true t1
    have g2 : ((0 : Int) ≤ (p : Int)) = True := eq_true t2
    have g3 : ((f : Int) ≤ 4) = True := eq_true t3
    have g4 : min (f : Int) 4 = (f : Int) := by omega
    have g5 : wz (4 - (f : Int)) = 4 - (f : Int) := wz_id (by omega)
    have g6 : ((p : Int) ≤ 4 - (f : Int)) = True := eq_true t4
    have g7 : wz ((f : Int) + (p : Int)) = ((f + p : Nat) : Int) := by rw [wz_id (by omega)]; omega
    have hb := hbli e f p (by omega) (by omega) (by omega)
    have hiff := hall2 f p (by omega)
    by_cases c1 : by_ = 0#8
    · have hB : blankB (some (x, e)) f p = true := by
        rw [hb]; classical exact decide_eq_true (hiff.2 fun h => h.1 c1)
      rw [hB] at kb
      subst c1
      simp only [↓amD, amU, Nat.reduceBEq, Nat.reduceAdd, Nat.reduceSub, Nat.reduceMul, Nat.reduceMod, Nat.reducePow, Nat.reduceLT, Nat.reduceDiv, Int.reduceToNat, BitVec.reduceToNat, zipEnv, Int.reduceLE, Int.reduceLT, Int.reduceNeg, BitVec.reduceEq, Int.reduceAdd, Int.reduceSub, Int.reduceMul, Nat.reduceLeDiff, Int.reduceEq, g1, g2, g3, g4, g5, g6, g7, e1, e2, h.bl, kb, h.n12, h.r12, decide_true, decide_false, beq_self_eq_true]
      refine copyA hF1 (by omega) fun R2 r2 m2 M2 => ?_
      have hF2 := hF1.made M2
      have hC2 := M2.fl
      have lt1 := hF1.lt
      have hm2 := M2.hm
      simp only [↓amD, amU, Nat.reduceBEq, Nat.reduceAdd, Nat.reduceSub, Nat.reduceMul, Nat.reduceMod, Nat.reducePow, Nat.reduceLT, Nat.reduceDiv, Int.reduceToNat, BitVec.reduceToNat, zipEnv, Int.reduceLE, Int.reduceLT, Int.reduceNeg, BitVec.reduceEq, Int.reduceAdd, Int.reduceSub, Int.reduceMul, Nat.reduceLeDiff, Int.reduceEq, h.n13, h.r13, e1, e2]
      refine eraseA hC2 (by omega) _ fun R3 U3 => ?_
      have hF3 := hF2.keep U3 (by omega) (by omega)
      have hC3 := U3.fl
      have hel := erX_len x ((k / 256 : Nat) : Int)
      simp only [↓amD, amU, Nat.reduceBEq, Nat.reduceAdd, Nat.reduceSub, Nat.reduceMul, Nat.reduceMod, Nat.reducePow, Nat.reduceLT, Nat.reduceDiv, Int.reduceToNat, BitVec.reduceToNat, zipEnv, Int.reduceLE, Int.reduceLT, Int.reduceNeg, BitVec.reduceEq, Int.reduceAdd, Int.reduceSub, Int.reduceMul, Nat.reduceLeDiff, Int.reduceEq, h.n14, h.r14]
      refine writeA (p := [0#8]) (hC3.push _) (by rw [lv_app0]; rfl) (by omega) (by decide) 0 fun R4 U4 => ?_
      have hF4 := (hF3.push [some ⟨L8, [.raw (u8 0#8)]⟩]).keep U4 (by omega) (by omega)
      have hC4 := U4.fl
      have hwl := wrX_len (erX x ((k / 256 : Nat) : Int)) 0 [0#8]
      have kr := fun K => kRead_ok hF4 (by omega) k 1 (by omega) K
      rw [hs1] at kr
      obtain ⟨e4, hin4⟩ := (hC4.push [some ⟨L8, bs [255#8 ^^^ 0#8]⟩]).to
      have ks := fun K => kSize hin4 K
      have hfl : flLen (some (wrX (erX x ((k / 256 : Nat) : Int)) 0 [0#8], e4)) = 1024 := by rw [flLen, hwl, hel, hxl]
      rw [hfl] at ks
      have hbb : bs [255#8 ^^^ 0#8] = [.raw (u8 (255#8 ^^^ 0#8))] := rfl
      have hn1 : ((1 : Nat) : Int) = 1 := rfl
      rw [hbb] at kr ks
      rw [hn1] at kr
      simp only [↓amD, amU, Nat.reduceBEq, Nat.reduceAdd, Nat.reduceSub, Nat.reduceMul, Nat.reduceMod, Nat.reducePow, Nat.reduceLT, Nat.reduceDiv, Int.reduceToNat, BitVec.reduceToNat, zipEnv, Int.reduceLE, Int.reduceLT, Int.reduceNeg, BitVec.reduceEq, Int.reduceAdd, Int.reduceSub, Int.reduceMul, Nat.reduceLeDiff, Int.reduceEq, lv_app0, lv_appk, set_app0, set_appk, List.append_assoc, List.append_nil, Nat.add_assoc, h.rd, kr, h.sz, ks]
    · by_cases c2 : f ≤ k / 256
      · have c2' : ((f : Int) ≤ ((k / 256 : Nat) : Int)) = True := eq_true (by omega)
        by_cases c3 : k / 256 < f + p
        · have hB : blankB (some (x, e)) f p = false := by
            rw [hb]; classical exact decide_eq_false fun h => hiff.1 h ⟨c1, c2, c3⟩
          rw [hB] at kb
          have c3' : (((k / 256 : Nat) : Int) < ((f + p : Nat) : Int)) = True := eq_true (by omega)
          simp only [↓amD, amU, Nat.reduceBEq, Nat.reduceAdd, Nat.reduceSub, Nat.reduceMul, Nat.reduceMod, Nat.reducePow, Nat.reduceLT, Nat.reduceDiv, Int.reduceToNat, BitVec.reduceToNat, zipEnv, Int.reduceLE, Int.reduceLT, Int.reduceNeg, BitVec.reduceEq, Int.reduceAdd, Int.reduceSub, Int.reduceMul, Nat.reduceLeDiff, Int.reduceEq, g1, g2, g3, g4, g5, g6, g7, c1, c2', c3', e1, e2, h.bl, kb, h.n12, h.r12, decide_true, decide_false, beq_self_eq_true]
          refine copyA hF1 (by omega) fun R2 r2 m2 M2 => ?_
          have hF2 := hF1.made M2
          have hC2 := M2.fl
          have lt1 := hF1.lt
          have hm2 := M2.hm
          simp only [↓amD, amU, Nat.reduceBEq, Nat.reduceAdd, Nat.reduceSub, Nat.reduceMul, Nat.reduceMod, Nat.reducePow, Nat.reduceLT, Nat.reduceDiv, Int.reduceToNat, BitVec.reduceToNat, zipEnv, Int.reduceLE, Int.reduceLT, Int.reduceNeg, BitVec.reduceEq, Int.reduceAdd, Int.reduceSub, Int.reduceMul, Nat.reduceLeDiff, Int.reduceEq, h.n13, h.r13, e1, e2]
          refine eraseA hC2 (by omega) _ fun R3 U3 => ?_
          have hF3 := hF2.keep U3 (by omega) (by omega)
          have hC3 := U3.fl
          have hel := erX_len x ((k / 256 : Nat) : Int)
          simp only [↓amD, amU, Nat.reduceBEq, Nat.reduceAdd, Nat.reduceSub, Nat.reduceMul, Nat.reduceMod, Nat.reducePow, Nat.reduceLT, Nat.reduceDiv, Int.reduceToNat, BitVec.reduceToNat, zipEnv, Int.reduceLE, Int.reduceLT, Int.reduceNeg, BitVec.reduceEq, Int.reduceAdd, Int.reduceSub, Int.reduceMul, Nat.reduceLeDiff, Int.reduceEq, h.n14, h.r14]
          refine writeA (p := [0#8]) (hC3.push _) (by rw [lv_app0]; rfl) (by omega) (by decide) 0 fun R4 U4 => ?_
          have hF4 := (hF3.push [some ⟨L8, [.raw (u8 0#8)]⟩]).keep U4 (by omega) (by omega)
          have hC4 := U4.fl
          have hwl := wrX_len (erX x ((k / 256 : Nat) : Int)) 0 [0#8]
          have kr := fun K => kRead_ok hF4 (by omega) k 1 (by omega) K
          rw [hs1] at kr
          obtain ⟨e4, hin4⟩ := (hC4.push [some ⟨L8, bs [255#8 ^^^ by_]⟩]).to
          have ks := fun K => kSize hin4 K
          have hfl : flLen (some (wrX (erX x ((k / 256 : Nat) : Int)) 0 [0#8], e4)) = 1024 := by rw [flLen, hwl, hel, hxl]
          rw [hfl] at ks
          have hbb : bs [255#8 ^^^ by_] = [.raw (u8 (255#8 ^^^ by_))] := rfl
          have hn1 : ((1 : Nat) : Int) = 1 := rfl
          rw [hbb] at kr ks
          rw [hn1] at kr
          simp only [↓amD, amU, Nat.reduceBEq, Nat.reduceAdd, Nat.reduceSub, Nat.reduceMul, Nat.reduceMod, Nat.reducePow, Nat.reduceLT, Nat.reduceDiv, Int.reduceToNat, BitVec.reduceToNat, zipEnv, Int.reduceLE, Int.reduceLT, Int.reduceNeg, BitVec.reduceEq, Int.reduceAdd, Int.reduceSub, Int.reduceMul, Nat.reduceLeDiff, Int.reduceEq, lv_app0, lv_appk, set_app0, set_appk, List.append_assoc, List.append_nil, Nat.add_assoc, h.rd, kr, h.sz, ks]
        · have hB : blankB (some (x, e)) f p = true := by
            rw [hb]; classical exact decide_eq_true (hiff.2 fun h => c3 h.2.2)
          rw [hB] at kb
          have c3' : (((k / 256 : Nat) : Int) < ((f + p : Nat) : Int)) = False := eq_false (by omega)
          simp only [↓amD, amU, Nat.reduceBEq, Nat.reduceAdd, Nat.reduceSub, Nat.reduceMul, Nat.reduceMod, Nat.reducePow, Nat.reduceLT, Nat.reduceDiv, Int.reduceToNat, BitVec.reduceToNat, zipEnv, Int.reduceLE, Int.reduceLT, Int.reduceNeg, BitVec.reduceEq, Int.reduceAdd, Int.reduceSub, Int.reduceMul, Nat.reduceLeDiff, Int.reduceEq, g1, g2, g3, g4, g5, g6, g7, c1, c2', c3', e1, e2, h.bl, kb, h.n12, h.r12, decide_true, decide_false, beq_self_eq_true]
          refine copyA hF1 (by omega) fun R2 r2 m2 M2 => ?_
          have hF2 := hF1.made M2
          have hC2 := M2.fl
          have lt1 := hF1.lt
          have hm2 := M2.hm
          simp only [↓amD, amU, Nat.reduceBEq, Nat.reduceAdd, Nat.reduceSub, Nat.reduceMul, Nat.reduceMod, Nat.reducePow, Nat.reduceLT, Nat.reduceDiv, Int.reduceToNat, BitVec.reduceToNat, zipEnv, Int.reduceLE, Int.reduceLT, Int.reduceNeg, BitVec.reduceEq, Int.reduceAdd, Int.reduceSub, Int.reduceMul, Nat.reduceLeDiff, Int.reduceEq, h.n13, h.r13, e1, e2]
          refine eraseA hC2 (by omega) _ fun R3 U3 => ?_
          have hF3 := hF2.keep U3 (by omega) (by omega)
          have hC3 := U3.fl
          have hel := erX_len x ((k / 256 : Nat) : Int)
          simp only [↓amD, amU, Nat.reduceBEq, Nat.reduceAdd, Nat.reduceSub, Nat.reduceMul, Nat.reduceMod, Nat.reducePow, Nat.reduceLT, Nat.reduceDiv, Int.reduceToNat, BitVec.reduceToNat, zipEnv, Int.reduceLE, Int.reduceLT, Int.reduceNeg, BitVec.reduceEq, Int.reduceAdd, Int.reduceSub, Int.reduceMul, Nat.reduceLeDiff, Int.reduceEq, h.n14, h.r14]
          refine writeA (p := [0#8]) (hC3.push _) (by rw [lv_app0]; rfl) (by omega) (by decide) 0 fun R4 U4 => ?_
          have hF4 := (hF3.push [some ⟨L8, [.raw (u8 0#8)]⟩]).keep U4 (by omega) (by omega)
          have hC4 := U4.fl
          have hwl := wrX_len (erX x ((k / 256 : Nat) : Int)) 0 [0#8]
          have kr := fun K => kRead_ok hF4 (by omega) k 1 (by omega) K
          rw [hs1] at kr
          obtain ⟨e4, hin4⟩ := (hC4.push [some ⟨L8, bs [255#8 ^^^ by_]⟩]).to
          have ks := fun K => kSize hin4 K
          have hfl : flLen (some (wrX (erX x ((k / 256 : Nat) : Int)) 0 [0#8], e4)) = 1024 := by rw [flLen, hwl, hel, hxl]
          rw [hfl] at ks
          have hbb : bs [255#8 ^^^ by_] = [.raw (u8 (255#8 ^^^ by_))] := rfl
          have hn1 : ((1 : Nat) : Int) = 1 := rfl
          rw [hbb] at kr ks
          rw [hn1] at kr
          simp only [↓amD, amU, Nat.reduceBEq, Nat.reduceAdd, Nat.reduceSub, Nat.reduceMul, Nat.reduceMod, Nat.reducePow, Nat.reduceLT, Nat.reduceDiv, Int.reduceToNat, BitVec.reduceToNat, zipEnv, Int.reduceLE, Int.reduceLT, Int.reduceNeg, BitVec.reduceEq, Int.reduceAdd, Int.reduceSub, Int.reduceMul, Nat.reduceLeDiff, Int.reduceEq, lv_app0, lv_appk, set_app0, set_appk, List.append_assoc, List.append_nil, Nat.add_assoc, h.rd, kr, h.sz, ks]
      · have hB : blankB (some (x, e)) f p = true := by
          rw [hb]; classical exact decide_eq_true (hiff.2 fun h => c2 h.2.1)
        rw [hB] at kb
        have c2' : ((f : Int) ≤ ((k / 256 : Nat) : Int)) = False := eq_false (by omega)
        simp only [↓amD, amU, Nat.reduceBEq, Nat.reduceAdd, Nat.reduceSub, Nat.reduceMul, Nat.reduceMod, Nat.reducePow, Nat.reduceLT, Nat.reduceDiv, Int.reduceToNat, BitVec.reduceToNat, zipEnv, Int.reduceLE, Int.reduceLT, Int.reduceNeg, BitVec.reduceEq, Int.reduceAdd, Int.reduceSub, Int.reduceMul, Nat.reduceLeDiff, Int.reduceEq, g1, g2, g3, g4, g5, g6, g7, c1, c2', e1, e2, h.bl, kb, h.n12, h.r12, decide_true, decide_false, beq_self_eq_true]
        refine copyA hF1 (by omega) fun R2 r2 m2 M2 => ?_
        have hF2 := hF1.made M2
        have hC2 := M2.fl
        have lt1 := hF1.lt
        have hm2 := M2.hm
        simp only [↓amD, amU, Nat.reduceBEq, Nat.reduceAdd, Nat.reduceSub, Nat.reduceMul, Nat.reduceMod, Nat.reducePow, Nat.reduceLT, Nat.reduceDiv, Int.reduceToNat, BitVec.reduceToNat, zipEnv, Int.reduceLE, Int.reduceLT, Int.reduceNeg, BitVec.reduceEq, Int.reduceAdd, Int.reduceSub, Int.reduceMul, Nat.reduceLeDiff, Int.reduceEq, h.n13, h.r13, e1, e2]
        refine eraseA hC2 (by omega) _ fun R3 U3 => ?_
        have hF3 := hF2.keep U3 (by omega) (by omega)
        have hC3 := U3.fl
        have hel := erX_len x ((k / 256 : Nat) : Int)
        simp only [↓amD, amU, Nat.reduceBEq, Nat.reduceAdd, Nat.reduceSub, Nat.reduceMul, Nat.reduceMod, Nat.reducePow, Nat.reduceLT, Nat.reduceDiv, Int.reduceToNat, BitVec.reduceToNat, zipEnv, Int.reduceLE, Int.reduceLT, Int.reduceNeg, BitVec.reduceEq, Int.reduceAdd, Int.reduceSub, Int.reduceMul, Nat.reduceLeDiff, Int.reduceEq, h.n14, h.r14]
        refine writeA (p := [0#8]) (hC3.push _) (by rw [lv_app0]; rfl) (by omega) (by decide) 0 fun R4 U4 => ?_
        have hF4 := (hF3.push [some ⟨L8, [.raw (u8 0#8)]⟩]).keep U4 (by omega) (by omega)
        have hC4 := U4.fl
        have hwl := wrX_len (erX x ((k / 256 : Nat) : Int)) 0 [0#8]
        have kr := fun K => kRead_ok hF4 (by omega) k 1 (by omega) K
        rw [hs1] at kr
        obtain ⟨e4, hin4⟩ := (hC4.push [some ⟨L8, bs [255#8 ^^^ by_]⟩]).to
        have ks := fun K => kSize hin4 K
        have hfl : flLen (some (wrX (erX x ((k / 256 : Nat) : Int)) 0 [0#8], e4)) = 1024 := by rw [flLen, hwl, hel, hxl]
        rw [hfl] at ks
        have hbb : bs [255#8 ^^^ by_] = [.raw (u8 (255#8 ^^^ by_))] := rfl
        have hn1 : ((1 : Nat) : Int) = 1 := rfl
        rw [hbb] at kr ks
        rw [hn1] at kr
        simp only [↓amD, amU, Nat.reduceBEq, Nat.reduceAdd, Nat.reduceSub, Nat.reduceMul, Nat.reduceMod, Nat.reducePow, Nat.reduceLT, Nat.reduceDiv, Int.reduceToNat, BitVec.reduceToNat, zipEnv, Int.reduceLE, Int.reduceLT, Int.reduceNeg, BitVec.reduceEq, Int.reduceAdd, Int.reduceSub, Int.reduceMul, Nat.reduceLeDiff, Int.reduceEq, lv_app0, lv_appk, set_app0, set_appk, List.append_assoc, List.append_nil, Nat.add_assoc, h.rd, kr, h.sz, ks]
  · have hB := hblo e T
    rw [hB] at kb
    have hm4 : ∀ z : Int, z ≤ 4 → min z 4 = z := fun z h => by omega
    have hcs : (((0 : Int) ≤ f) = False) ∨ (((0 : Int) ≤ f) = True ∧ ((0 : Int) ≤ p) = False) ∨ (((0 : Int) ≤ f) = True ∧ ((0 : Int) ≤ p) = True ∧ (f ≤ 4) = False) ∨ (((0 : Int) ≤ f) = True ∧ ((0 : Int) ≤ p) = True ∧ (f ≤ 4) = True ∧ (p ≤ 4 - f) = False ∧ wz (4 - f) = 4 - f ∧ min f 4 = f) := by
      by_cases h1 : 0 ≤ f
      · by_cases h2 : 0 ≤ p
        · by_cases h3 : f ≤ 4
          · exact .inr (.inr (.inr ⟨eq_true h1, eq_true h2, eq_true h3, eq_false (by omega), wz_id (by omega), by omega⟩))
          · exact .inr (.inr (.inl ⟨eq_true h1, eq_true h2, eq_false h3⟩))
        · exact .inr (.inl ⟨eq_true h1, eq_false h2⟩)
      · exact .inl (eq_false h1)
    rcases hcs with q1 | ⟨q1, q2⟩ | ⟨q1, q2, q3⟩ | ⟨q1, q2, q3, q4, q5, q6⟩
    · by_cases c1 : by_ = 0#8
      · subst c1
        simp only [↓amD, amU, Nat.reduceBEq, Nat.reduceAdd, Nat.reduceSub, Nat.reduceMul, Nat.reduceMod, Nat.reducePow, Nat.reduceLT, Nat.reduceDiv, Int.reduceToNat, BitVec.reduceToNat, zipEnv, Int.reduceLE, Int.reduceLT, Int.reduceNeg, BitVec.reduceEq, Int.reduceAdd, Int.reduceSub, Int.reduceMul, Nat.reduceLeDiff, Int.reduceEq, q1, e1, e2, h.bl, kb, h.n12, h.r12, decide_true, decide_false, beq_self_eq_true]
        refine copyA hF1 (by omega) fun R2 r2 m2 M2 => ?_
        have hF2 := hF1.made M2
        have hC2 := M2.fl
        have lt1 := hF1.lt
        have hm2 := M2.hm
        simp only [↓amD, amU, Nat.reduceBEq, Nat.reduceAdd, Nat.reduceSub, Nat.reduceMul, Nat.reduceMod, Nat.reducePow, Nat.reduceLT, Nat.reduceDiv, Int.reduceToNat, BitVec.reduceToNat, zipEnv, Int.reduceLE, Int.reduceLT, Int.reduceNeg, BitVec.reduceEq, Int.reduceAdd, Int.reduceSub, Int.reduceMul, Nat.reduceLeDiff, Int.reduceEq, h.n13, h.r13, e1, e2]
        refine eraseA hC2 (by omega) _ fun R3 U3 => ?_
        have hF3 := hF2.keep U3 (by omega) (by omega)
        have hC3 := U3.fl
        have hel := erX_len x ((k / 256 : Nat) : Int)
        simp only [↓amD, amU, Nat.reduceBEq, Nat.reduceAdd, Nat.reduceSub, Nat.reduceMul, Nat.reduceMod, Nat.reducePow, Nat.reduceLT, Nat.reduceDiv, Int.reduceToNat, BitVec.reduceToNat, zipEnv, Int.reduceLE, Int.reduceLT, Int.reduceNeg, BitVec.reduceEq, Int.reduceAdd, Int.reduceSub, Int.reduceMul, Nat.reduceLeDiff, Int.reduceEq, h.n14, h.r14]
        refine writeA (p := [0#8]) (hC3.push _) (by rw [lv_app0]; rfl) (by omega) (by decide) 0 fun R4 U4 => ?_
        have hF4 := (hF3.push [some ⟨L8, [.raw (u8 0#8)]⟩]).keep U4 (by omega) (by omega)
        have hC4 := U4.fl
        have hwl := wrX_len (erX x ((k / 256 : Nat) : Int)) 0 [0#8]
        have kr := fun K => kRead_ok hF4 (by omega) k 1 (by omega) K
        rw [hs1] at kr
        obtain ⟨e4, hin4⟩ := (hC4.push [some ⟨L8, bs [255#8 ^^^ 0#8]⟩]).to
        have ks := fun K => kSize hin4 K
        have hfl : flLen (some (wrX (erX x ((k / 256 : Nat) : Int)) 0 [0#8], e4)) = 1024 := by rw [flLen, hwl, hel, hxl]
        rw [hfl] at ks
        have hbb : bs [255#8 ^^^ 0#8] = [.raw (u8 (255#8 ^^^ 0#8))] := rfl
        have hn1 : ((1 : Nat) : Int) = 1 := rfl
        rw [hbb] at kr ks
        rw [hn1] at kr
        simp only [↓amD, amU, Nat.reduceBEq, Nat.reduceAdd, Nat.reduceSub, Nat.reduceMul, Nat.reduceMod, Nat.reducePow, Nat.reduceLT, Nat.reduceDiv, Int.reduceToNat, BitVec.reduceToNat, zipEnv, Int.reduceLE, Int.reduceLT, Int.reduceNeg, BitVec.reduceEq, Int.reduceAdd, Int.reduceSub, Int.reduceMul, Nat.reduceLeDiff, Int.reduceEq, lv_app0, lv_appk, set_app0, set_appk, List.append_assoc, List.append_nil, Nat.add_assoc, h.rd, kr, h.sz, ks]
      · by_cases c2 : f ≤ ((k / 256 : Nat) : Int)
        · simp only [↓amD, amU, Nat.reduceBEq, Nat.reduceAdd, Nat.reduceSub, Nat.reduceMul, Nat.reduceMod, Nat.reducePow, Nat.reduceLT, Nat.reduceDiv, Int.reduceToNat, BitVec.reduceToNat, zipEnv, Int.reduceLE, Int.reduceLT, Int.reduceNeg, BitVec.reduceEq, Int.reduceAdd, Int.reduceSub, Int.reduceMul, Nat.reduceLeDiff, Int.reduceEq, q1, c1, c2, e1, e2, h.bl, kb, h.n12, h.r12, decide_true, decide_false, beq_self_eq_true]
          refine copyA hF1 (by omega) fun R2 r2 m2 M2 => ?_
          have hF2 := hF1.made M2
          have hC2 := M2.fl
          have lt1 := hF1.lt
          have hm2 := M2.hm
          simp only [↓amD, amU, Nat.reduceBEq, Nat.reduceAdd, Nat.reduceSub, Nat.reduceMul, Nat.reduceMod, Nat.reducePow, Nat.reduceLT, Nat.reduceDiv, Int.reduceToNat, BitVec.reduceToNat, zipEnv, Int.reduceLE, Int.reduceLT, Int.reduceNeg, BitVec.reduceEq, Int.reduceAdd, Int.reduceSub, Int.reduceMul, Nat.reduceLeDiff, Int.reduceEq, h.n13, h.r13, e1, e2]
          refine eraseA hC2 (by omega) _ fun R3 U3 => ?_
          have hF3 := hF2.keep U3 (by omega) (by omega)
          have hC3 := U3.fl
          have hel := erX_len x ((k / 256 : Nat) : Int)
          simp only [↓amD, amU, Nat.reduceBEq, Nat.reduceAdd, Nat.reduceSub, Nat.reduceMul, Nat.reduceMod, Nat.reducePow, Nat.reduceLT, Nat.reduceDiv, Int.reduceToNat, BitVec.reduceToNat, zipEnv, Int.reduceLE, Int.reduceLT, Int.reduceNeg, BitVec.reduceEq, Int.reduceAdd, Int.reduceSub, Int.reduceMul, Nat.reduceLeDiff, Int.reduceEq, h.n14, h.r14]
          refine writeA (p := [0#8]) (hC3.push _) (by rw [lv_app0]; rfl) (by omega) (by decide) 0 fun R4 U4 => ?_
          have hF4 := (hF3.push [some ⟨L8, [.raw (u8 0#8)]⟩]).keep U4 (by omega) (by omega)
          have hC4 := U4.fl
          have hwl := wrX_len (erX x ((k / 256 : Nat) : Int)) 0 [0#8]
          have kr := fun K => kRead_ok hF4 (by omega) k 1 (by omega) K
          rw [hs1] at kr
          obtain ⟨e4, hin4⟩ := (hC4.push [some ⟨L8, bs [255#8 ^^^ by_]⟩]).to
          have ks := fun K => kSize hin4 K
          have hfl : flLen (some (wrX (erX x ((k / 256 : Nat) : Int)) 0 [0#8], e4)) = 1024 := by rw [flLen, hwl, hel, hxl]
          rw [hfl] at ks
          have hbb : bs [255#8 ^^^ by_] = [.raw (u8 (255#8 ^^^ by_))] := rfl
          have hn1 : ((1 : Nat) : Int) = 1 := rfl
          rw [hbb] at kr ks
          rw [hn1] at kr
          simp only [↓amD, amU, Nat.reduceBEq, Nat.reduceAdd, Nat.reduceSub, Nat.reduceMul, Nat.reduceMod, Nat.reducePow, Nat.reduceLT, Nat.reduceDiv, Int.reduceToNat, BitVec.reduceToNat, zipEnv, Int.reduceLE, Int.reduceLT, Int.reduceNeg, BitVec.reduceEq, Int.reduceAdd, Int.reduceSub, Int.reduceMul, Nat.reduceLeDiff, Int.reduceEq, lv_app0, lv_appk, set_app0, set_appk, List.append_assoc, List.append_nil, Nat.add_assoc, h.rd, kr, h.sz, ks]
        · simp only [↓amD, amU, Nat.reduceBEq, Nat.reduceAdd, Nat.reduceSub, Nat.reduceMul, Nat.reduceMod, Nat.reducePow, Nat.reduceLT, Nat.reduceDiv, Int.reduceToNat, BitVec.reduceToNat, zipEnv, Int.reduceLE, Int.reduceLT, Int.reduceNeg, BitVec.reduceEq, Int.reduceAdd, Int.reduceSub, Int.reduceMul, Nat.reduceLeDiff, Int.reduceEq, q1, c1, c2, e1, e2, h.bl, kb, h.n12, h.r12, decide_true, decide_false, beq_self_eq_true]
          refine copyA hF1 (by omega) fun R2 r2 m2 M2 => ?_
          have hF2 := hF1.made M2
          have hC2 := M2.fl
          have lt1 := hF1.lt
          have hm2 := M2.hm
          simp only [↓amD, amU, Nat.reduceBEq, Nat.reduceAdd, Nat.reduceSub, Nat.reduceMul, Nat.reduceMod, Nat.reducePow, Nat.reduceLT, Nat.reduceDiv, Int.reduceToNat, BitVec.reduceToNat, zipEnv, Int.reduceLE, Int.reduceLT, Int.reduceNeg, BitVec.reduceEq, Int.reduceAdd, Int.reduceSub, Int.reduceMul, Nat.reduceLeDiff, Int.reduceEq, h.n13, h.r13, e1, e2]
          refine eraseA hC2 (by omega) _ fun R3 U3 => ?_
          have hF3 := hF2.keep U3 (by omega) (by omega)
          have hC3 := U3.fl
          have hel := erX_len x ((k / 256 : Nat) : Int)
          simp only [↓amD, amU, Nat.reduceBEq, Nat.reduceAdd, Nat.reduceSub, Nat.reduceMul, Nat.reduceMod, Nat.reducePow, Nat.reduceLT, Nat.reduceDiv, Int.reduceToNat, BitVec.reduceToNat, zipEnv, Int.reduceLE, Int.reduceLT, Int.reduceNeg, BitVec.reduceEq, Int.reduceAdd, Int.reduceSub, Int.reduceMul, Nat.reduceLeDiff, Int.reduceEq, h.n14, h.r14]
          refine writeA (p := [0#8]) (hC3.push _) (by rw [lv_app0]; rfl) (by omega) (by decide) 0 fun R4 U4 => ?_
          have hF4 := (hF3.push [some ⟨L8, [.raw (u8 0#8)]⟩]).keep U4 (by omega) (by omega)
          have hC4 := U4.fl
          have hwl := wrX_len (erX x ((k / 256 : Nat) : Int)) 0 [0#8]
          have kr := fun K => kRead_ok hF4 (by omega) k 1 (by omega) K
          rw [hs1] at kr
          obtain ⟨e4, hin4⟩ := (hC4.push [some ⟨L8, bs [255#8 ^^^ by_]⟩]).to
          have ks := fun K => kSize hin4 K
          have hfl : flLen (some (wrX (erX x ((k / 256 : Nat) : Int)) 0 [0#8], e4)) = 1024 := by rw [flLen, hwl, hel, hxl]
          rw [hfl] at ks
          have hbb : bs [255#8 ^^^ by_] = [.raw (u8 (255#8 ^^^ by_))] := rfl
          have hn1 : ((1 : Nat) : Int) = 1 := rfl
          rw [hbb] at kr ks
          rw [hn1] at kr
          simp only [↓amD, amU, Nat.reduceBEq, Nat.reduceAdd, Nat.reduceSub, Nat.reduceMul, Nat.reduceMod, Nat.reducePow, Nat.reduceLT, Nat.reduceDiv, Int.reduceToNat, BitVec.reduceToNat, zipEnv, Int.reduceLE, Int.reduceLT, Int.reduceNeg, BitVec.reduceEq, Int.reduceAdd, Int.reduceSub, Int.reduceMul, Nat.reduceLeDiff, Int.reduceEq, lv_app0, lv_appk, set_app0, set_appk, List.append_assoc, List.append_nil, Nat.add_assoc, h.rd, kr, h.sz, ks]
    · by_cases c1 : by_ = 0#8
      · subst c1
        simp only [↓amD, amU, Nat.reduceBEq, Nat.reduceAdd, Nat.reduceSub, Nat.reduceMul, Nat.reduceMod, Nat.reducePow, Nat.reduceLT, Nat.reduceDiv, Int.reduceToNat, BitVec.reduceToNat, zipEnv, Int.reduceLE, Int.reduceLT, Int.reduceNeg, BitVec.reduceEq, Int.reduceAdd, Int.reduceSub, Int.reduceMul, Nat.reduceLeDiff, Int.reduceEq, q1, q2, e1, e2, h.bl, kb, h.n12, h.r12, decide_true, decide_false, beq_self_eq_true]
        refine copyA hF1 (by omega) fun R2 r2 m2 M2 => ?_
        have hF2 := hF1.made M2
        have hC2 := M2.fl
        have lt1 := hF1.lt
        have hm2 := M2.hm
        simp only [↓amD, amU, Nat.reduceBEq, Nat.reduceAdd, Nat.reduceSub, Nat.reduceMul, Nat.reduceMod, Nat.reducePow, Nat.reduceLT, Nat.reduceDiv, Int.reduceToNat, BitVec.reduceToNat, zipEnv, Int.reduceLE, Int.reduceLT, Int.reduceNeg, BitVec.reduceEq, Int.reduceAdd, Int.reduceSub, Int.reduceMul, Nat.reduceLeDiff, Int.reduceEq, h.n13, h.r13, e1, e2]
        refine eraseA hC2 (by omega) _ fun R3 U3 => ?_
        have hF3 := hF2.keep U3 (by omega) (by omega)
        have hC3 := U3.fl
        have hel := erX_len x ((k / 256 : Nat) : Int)
        simp only [↓amD, amU, Nat.reduceBEq, Nat.reduceAdd, Nat.reduceSub, Nat.reduceMul, Nat.reduceMod, Nat.reducePow, Nat.reduceLT, Nat.reduceDiv, Int.reduceToNat, BitVec.reduceToNat, zipEnv, Int.reduceLE, Int.reduceLT, Int.reduceNeg, BitVec.reduceEq, Int.reduceAdd, Int.reduceSub, Int.reduceMul, Nat.reduceLeDiff, Int.reduceEq, h.n14, h.r14]
        refine writeA (p := [0#8]) (hC3.push _) (by rw [lv_app0]; rfl) (by omega) (by decide) 0 fun R4 U4 => ?_
        have hF4 := (hF3.push [some ⟨L8, [.raw (u8 0#8)]⟩]).keep U4 (by omega) (by omega)
        have hC4 := U4.fl
        have hwl := wrX_len (erX x ((k / 256 : Nat) : Int)) 0 [0#8]
        have kr := fun K => kRead_ok hF4 (by omega) k 1 (by omega) K
        rw [hs1] at kr
        obtain ⟨e4, hin4⟩ := (hC4.push [some ⟨L8, bs [255#8 ^^^ 0#8]⟩]).to
        have ks := fun K => kSize hin4 K
        have hfl : flLen (some (wrX (erX x ((k / 256 : Nat) : Int)) 0 [0#8], e4)) = 1024 := by rw [flLen, hwl, hel, hxl]
        rw [hfl] at ks
        have hbb : bs [255#8 ^^^ 0#8] = [.raw (u8 (255#8 ^^^ 0#8))] := rfl
        have hn1 : ((1 : Nat) : Int) = 1 := rfl
        rw [hbb] at kr ks
        rw [hn1] at kr
        simp only [↓amD, amU, Nat.reduceBEq, Nat.reduceAdd, Nat.reduceSub, Nat.reduceMul, Nat.reduceMod, Nat.reducePow, Nat.reduceLT, Nat.reduceDiv, Int.reduceToNat, BitVec.reduceToNat, zipEnv, Int.reduceLE, Int.reduceLT, Int.reduceNeg, BitVec.reduceEq, Int.reduceAdd, Int.reduceSub, Int.reduceMul, Nat.reduceLeDiff, Int.reduceEq, lv_app0, lv_appk, set_app0, set_appk, List.append_assoc, List.append_nil, Nat.add_assoc, h.rd, kr, h.sz, ks]
      · by_cases c2 : f ≤ ((k / 256 : Nat) : Int)
        · simp only [↓amD, amU, Nat.reduceBEq, Nat.reduceAdd, Nat.reduceSub, Nat.reduceMul, Nat.reduceMod, Nat.reducePow, Nat.reduceLT, Nat.reduceDiv, Int.reduceToNat, BitVec.reduceToNat, zipEnv, Int.reduceLE, Int.reduceLT, Int.reduceNeg, BitVec.reduceEq, Int.reduceAdd, Int.reduceSub, Int.reduceMul, Nat.reduceLeDiff, Int.reduceEq, q1, q2, c1, c2, e1, e2, h.bl, kb, h.n12, h.r12, decide_true, decide_false, beq_self_eq_true]
          refine copyA hF1 (by omega) fun R2 r2 m2 M2 => ?_
          have hF2 := hF1.made M2
          have hC2 := M2.fl
          have lt1 := hF1.lt
          have hm2 := M2.hm
          simp only [↓amD, amU, Nat.reduceBEq, Nat.reduceAdd, Nat.reduceSub, Nat.reduceMul, Nat.reduceMod, Nat.reducePow, Nat.reduceLT, Nat.reduceDiv, Int.reduceToNat, BitVec.reduceToNat, zipEnv, Int.reduceLE, Int.reduceLT, Int.reduceNeg, BitVec.reduceEq, Int.reduceAdd, Int.reduceSub, Int.reduceMul, Nat.reduceLeDiff, Int.reduceEq, h.n13, h.r13, e1, e2]
          refine eraseA hC2 (by omega) _ fun R3 U3 => ?_
          have hF3 := hF2.keep U3 (by omega) (by omega)
          have hC3 := U3.fl
          have hel := erX_len x ((k / 256 : Nat) : Int)
          simp only [↓amD, amU, Nat.reduceBEq, Nat.reduceAdd, Nat.reduceSub, Nat.reduceMul, Nat.reduceMod, Nat.reducePow, Nat.reduceLT, Nat.reduceDiv, Int.reduceToNat, BitVec.reduceToNat, zipEnv, Int.reduceLE, Int.reduceLT, Int.reduceNeg, BitVec.reduceEq, Int.reduceAdd, Int.reduceSub, Int.reduceMul, Nat.reduceLeDiff, Int.reduceEq, h.n14, h.r14]
          refine writeA (p := [0#8]) (hC3.push _) (by rw [lv_app0]; rfl) (by omega) (by decide) 0 fun R4 U4 => ?_
          have hF4 := (hF3.push [some ⟨L8, [.raw (u8 0#8)]⟩]).keep U4 (by omega) (by omega)
          have hC4 := U4.fl
          have hwl := wrX_len (erX x ((k / 256 : Nat) : Int)) 0 [0#8]
          have kr := fun K => kRead_ok hF4 (by omega) k 1 (by omega) K
          rw [hs1] at kr
          obtain ⟨e4, hin4⟩ := (hC4.push [some ⟨L8, bs [255#8 ^^^ by_]⟩]).to
          have ks := fun K => kSize hin4 K
          have hfl : flLen (some (wrX (erX x ((k / 256 : Nat) : Int)) 0 [0#8], e4)) = 1024 := by rw [flLen, hwl, hel, hxl]
          rw [hfl] at ks
          have hbb : bs [255#8 ^^^ by_] = [.raw (u8 (255#8 ^^^ by_))] := rfl
          have hn1 : ((1 : Nat) : Int) = 1 := rfl
          rw [hbb] at kr ks
          rw [hn1] at kr
          simp only [↓amD, amU, Nat.reduceBEq, Nat.reduceAdd, Nat.reduceSub, Nat.reduceMul, Nat.reduceMod, Nat.reducePow, Nat.reduceLT, Nat.reduceDiv, Int.reduceToNat, BitVec.reduceToNat, zipEnv, Int.reduceLE, Int.reduceLT, Int.reduceNeg, BitVec.reduceEq, Int.reduceAdd, Int.reduceSub, Int.reduceMul, Nat.reduceLeDiff, Int.reduceEq, lv_app0, lv_appk, set_app0, set_appk, List.append_assoc, List.append_nil, Nat.add_assoc, h.rd, kr, h.sz, ks]
        · simp only [↓amD, amU, Nat.reduceBEq, Nat.reduceAdd, Nat.reduceSub, Nat.reduceMul, Nat.reduceMod, Nat.reducePow, Nat.reduceLT, Nat.reduceDiv, Int.reduceToNat, BitVec.reduceToNat, zipEnv, Int.reduceLE, Int.reduceLT, Int.reduceNeg, BitVec.reduceEq, Int.reduceAdd, Int.reduceSub, Int.reduceMul, Nat.reduceLeDiff, Int.reduceEq, q1, q2, c1, c2, e1, e2, h.bl, kb, h.n12, h.r12, decide_true, decide_false, beq_self_eq_true]
          refine copyA hF1 (by omega) fun R2 r2 m2 M2 => ?_
          have hF2 := hF1.made M2
          have hC2 := M2.fl
          have lt1 := hF1.lt
          have hm2 := M2.hm
          simp only [↓amD, amU, Nat.reduceBEq, Nat.reduceAdd, Nat.reduceSub, Nat.reduceMul, Nat.reduceMod, Nat.reducePow, Nat.reduceLT, Nat.reduceDiv, Int.reduceToNat, BitVec.reduceToNat, zipEnv, Int.reduceLE, Int.reduceLT, Int.reduceNeg, BitVec.reduceEq, Int.reduceAdd, Int.reduceSub, Int.reduceMul, Nat.reduceLeDiff, Int.reduceEq, h.n13, h.r13, e1, e2]
          refine eraseA hC2 (by omega) _ fun R3 U3 => ?_
          have hF3 := hF2.keep U3 (by omega) (by omega)
          have hC3 := U3.fl
          have hel := erX_len x ((k / 256 : Nat) : Int)
          simp only [↓amD, amU, Nat.reduceBEq, Nat.reduceAdd, Nat.reduceSub, Nat.reduceMul, Nat.reduceMod, Nat.reducePow, Nat.reduceLT, Nat.reduceDiv, Int.reduceToNat, BitVec.reduceToNat, zipEnv, Int.reduceLE, Int.reduceLT, Int.reduceNeg, BitVec.reduceEq, Int.reduceAdd, Int.reduceSub, Int.reduceMul, Nat.reduceLeDiff, Int.reduceEq, h.n14, h.r14]
          refine writeA (p := [0#8]) (hC3.push _) (by rw [lv_app0]; rfl) (by omega) (by decide) 0 fun R4 U4 => ?_
          have hF4 := (hF3.push [some ⟨L8, [.raw (u8 0#8)]⟩]).keep U4 (by omega) (by omega)
          have hC4 := U4.fl
          have hwl := wrX_len (erX x ((k / 256 : Nat) : Int)) 0 [0#8]
          have kr := fun K => kRead_ok hF4 (by omega) k 1 (by omega) K
          rw [hs1] at kr
          obtain ⟨e4, hin4⟩ := (hC4.push [some ⟨L8, bs [255#8 ^^^ by_]⟩]).to
          have ks := fun K => kSize hin4 K
          have hfl : flLen (some (wrX (erX x ((k / 256 : Nat) : Int)) 0 [0#8], e4)) = 1024 := by rw [flLen, hwl, hel, hxl]
          rw [hfl] at ks
          have hbb : bs [255#8 ^^^ by_] = [.raw (u8 (255#8 ^^^ by_))] := rfl
          have hn1 : ((1 : Nat) : Int) = 1 := rfl
          rw [hbb] at kr ks
          rw [hn1] at kr
          simp only [↓amD, amU, Nat.reduceBEq, Nat.reduceAdd, Nat.reduceSub, Nat.reduceMul, Nat.reduceMod, Nat.reducePow, Nat.reduceLT, Nat.reduceDiv, Int.reduceToNat, BitVec.reduceToNat, zipEnv, Int.reduceLE, Int.reduceLT, Int.reduceNeg, BitVec.reduceEq, Int.reduceAdd, Int.reduceSub, Int.reduceMul, Nat.reduceLeDiff, Int.reduceEq, lv_app0, lv_appk, set_app0, set_appk, List.append_assoc, List.append_nil, Nat.add_assoc, h.rd, kr, h.sz, ks]
    · by_cases c1 : by_ = 0#8
      · subst c1
        simp only [↓amD, amU, Nat.reduceBEq, Nat.reduceAdd, Nat.reduceSub, Nat.reduceMul, Nat.reduceMod, Nat.reducePow, Nat.reduceLT, Nat.reduceDiv, Int.reduceToNat, BitVec.reduceToNat, zipEnv, Int.reduceLE, Int.reduceLT, Int.reduceNeg, BitVec.reduceEq, Int.reduceAdd, Int.reduceSub, Int.reduceMul, Nat.reduceLeDiff, Int.reduceEq, q1, q2, q3, e1, e2, h.bl, kb, h.n12, h.r12, decide_true, decide_false, beq_self_eq_true]
        refine copyA hF1 (by omega) fun R2 r2 m2 M2 => ?_
        have hF2 := hF1.made M2
        have hC2 := M2.fl
        have lt1 := hF1.lt
        have hm2 := M2.hm
        simp only [↓amD, amU, Nat.reduceBEq, Nat.reduceAdd, Nat.reduceSub, Nat.reduceMul, Nat.reduceMod, Nat.reducePow, Nat.reduceLT, Nat.reduceDiv, Int.reduceToNat, BitVec.reduceToNat, zipEnv, Int.reduceLE, Int.reduceLT, Int.reduceNeg, BitVec.reduceEq, Int.reduceAdd, Int.reduceSub, Int.reduceMul, Nat.reduceLeDiff, Int.reduceEq, h.n13, h.r13, e1, e2]
        refine eraseA hC2 (by omega) _ fun R3 U3 => ?_
        have hF3 := hF2.keep U3 (by omega) (by omega)
        have hC3 := U3.fl
        have hel := erX_len x ((k / 256 : Nat) : Int)
        simp only [↓amD, amU, Nat.reduceBEq, Nat.reduceAdd, Nat.reduceSub, Nat.reduceMul, Nat.reduceMod, Nat.reducePow, Nat.reduceLT, Nat.reduceDiv, Int.reduceToNat, BitVec.reduceToNat, zipEnv, Int.reduceLE, Int.reduceLT, Int.reduceNeg, BitVec.reduceEq, Int.reduceAdd, Int.reduceSub, Int.reduceMul, Nat.reduceLeDiff, Int.reduceEq, h.n14, h.r14]
        refine writeA (p := [0#8]) (hC3.push _) (by rw [lv_app0]; rfl) (by omega) (by decide) 0 fun R4 U4 => ?_
        have hF4 := (hF3.push [some ⟨L8, [.raw (u8 0#8)]⟩]).keep U4 (by omega) (by omega)
        have hC4 := U4.fl
        have hwl := wrX_len (erX x ((k / 256 : Nat) : Int)) 0 [0#8]
        have kr := fun K => kRead_ok hF4 (by omega) k 1 (by omega) K
        rw [hs1] at kr
        obtain ⟨e4, hin4⟩ := (hC4.push [some ⟨L8, bs [255#8 ^^^ 0#8]⟩]).to
        have ks := fun K => kSize hin4 K
        have hfl : flLen (some (wrX (erX x ((k / 256 : Nat) : Int)) 0 [0#8], e4)) = 1024 := by rw [flLen, hwl, hel, hxl]
        rw [hfl] at ks
        have hbb : bs [255#8 ^^^ 0#8] = [.raw (u8 (255#8 ^^^ 0#8))] := rfl
        have hn1 : ((1 : Nat) : Int) = 1 := rfl
        rw [hbb] at kr ks
        rw [hn1] at kr
        simp only [↓amD, amU, Nat.reduceBEq, Nat.reduceAdd, Nat.reduceSub, Nat.reduceMul, Nat.reduceMod, Nat.reducePow, Nat.reduceLT, Nat.reduceDiv, Int.reduceToNat, BitVec.reduceToNat, zipEnv, Int.reduceLE, Int.reduceLT, Int.reduceNeg, BitVec.reduceEq, Int.reduceAdd, Int.reduceSub, Int.reduceMul, Nat.reduceLeDiff, Int.reduceEq, lv_app0, lv_appk, set_app0, set_appk, List.append_assoc, List.append_nil, Nat.add_assoc, h.rd, kr, h.sz, ks]
      · by_cases c2 : f ≤ ((k / 256 : Nat) : Int)
        · simp only [↓amD, amU, Nat.reduceBEq, Nat.reduceAdd, Nat.reduceSub, Nat.reduceMul, Nat.reduceMod, Nat.reducePow, Nat.reduceLT, Nat.reduceDiv, Int.reduceToNat, BitVec.reduceToNat, zipEnv, Int.reduceLE, Int.reduceLT, Int.reduceNeg, BitVec.reduceEq, Int.reduceAdd, Int.reduceSub, Int.reduceMul, Nat.reduceLeDiff, Int.reduceEq, q1, q2, q3, c1, c2, e1, e2, h.bl, kb, h.n12, h.r12, decide_true, decide_false, beq_self_eq_true]
          refine copyA hF1 (by omega) fun R2 r2 m2 M2 => ?_
          have hF2 := hF1.made M2
          have hC2 := M2.fl
          have lt1 := hF1.lt
          have hm2 := M2.hm
          simp only [↓amD, amU, Nat.reduceBEq, Nat.reduceAdd, Nat.reduceSub, Nat.reduceMul, Nat.reduceMod, Nat.reducePow, Nat.reduceLT, Nat.reduceDiv, Int.reduceToNat, BitVec.reduceToNat, zipEnv, Int.reduceLE, Int.reduceLT, Int.reduceNeg, BitVec.reduceEq, Int.reduceAdd, Int.reduceSub, Int.reduceMul, Nat.reduceLeDiff, Int.reduceEq, h.n13, h.r13, e1, e2]
          refine eraseA hC2 (by omega) _ fun R3 U3 => ?_
          have hF3 := hF2.keep U3 (by omega) (by omega)
          have hC3 := U3.fl
          have hel := erX_len x ((k / 256 : Nat) : Int)
          simp only [↓amD, amU, Nat.reduceBEq, Nat.reduceAdd, Nat.reduceSub, Nat.reduceMul, Nat.reduceMod, Nat.reducePow, Nat.reduceLT, Nat.reduceDiv, Int.reduceToNat, BitVec.reduceToNat, zipEnv, Int.reduceLE, Int.reduceLT, Int.reduceNeg, BitVec.reduceEq, Int.reduceAdd, Int.reduceSub, Int.reduceMul, Nat.reduceLeDiff, Int.reduceEq, h.n14, h.r14]
          refine writeA (p := [0#8]) (hC3.push _) (by rw [lv_app0]; rfl) (by omega) (by decide) 0 fun R4 U4 => ?_
          have hF4 := (hF3.push [some ⟨L8, [.raw (u8 0#8)]⟩]).keep U4 (by omega) (by omega)
          have hC4 := U4.fl
          have hwl := wrX_len (erX x ((k / 256 : Nat) : Int)) 0 [0#8]
          have kr := fun K => kRead_ok hF4 (by omega) k 1 (by omega) K
          rw [hs1] at kr
          obtain ⟨e4, hin4⟩ := (hC4.push [some ⟨L8, bs [255#8 ^^^ by_]⟩]).to
          have ks := fun K => kSize hin4 K
          have hfl : flLen (some (wrX (erX x ((k / 256 : Nat) : Int)) 0 [0#8], e4)) = 1024 := by rw [flLen, hwl, hel, hxl]
          rw [hfl] at ks
          have hbb : bs [255#8 ^^^ by_] = [.raw (u8 (255#8 ^^^ by_))] := rfl
          have hn1 : ((1 : Nat) : Int) = 1 := rfl
          rw [hbb] at kr ks
          rw [hn1] at kr
          simp only [↓amD, amU, Nat.reduceBEq, Nat.reduceAdd, Nat.reduceSub, Nat.reduceMul, Nat.reduceMod, Nat.reducePow, Nat.reduceLT, Nat.reduceDiv, Int.reduceToNat, BitVec.reduceToNat, zipEnv, Int.reduceLE, Int.reduceLT, Int.reduceNeg, BitVec.reduceEq, Int.reduceAdd, Int.reduceSub, Int.reduceMul, Nat.reduceLeDiff, Int.reduceEq, lv_app0, lv_appk, set_app0, set_appk, List.append_assoc, List.append_nil, Nat.add_assoc, h.rd, kr, h.sz, ks]
        · simp only [↓amD, amU, Nat.reduceBEq, Nat.reduceAdd, Nat.reduceSub, Nat.reduceMul, Nat.reduceMod, Nat.reducePow, Nat.reduceLT, Nat.reduceDiv, Int.reduceToNat, BitVec.reduceToNat, zipEnv, Int.reduceLE, Int.reduceLT, Int.reduceNeg, BitVec.reduceEq, Int.reduceAdd, Int.reduceSub, Int.reduceMul, Nat.reduceLeDiff, Int.reduceEq, q1, q2, q3, c1, c2, e1, e2, h.bl, kb, h.n12, h.r12, decide_true, decide_false, beq_self_eq_true]
          refine copyA hF1 (by omega) fun R2 r2 m2 M2 => ?_
          have hF2 := hF1.made M2
          have hC2 := M2.fl
          have lt1 := hF1.lt
          have hm2 := M2.hm
          simp only [↓amD, amU, Nat.reduceBEq, Nat.reduceAdd, Nat.reduceSub, Nat.reduceMul, Nat.reduceMod, Nat.reducePow, Nat.reduceLT, Nat.reduceDiv, Int.reduceToNat, BitVec.reduceToNat, zipEnv, Int.reduceLE, Int.reduceLT, Int.reduceNeg, BitVec.reduceEq, Int.reduceAdd, Int.reduceSub, Int.reduceMul, Nat.reduceLeDiff, Int.reduceEq, h.n13, h.r13, e1, e2]
          refine eraseA hC2 (by omega) _ fun R3 U3 => ?_
          have hF3 := hF2.keep U3 (by omega) (by omega)
          have hC3 := U3.fl
          have hel := erX_len x ((k / 256 : Nat) : Int)
          simp only [↓amD, amU, Nat.reduceBEq, Nat.reduceAdd, Nat.reduceSub, Nat.reduceMul, Nat.reduceMod, Nat.reducePow, Nat.reduceLT, Nat.reduceDiv, Int.reduceToNat, BitVec.reduceToNat, zipEnv, Int.reduceLE, Int.reduceLT, Int.reduceNeg, BitVec.reduceEq, Int.reduceAdd, Int.reduceSub, Int.reduceMul, Nat.reduceLeDiff, Int.reduceEq, h.n14, h.r14]
          refine writeA (p := [0#8]) (hC3.push _) (by rw [lv_app0]; rfl) (by omega) (by decide) 0 fun R4 U4 => ?_
          have hF4 := (hF3.push [some ⟨L8, [.raw (u8 0#8)]⟩]).keep U4 (by omega) (by omega)
          have hC4 := U4.fl
          have hwl := wrX_len (erX x ((k / 256 : Nat) : Int)) 0 [0#8]
          have kr := fun K => kRead_ok hF4 (by omega) k 1 (by omega) K
          rw [hs1] at kr
          obtain ⟨e4, hin4⟩ := (hC4.push [some ⟨L8, bs [255#8 ^^^ by_]⟩]).to
          have ks := fun K => kSize hin4 K
          have hfl : flLen (some (wrX (erX x ((k / 256 : Nat) : Int)) 0 [0#8], e4)) = 1024 := by rw [flLen, hwl, hel, hxl]
          rw [hfl] at ks
          have hbb : bs [255#8 ^^^ by_] = [.raw (u8 (255#8 ^^^ by_))] := rfl
          have hn1 : ((1 : Nat) : Int) = 1 := rfl
          rw [hbb] at kr ks
          rw [hn1] at kr
          simp only [↓amD, amU, Nat.reduceBEq, Nat.reduceAdd, Nat.reduceSub, Nat.reduceMul, Nat.reduceMod, Nat.reducePow, Nat.reduceLT, Nat.reduceDiv, Int.reduceToNat, BitVec.reduceToNat, zipEnv, Int.reduceLE, Int.reduceLT, Int.reduceNeg, BitVec.reduceEq, Int.reduceAdd, Int.reduceSub, Int.reduceMul, Nat.reduceLeDiff, Int.reduceEq, lv_app0, lv_appk, set_app0, set_appk, List.append_assoc, List.append_nil, Nat.add_assoc, h.rd, kr, h.sz, ks]
    · by_cases c1 : by_ = 0#8
      · subst c1
        simp only [↓amD, amU, Nat.reduceBEq, Nat.reduceAdd, Nat.reduceSub, Nat.reduceMul, Nat.reduceMod, Nat.reducePow, Nat.reduceLT, Nat.reduceDiv, Int.reduceToNat, BitVec.reduceToNat, zipEnv, Int.reduceLE, Int.reduceLT, Int.reduceNeg, BitVec.reduceEq, Int.reduceAdd, Int.reduceSub, Int.reduceMul, Nat.reduceLeDiff, Int.reduceEq, q1, q2, q3, q4, q5, q6, e1, e2, h.bl, kb, h.n12, h.r12, decide_true, decide_false, beq_self_eq_true]
        refine copyA hF1 (by omega) fun R2 r2 m2 M2 => ?_
        have hF2 := hF1.made M2
        have hC2 := M2.fl
        have lt1 := hF1.lt
        have hm2 := M2.hm
        simp only [↓amD, amU, Nat.reduceBEq, Nat.reduceAdd, Nat.reduceSub, Nat.reduceMul, Nat.reduceMod, Nat.reducePow, Nat.reduceLT, Nat.reduceDiv, Int.reduceToNat, BitVec.reduceToNat, zipEnv, Int.reduceLE, Int.reduceLT, Int.reduceNeg, BitVec.reduceEq, Int.reduceAdd, Int.reduceSub, Int.reduceMul, Nat.reduceLeDiff, Int.reduceEq, h.n13, h.r13, e1, e2]
        refine eraseA hC2 (by omega) _ fun R3 U3 => ?_
        have hF3 := hF2.keep U3 (by omega) (by omega)
        have hC3 := U3.fl
        have hel := erX_len x ((k / 256 : Nat) : Int)
        simp only [↓amD, amU, Nat.reduceBEq, Nat.reduceAdd, Nat.reduceSub, Nat.reduceMul, Nat.reduceMod, Nat.reducePow, Nat.reduceLT, Nat.reduceDiv, Int.reduceToNat, BitVec.reduceToNat, zipEnv, Int.reduceLE, Int.reduceLT, Int.reduceNeg, BitVec.reduceEq, Int.reduceAdd, Int.reduceSub, Int.reduceMul, Nat.reduceLeDiff, Int.reduceEq, h.n14, h.r14]
        refine writeA (p := [0#8]) (hC3.push _) (by rw [lv_app0]; rfl) (by omega) (by decide) 0 fun R4 U4 => ?_
        have hF4 := (hF3.push [some ⟨L8, [.raw (u8 0#8)]⟩]).keep U4 (by omega) (by omega)
        have hC4 := U4.fl
        have hwl := wrX_len (erX x ((k / 256 : Nat) : Int)) 0 [0#8]
        have kr := fun K => kRead_ok hF4 (by omega) k 1 (by omega) K
        rw [hs1] at kr
        obtain ⟨e4, hin4⟩ := (hC4.push [some ⟨L8, bs [255#8 ^^^ 0#8]⟩]).to
        have ks := fun K => kSize hin4 K
        have hfl : flLen (some (wrX (erX x ((k / 256 : Nat) : Int)) 0 [0#8], e4)) = 1024 := by rw [flLen, hwl, hel, hxl]
        rw [hfl] at ks
        have hbb : bs [255#8 ^^^ 0#8] = [.raw (u8 (255#8 ^^^ 0#8))] := rfl
        have hn1 : ((1 : Nat) : Int) = 1 := rfl
        rw [hbb] at kr ks
        rw [hn1] at kr
        simp only [↓amD, amU, Nat.reduceBEq, Nat.reduceAdd, Nat.reduceSub, Nat.reduceMul, Nat.reduceMod, Nat.reducePow, Nat.reduceLT, Nat.reduceDiv, Int.reduceToNat, BitVec.reduceToNat, zipEnv, Int.reduceLE, Int.reduceLT, Int.reduceNeg, BitVec.reduceEq, Int.reduceAdd, Int.reduceSub, Int.reduceMul, Nat.reduceLeDiff, Int.reduceEq, lv_app0, lv_appk, set_app0, set_appk, List.append_assoc, List.append_nil, Nat.add_assoc, h.rd, kr, h.sz, ks]
      · by_cases c2 : f ≤ ((k / 256 : Nat) : Int)
        · simp only [↓amD, amU, Nat.reduceBEq, Nat.reduceAdd, Nat.reduceSub, Nat.reduceMul, Nat.reduceMod, Nat.reducePow, Nat.reduceLT, Nat.reduceDiv, Int.reduceToNat, BitVec.reduceToNat, zipEnv, Int.reduceLE, Int.reduceLT, Int.reduceNeg, BitVec.reduceEq, Int.reduceAdd, Int.reduceSub, Int.reduceMul, Nat.reduceLeDiff, Int.reduceEq, q1, q2, q3, q4, q5, q6, c1, c2, e1, e2, h.bl, kb, h.n12, h.r12, decide_true, decide_false, beq_self_eq_true]
          refine copyA hF1 (by omega) fun R2 r2 m2 M2 => ?_
          have hF2 := hF1.made M2
          have hC2 := M2.fl
          have lt1 := hF1.lt
          have hm2 := M2.hm
          simp only [↓amD, amU, Nat.reduceBEq, Nat.reduceAdd, Nat.reduceSub, Nat.reduceMul, Nat.reduceMod, Nat.reducePow, Nat.reduceLT, Nat.reduceDiv, Int.reduceToNat, BitVec.reduceToNat, zipEnv, Int.reduceLE, Int.reduceLT, Int.reduceNeg, BitVec.reduceEq, Int.reduceAdd, Int.reduceSub, Int.reduceMul, Nat.reduceLeDiff, Int.reduceEq, h.n13, h.r13, e1, e2]
          refine eraseA hC2 (by omega) _ fun R3 U3 => ?_
          have hF3 := hF2.keep U3 (by omega) (by omega)
          have hC3 := U3.fl
          have hel := erX_len x ((k / 256 : Nat) : Int)
          simp only [↓amD, amU, Nat.reduceBEq, Nat.reduceAdd, Nat.reduceSub, Nat.reduceMul, Nat.reduceMod, Nat.reducePow, Nat.reduceLT, Nat.reduceDiv, Int.reduceToNat, BitVec.reduceToNat, zipEnv, Int.reduceLE, Int.reduceLT, Int.reduceNeg, BitVec.reduceEq, Int.reduceAdd, Int.reduceSub, Int.reduceMul, Nat.reduceLeDiff, Int.reduceEq, h.n14, h.r14]
          refine writeA (p := [0#8]) (hC3.push _) (by rw [lv_app0]; rfl) (by omega) (by decide) 0 fun R4 U4 => ?_
          have hF4 := (hF3.push [some ⟨L8, [.raw (u8 0#8)]⟩]).keep U4 (by omega) (by omega)
          have hC4 := U4.fl
          have hwl := wrX_len (erX x ((k / 256 : Nat) : Int)) 0 [0#8]
          have kr := fun K => kRead_ok hF4 (by omega) k 1 (by omega) K
          rw [hs1] at kr
          obtain ⟨e4, hin4⟩ := (hC4.push [some ⟨L8, bs [255#8 ^^^ by_]⟩]).to
          have ks := fun K => kSize hin4 K
          have hfl : flLen (some (wrX (erX x ((k / 256 : Nat) : Int)) 0 [0#8], e4)) = 1024 := by rw [flLen, hwl, hel, hxl]
          rw [hfl] at ks
          have hbb : bs [255#8 ^^^ by_] = [.raw (u8 (255#8 ^^^ by_))] := rfl
          have hn1 : ((1 : Nat) : Int) = 1 := rfl
          rw [hbb] at kr ks
          rw [hn1] at kr
          simp only [↓amD, amU, Nat.reduceBEq, Nat.reduceAdd, Nat.reduceSub, Nat.reduceMul, Nat.reduceMod, Nat.reducePow, Nat.reduceLT, Nat.reduceDiv, Int.reduceToNat, BitVec.reduceToNat, zipEnv, Int.reduceLE, Int.reduceLT, Int.reduceNeg, BitVec.reduceEq, Int.reduceAdd, Int.reduceSub, Int.reduceMul, Nat.reduceLeDiff, Int.reduceEq, lv_app0, lv_appk, set_app0, set_appk, List.append_assoc, List.append_nil, Nat.add_assoc, h.rd, kr, h.sz, ks]
        · simp only [↓amD, amU, Nat.reduceBEq, Nat.reduceAdd, Nat.reduceSub, Nat.reduceMul, Nat.reduceMod, Nat.reducePow, Nat.reduceLT, Nat.reduceDiv, Int.reduceToNat, BitVec.reduceToNat, zipEnv, Int.reduceLE, Int.reduceLT, Int.reduceNeg, BitVec.reduceEq, Int.reduceAdd, Int.reduceSub, Int.reduceMul, Nat.reduceLeDiff, Int.reduceEq, q1, q2, q3, q4, q5, q6, c1, c2, e1, e2, h.bl, kb, h.n12, h.r12, decide_true, decide_false, beq_self_eq_true]
          refine copyA hF1 (by omega) fun R2 r2 m2 M2 => ?_
          have hF2 := hF1.made M2
          have hC2 := M2.fl
          have lt1 := hF1.lt
          have hm2 := M2.hm
          simp only [↓amD, amU, Nat.reduceBEq, Nat.reduceAdd, Nat.reduceSub, Nat.reduceMul, Nat.reduceMod, Nat.reducePow, Nat.reduceLT, Nat.reduceDiv, Int.reduceToNat, BitVec.reduceToNat, zipEnv, Int.reduceLE, Int.reduceLT, Int.reduceNeg, BitVec.reduceEq, Int.reduceAdd, Int.reduceSub, Int.reduceMul, Nat.reduceLeDiff, Int.reduceEq, h.n13, h.r13, e1, e2]
          refine eraseA hC2 (by omega) _ fun R3 U3 => ?_
          have hF3 := hF2.keep U3 (by omega) (by omega)
          have hC3 := U3.fl
          have hel := erX_len x ((k / 256 : Nat) : Int)
          simp only [↓amD, amU, Nat.reduceBEq, Nat.reduceAdd, Nat.reduceSub, Nat.reduceMul, Nat.reduceMod, Nat.reducePow, Nat.reduceLT, Nat.reduceDiv, Int.reduceToNat, BitVec.reduceToNat, zipEnv, Int.reduceLE, Int.reduceLT, Int.reduceNeg, BitVec.reduceEq, Int.reduceAdd, Int.reduceSub, Int.reduceMul, Nat.reduceLeDiff, Int.reduceEq, h.n14, h.r14]
          refine writeA (p := [0#8]) (hC3.push _) (by rw [lv_app0]; rfl) (by omega) (by decide) 0 fun R4 U4 => ?_
          have hF4 := (hF3.push [some ⟨L8, [.raw (u8 0#8)]⟩]).keep U4 (by omega) (by omega)
          have hC4 := U4.fl
          have hwl := wrX_len (erX x ((k / 256 : Nat) : Int)) 0 [0#8]
          have kr := fun K => kRead_ok hF4 (by omega) k 1 (by omega) K
          rw [hs1] at kr
          obtain ⟨e4, hin4⟩ := (hC4.push [some ⟨L8, bs [255#8 ^^^ by_]⟩]).to
          have ks := fun K => kSize hin4 K
          have hfl : flLen (some (wrX (erX x ((k / 256 : Nat) : Int)) 0 [0#8], e4)) = 1024 := by rw [flLen, hwl, hel, hxl]
          rw [hfl] at ks
          have hbb : bs [255#8 ^^^ by_] = [.raw (u8 (255#8 ^^^ by_))] := rfl
          have hn1 : ((1 : Nat) : Int) = 1 := rfl
          rw [hbb] at kr ks
          rw [hn1] at kr
          simp only [↓amD, amU, Nat.reduceBEq, Nat.reduceAdd, Nat.reduceSub, Nat.reduceMul, Nat.reduceMod, Nat.reducePow, Nat.reduceLT, Nat.reduceDiv, Int.reduceToNat, BitVec.reduceToNat, zipEnv, Int.reduceLE, Int.reduceLT, Int.reduceNeg, BitVec.reduceEq, Int.reduceAdd, Int.reduceSub, Int.reduceMul, Nat.reduceLeDiff, Int.reduceEq, lv_app0, lv_appk, set_app0, set_appk, List.append_assoc, List.append_nil, Nat.add_assoc, h.rd, kr, h.sz, ks]
end Job
end Go.Am
