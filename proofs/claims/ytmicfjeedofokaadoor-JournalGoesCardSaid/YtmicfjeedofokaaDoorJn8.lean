/- the journal: the laws of the forms and the reads -/
import Derived.Test.YtmicfjeedofokaaDoorJn7
namespace Go.Am
set_option linter.unusedSimpArgs false
set_option linter.unusedVariables false
attribute [local congr] bnd_congr kCond_congr kGd_congr kPick_congr kCall_congr kIdx_congr kSlice_congr kLoop_congr cond_congr' aBin_congr aBounds_congr aApp_congr aCopy_congr kFn_congr
namespace Job
open Go.Am.F
set_option maxRecDepth 10000
/-- the parts of a code -/
def fstA : ACode → ACode
  | .seq a _ => a
  | c => c
def sndA : ACode → ACode
  | .seq _ b => b
  | c => c
theorem fstA_seq (a b : ACode) : fstA (.seq a b) = a := Eq.trans rfl rfl
theorem sndA_seq (a b : ACode) : sndA (.seq a b) = b := Eq.trans rfl rfl
set_option maxHeartbeats 4000000 in
theorem forms_ok (C0 C1 C : Ctx) (H : JR C0 C1 C) (hw : C.fn 8 = some fAwakeJ) (s : JS) (d1 : D) (raw : List (BitVec 8)) (hraw : IsBs d1 raw) (hlen : raw.length ≤ 9223372036854775807) (at_ turn : BitVec 8) :
    afun C 4 r_law22_JournalForms a_law22_JournalForms [jD s, d1, .raw (u8 at_), .raw (u8 turn)] [] (fun d rows => d = .raw (.bool true)) := by
  refine afun_mk rfl ?_
  have kc := fun rows k => kCut rows k d1 raw 40 hraw hlen (by rw [List.length_take]; omega)
  have hrl : (raw.take 40).length ≤ 40 := by rw [List.length_take]; omega
  have e40 : (40 : Int).toNat = 40 := rfl
  simp only [e40] at kc
  generalize raw.take 40 = w at kc hrl
  unfold a_law22_JournalForms r_law22_JournalForms
  have hf := jD_fits
  have kR := fun rows k => kRightJ rows k s
  cases hk : rightJ s
  · have kb := fun rows k => kBytesN rows k s hk
    rw [hk] at kR
    simp only [↓amD, amU, Nat.reduceBEq, Nat.reduceAdd, Nat.reduceSub, Nat.reduceMul, Nat.reduceMod, Nat.reducePow, Nat.reduceLT, Nat.reduceDiv, Int.reduceToNat, BitVec.reduceToNat, zipEnv, Int.reduceLE, Int.reduceLT, Int.reduceNeg, BitVec.reduceEq, Int.reduceAdd, Int.reduceSub, Int.reduceMul, Nat.reduceLeDiff, Int.reduceEq, hw, kAwakeJ, H.f.cut, H.f.bytes, H.f.right, H.f.rright, hf, kc, kb, kR, jD_mk, bqtt, bqtf, bqft, bqff, Bool.not_true, Bool.not_false, H.f.join]
    refine Eq.mpr (kJoin _ _ _ 1 _ _ [[]] rfl rfl (.cons (IsBs.to (.inl ⟨rfl, rfl⟩)) .nil) (by simp) (by simp)) ?_
    simp only [↓amD, amU, Nat.reduceBEq, Nat.reduceAdd, Nat.reduceSub, Nat.reduceMul, Nat.reduceMod, Nat.reducePow, Nat.reduceLT, Nat.reduceDiv, Int.reduceToNat, BitVec.reduceToNat, zipEnv, Int.reduceLE, Int.reduceLT, Int.reduceNeg, BitVec.reduceEq, Int.reduceAdd, Int.reduceSub, Int.reduceMul, Nat.reduceLeDiff, Int.reduceEq, H.f.join, List.flatten_cons, List.flatten_nil, List.append_nil, List.length_nil]
    refine Eq.mpr (kJoin _ _ _ 2 _ _ [[], w] rfl rfl (.cons (IsBs.to (.inl ⟨rfl, rfl⟩)) (.cons (BsIn.own rfl w.length rfl) .nil)) (by simp) (by simp; omega)) ?_
    simp only [↓amD, amU, Nat.reduceBEq, Nat.reduceAdd, Nat.reduceSub, Nat.reduceMul, Nat.reduceMod, Nat.reducePow, Nat.reduceLT, Nat.reduceDiv, Int.reduceToNat, BitVec.reduceToNat, zipEnv, Int.reduceLE, Int.reduceLT, Int.reduceNeg, BitVec.reduceEq, Int.reduceAdd, Int.reduceSub, Int.reduceMul, Nat.reduceLeDiff, Int.reduceEq, List.flatten_cons, List.flatten_nil, List.append_nil, List.nil_append]
    refine kLoop_for 4 (fun i => [(68, .sl .ref 6 [] 0 4 true), (69, .raw (it 4)), (70, .raw (it i))])
      (fun _ rows => live rows 1 = some ⟨L8, bs (w)⟩ ∧ live rows 3 = some ⟨L8, bs ([])⟩ ∧ live rows 5 = some ⟨L8, bs (w)⟩ ∧ live rows 6 = some ⟨.ref, [D.sl L8 1 [] 0 w.length false, D.sl L8 3 [] 0 0 false, D.raw (.slice none 0 0), D.sl L8 5 [] 0 w.length false]⟩) ?_ ?_ ?_ ?_
    · intro i hi env rows hh ⟨r0, r1, r3, rr⟩ R hR
      obtain ⟨d, q, hb, hq, hfit, hd⟩ : ∃ d q, (∀ l, BsIn (rows ++ l) d q) ∧ q.length ≤ 128 ∧ D.fits d .ref = true ∧ [D.sl L8 1 [] 0 w.length false, D.sl L8 3 [] 0 0 false, D.raw (.slice none 0 0), D.sl L8 5 [] 0 w.length false][i]? = some d := by
        match i, hi with
        | 0, _ => exact ⟨_, w, fun l => BsIn.own (live_app r0 l) _ rfl, by first | omega | (rw [List.length_append]; omega) | simp, rfl, rfl⟩
        | 1, _ => exact ⟨_, [], fun l => BsIn.own (live_app r1 l) _ rfl, by first | omega | (rw [List.length_append]; omega) | simp, rfl, rfl⟩
        | 2, _ => exact ⟨_, [], fun l => IsBs.to (.inl ⟨rfl, rfl⟩), by simp, rfl, rfl⟩
        | 3, _ => exact ⟨_, w, fun l => BsIn.own (live_app r3 l) _ rfl, by first | omega | (rw [List.length_append]; omega) | simp, rfl, rfl⟩
      have kp : ∀ k, kCall fParseJ rows k [d] = k (.tup [jD (parseJ q).1, .raw (.bool (parseJ q).2)]) rows := fun k => by
        have := hb []
        rw [List.append_nil] at this
        exact kParseJ rows k d q this (by omega)
      have kp2 : ∀ l k, kCall fParseJ (rows ++ l) k [d] = k (.tup [jD (parseJ q).1, .raw (.bool (parseJ q).2)]) (rows ++ l) := fun l k => kParseJ _ k d q (hb l) (by omega)
      simp only [has] at hh
      have h1 : ((0 : Int) ≤ (i : Int)) = True := eq_true (by omega)
      have h2 : ((i : Int) < 4) = True := eq_true (by omega)
      have hw2 := wz_succ i (by omega)
      have fin : ∀ env' l, has env' [(68, .sl .ref 6 [] 0 4 true), (69, .raw (it 4)), (70, .raw (it ((i + 1 : Nat) : Int)))] → R env' (rows ++ l) := fun env' l h => hR env' _ h ⟨live_app r0 l, live_app r1 l, live_app r3 l, live_app rr l⟩
      have hbb : ∀ b : Bool, (b == b) = true := fun b => by cases b <;> rfl
      simp only [↓amD, amU, Nat.reduceBEq, Nat.reduceAdd, Nat.reduceSub, Nat.reduceMul, Nat.reduceMod, Nat.reducePow, Nat.reduceLT, Nat.reduceDiv, Int.reduceToNat, BitVec.reduceToNat, zipEnv, Int.reduceLE, Int.reduceLT, Int.reduceNeg, BitVec.reduceEq, Int.reduceAdd, Int.reduceSub, Int.reduceMul, Nat.reduceLeDiff, Int.reduceEq, lv_app0, lv_appk, set_app0, set_appk, List.append_assoc, List.append_nil, Nat.add_assoc, hh, h1, h2, rr, hd, hfit, H.f.parse, H.f.rparse, kp, kp2, jD_mk, hf, eqA_j, hw2, hbb, Bool.not_true]
      refine fin _ _ ?_
      simp only [has, ↓amD, amU, Nat.reduceBEq, Nat.reduceAdd, Nat.reduceSub, Nat.reduceMul, Nat.reduceMod, Nat.reducePow, Nat.reduceLT, Nat.reduceDiv, Int.reduceToNat, BitVec.reduceToNat, zipEnv, Int.reduceLE, Int.reduceLT, Int.reduceNeg, BitVec.reduceEq, Int.reduceAdd, Int.reduceSub, Int.reduceMul, Nat.reduceLeDiff, Int.reduceEq, hh]
    · intro env rows hh _ R
      simp only [has] at hh
      simp only [↓amD, amU, Nat.reduceBEq, Nat.reduceAdd, Nat.reduceSub, Nat.reduceMul, Nat.reduceMod, Nat.reducePow, Nat.reduceLT, Nat.reduceDiv, Int.reduceToNat, BitVec.reduceToNat, zipEnv, Int.reduceLE, Int.reduceLT, Int.reduceNeg, BitVec.reduceEq, Int.reduceAdd, Int.reduceSub, Int.reduceMul, Nat.reduceLeDiff, Int.reduceEq, hh]
    · simp only [has, ↓amD, amU, Nat.reduceBEq, Nat.reduceAdd, Nat.reduceSub, Nat.reduceMul, Nat.reduceMod, Nat.reducePow, Nat.reduceLT, Nat.reduceDiv, Int.reduceToNat, BitVec.reduceToNat, zipEnv, Int.reduceLE, Int.reduceLT, Int.reduceNeg, BitVec.reduceEq, Int.reduceAdd, Int.reduceSub, Int.reduceMul, Nat.reduceLeDiff, Int.reduceEq]
    · simp only [↓amD, amU, Nat.reduceBEq, Nat.reduceAdd, Nat.reduceSub, Nat.reduceMul, Nat.reduceMod, Nat.reducePow, Nat.reduceLT, Nat.reduceDiv, Int.reduceToNat, BitVec.reduceToNat, zipEnv, Int.reduceLE, Int.reduceLT, Int.reduceNeg, BitVec.reduceEq, Int.reduceAdd, Int.reduceSub, Int.reduceMul, Nat.reduceLeDiff, Int.reduceEq]
  · have kb := fun rows k => kBytesJ rows k s hk
    have kr := fun rows k => kRBytesJ rows k s hk
    rw [hk] at kR
    have b32 := bytes_len s
    have hE := eqA_j s
    generalize bytesJ s = B at kb kr b32
    simp only [↓amD, amU, Nat.reduceBEq, Nat.reduceAdd, Nat.reduceSub, Nat.reduceMul, Nat.reduceMod, Nat.reducePow, Nat.reduceLT, Nat.reduceDiv, Int.reduceToNat, BitVec.reduceToNat, zipEnv, Int.reduceLE, Int.reduceLT, Int.reduceNeg, BitVec.reduceEq, Int.reduceAdd, Int.reduceSub, Int.reduceMul, Nat.reduceLeDiff, Int.reduceEq, hw, kAwakeJ, H.f.cut, H.f.bytes, H.f.right, H.f.rright, H.f.rbytes, hf, kc, kb, kr, kR, jD_mk, bqtt, bqtf, bqft, bqff, Bool.not_true, Bool.not_false, H.f.same]
    refine Eq.mpr (kSame _ _ _ _ B B (BsIn.own rfl 32 b32.symm) (BsIn.own rfl 32 b32.symm) (by omega) (by omega)) ?_
    simp only [decide_true]
    simp only [↓amD, amU, Nat.reduceBEq, Nat.reduceAdd, Nat.reduceSub, Nat.reduceMul, Nat.reduceMod, Nat.reducePow, Nat.reduceLT, Nat.reduceDiv, Int.reduceToNat, BitVec.reduceToNat, zipEnv, Int.reduceLE, Int.reduceLT, Int.reduceNeg, BitVec.reduceEq, Int.reduceAdd, Int.reduceSub, Int.reduceMul, Nat.reduceLeDiff, Int.reduceEq, bqtt, bqtf, bqft, bqff, Bool.not_true, Bool.not_false, H.f.join]
    refine Eq.mpr (kJoin _ _ _ 1 _ _ [B] rfl rfl (.cons (BsIn.own rfl 32 b32.symm) .nil) (by simp) (by simp; omega)) ?_
    have hq : (at_ % 32#8).toNat < 32 := by
      rw [BitVec.toNat_umod]; exact Nat.mod_lt _ (by decide)
    have hq1 : (0 : Int) ≤ ((at_ % 32#8).toNat : Int) := by omega
    have hq2 : (((at_ % 32#8).toNat : Int) < 32) := by omega
    have bget := bs_get (l := B) (i := (at_ % 32#8).toNat) (by omega)
    simp only [↓amD, amU, Nat.reduceBEq, Nat.reduceAdd, Nat.reduceSub, Nat.reduceMul, Nat.reduceMod, Nat.reducePow, Nat.reduceLT, Nat.reduceDiv, Int.reduceToNat, BitVec.reduceToNat, zipEnv, Int.reduceLE, Int.reduceLT, Int.reduceNeg, BitVec.reduceEq, Int.reduceAdd, Int.reduceSub, Int.reduceMul, Nat.reduceLeDiff, Int.reduceEq, List.flatten_cons, List.flatten_nil, List.append_nil, b32, hq1, hq2, bget, bs_set, H.f.join]
    generalize hbb : B.set (at_ % 32#8).toNat (B.getD (at_ % 32#8).toNat 0#8 ^^^ turn) = bb
    have hbl : bb.length = 32 := by rw [← hbb, List.length_set]; exact b32
    refine Eq.mpr (kJoin _ _ _ 2 _ _ [B, w] rfl rfl (.cons (BsIn.own rfl 32 b32.symm) (.cons (BsIn.own rfl w.length rfl) .nil)) (by simp) (by simp; omega)) ?_
    simp only [↓amD, amU, Nat.reduceBEq, Nat.reduceAdd, Nat.reduceSub, Nat.reduceMul, Nat.reduceMod, Nat.reducePow, Nat.reduceLT, Nat.reduceDiv, Int.reduceToNat, BitVec.reduceToNat, zipEnv, Int.reduceLE, Int.reduceLT, Int.reduceNeg, BitVec.reduceEq, Int.reduceAdd, Int.reduceSub, Int.reduceMul, Nat.reduceLeDiff, Int.reduceEq, List.length_append, b32, List.flatten_cons, List.flatten_nil, List.append_nil, List.nil_append]
    refine kLoop_for 4 (fun i => [(68, .sl .ref 8 [] 0 4 true), (69, .raw (it 4)), (70, .raw (it i))])
      (fun _ rows => live rows 1 = some ⟨L8, bs (w)⟩ ∧ live rows 5 = some ⟨L8, bs (bb)⟩ ∧ live rows 2 = some ⟨L8, bs (B)⟩ ∧ live rows 7 = some ⟨L8, bs (B ++ w)⟩ ∧ live rows 8 = some ⟨.ref, [D.sl L8 1 [] 0 w.length false, D.sl L8 5 [] 0 32 false, D.sl L8 2 [] 0 32 false, D.sl L8 7 [] 0 (32 + w.length) false]⟩) ?_ ?_ ?_ ?_
    · intro i hi env rows hh ⟨r0, r1, r2, r3, rr⟩ R hR
      obtain ⟨d, q, hb, hq, hfit, hd⟩ : ∃ d q, (∀ l, BsIn (rows ++ l) d q) ∧ q.length ≤ 128 ∧ D.fits d .ref = true ∧ [D.sl L8 1 [] 0 w.length false, D.sl L8 5 [] 0 32 false, D.sl L8 2 [] 0 32 false, D.sl L8 7 [] 0 (32 + w.length) false][i]? = some d := by
        match i, hi with
        | 0, _ => exact ⟨_, w, fun l => BsIn.own (live_app r0 l) _ rfl, by first | omega | (rw [List.length_append]; omega) | simp, rfl, rfl⟩
        | 1, _ => exact ⟨_, bb, fun l => BsIn.own (live_app r1 l) _ hbl.symm, by first | omega | (rw [List.length_append]; omega) | simp, rfl, rfl⟩
        | 2, _ => exact ⟨_, B, fun l => BsIn.own (live_app r2 l) _ b32.symm, by first | omega | (rw [List.length_append]; omega) | simp, rfl, rfl⟩
        | 3, _ => exact ⟨_, B ++ w, fun l => BsIn.own (live_app r3 l) _ (by rw [List.length_append, b32]), by first | omega | (rw [List.length_append]; omega) | simp, rfl, rfl⟩
      have kp : ∀ k, kCall fParseJ rows k [d] = k (.tup [jD (parseJ q).1, .raw (.bool (parseJ q).2)]) rows := fun k => by
        have := hb []
        rw [List.append_nil] at this
        exact kParseJ rows k d q this (by omega)
      have kp2 : ∀ l k, kCall fParseJ (rows ++ l) k [d] = k (.tup [jD (parseJ q).1, .raw (.bool (parseJ q).2)]) (rows ++ l) := fun l k => kParseJ _ k d q (hb l) (by omega)
      simp only [has] at hh
      have h1 : ((0 : Int) ≤ (i : Int)) = True := eq_true (by omega)
      have h2 : ((i : Int) < 4) = True := eq_true (by omega)
      have hw2 := wz_succ i (by omega)
      have fin : ∀ env' l, has env' [(68, .sl .ref 8 [] 0 4 true), (69, .raw (it 4)), (70, .raw (it ((i + 1 : Nat) : Int)))] → R env' (rows ++ l) := fun env' l h => hR env' _ h ⟨live_app r0 l, live_app r1 l, live_app r2 l, live_app r3 l, live_app rr l⟩
      have hbb : ∀ b : Bool, (b == b) = true := fun b => by cases b <;> rfl
      simp only [↓amD, amU, Nat.reduceBEq, Nat.reduceAdd, Nat.reduceSub, Nat.reduceMul, Nat.reduceMod, Nat.reducePow, Nat.reduceLT, Nat.reduceDiv, Int.reduceToNat, BitVec.reduceToNat, zipEnv, Int.reduceLE, Int.reduceLT, Int.reduceNeg, BitVec.reduceEq, Int.reduceAdd, Int.reduceSub, Int.reduceMul, Nat.reduceLeDiff, Int.reduceEq, lv_app0, lv_appk, set_app0, set_appk, List.append_assoc, List.append_nil, Nat.add_assoc, hh, h1, h2, rr, hd, hfit, H.f.parse, H.f.rparse, kp, kp2, jD_mk, hf, eqA_j, hw2, hbb, Bool.not_true]
      refine fin _ _ ?_
      simp only [has, ↓amD, amU, Nat.reduceBEq, Nat.reduceAdd, Nat.reduceSub, Nat.reduceMul, Nat.reduceMod, Nat.reducePow, Nat.reduceLT, Nat.reduceDiv, Int.reduceToNat, BitVec.reduceToNat, zipEnv, Int.reduceLE, Int.reduceLT, Int.reduceNeg, BitVec.reduceEq, Int.reduceAdd, Int.reduceSub, Int.reduceMul, Nat.reduceLeDiff, Int.reduceEq, hh]
    · intro env rows hh _ R
      simp only [has] at hh
      simp only [↓amD, amU, Nat.reduceBEq, Nat.reduceAdd, Nat.reduceSub, Nat.reduceMul, Nat.reduceMod, Nat.reducePow, Nat.reduceLT, Nat.reduceDiv, Int.reduceToNat, BitVec.reduceToNat, zipEnv, Int.reduceLE, Int.reduceLT, Int.reduceNeg, BitVec.reduceEq, Int.reduceAdd, Int.reduceSub, Int.reduceMul, Nat.reduceLeDiff, Int.reduceEq, hh]
    · simp only [has, ↓amD, amU, Nat.reduceBEq, Nat.reduceAdd, Nat.reduceSub, Nat.reduceMul, Nat.reduceMod, Nat.reducePow, Nat.reduceLT, Nat.reduceDiv, Int.reduceToNat, BitVec.reduceToNat, zipEnv, Int.reduceLE, Int.reduceLT, Int.reduceNeg, BitVec.reduceEq, Int.reduceAdd, Int.reduceSub, Int.reduceMul, Nat.reduceLeDiff, Int.reduceEq]
    · simp only [↓amD, amU, Nat.reduceBEq, Nat.reduceAdd, Nat.reduceSub, Nat.reduceMul, Nat.reduceMod, Nat.reducePow, Nat.reduceLT, Nat.reduceDiv, Int.reduceToNat, BitVec.reduceToNat, zipEnv, Int.reduceLE, Int.reduceLT, Int.reduceNeg, BitVec.reduceEq, Int.reduceAdd, Int.reduceSub, Int.reduceMul, Nat.reduceLeDiff, Int.reduceEq]
set_option maxHeartbeats 4000000 in
theorem reads_ok (C0 C1 C : Ctx) (H : JR C0 C1 C) (hw : C.fn 8 = some fAwakeJ) (dp dq : D) (p0 q0 : List (BitVec 8)) (hp : IsBs dp p0) (hq : IsBs dq q0) (lp : p0.length ≤ 9223372036854775807) (lq : q0.length ≤ 9223372036854775807) (a b : JS) (have_ : BitVec 8) :
    afun C 5 r_law22_JournalReads a_law22_JournalReads [dp, dq, jD a, jD b, .raw (u8 have_)] [] (fun d rows => d = .raw (.bool true)) := by
  refine afun_mk rfl ?_
  have hf := jD_fits
  -- behind both pages' bytes
  have key : ∀ env rows, (∃ d e p q, has env [(0, d), (1, e)] ∧ Sl rows d p ∧ Sl rows e q ∧ p.length ≤ 9223372036854775807 ∧ q.length ≤ 9223372036854775807) →
      aw C (sndA (sndA (sndA (sndA a_law22_JournalReads)))) (kFin r_law22_JournalReads fun d rows => d = .raw (.bool true)) env rows := by
    rintro env rows ⟨d, e, p, q, hh, s1, s2, l1, l2⟩
    simp only [has] at hh
    unfold a_law22_JournalReads r_law22_JournalReads
    simp only [sndA_seq]
    simp only [↓amD, amU, Nat.reduceBEq, Nat.reduceAdd, Nat.reduceSub, Nat.reduceMul, Nat.reduceMod, Nat.reducePow, Nat.reduceLT, Nat.reduceDiv, Int.reduceToNat, BitVec.reduceToNat, zipEnv, Int.reduceLE, Int.reduceLT, Int.reduceNeg, BitVec.reduceEq, Int.reduceAdd, Int.reduceSub, Int.reduceMul, Nat.reduceLeDiff, Int.reduceEq, lv_app0, lv_appk, set_app0, set_appk, List.append_assoc, List.append_nil, Nat.add_assoc, hh, H.nl, H.rl]
    refine lay_run C0 H.l0 s1 s2 l1 l2 fun rows' r m x hx hM => ?_
    have kr := fun L k => kReadF (hM.fl.push L) (by omega) (by omega) k
    have kb := fun L k => kBytesF (hM.fl.push L) (by omega) k
    have kx := fun rs k r h => kRefJ rs k (.sl L8 r [] 0 x.length false) x (BsIn.own h _ rfl) (by omega)
    have kn := fun rs k => kReadJ (flNil rs) (by simp [flLen]) k
    have hrn : readJ none = (firstJ, -1) := rfl
    rw [hrn] at kn
    have e0 := fun k => kr [] k
    rw [List.append_nil] at e0
    simp only [↓amD, amU, Nat.reduceBEq, Nat.reduceAdd, Nat.reduceSub, Nat.reduceMul, Nat.reduceMod, Nat.reducePow, Nat.reduceLT, Nat.reduceDiv, Int.reduceToNat, BitVec.reduceToNat, zipEnv, Int.reduceLE, Int.reduceLT, Int.reduceNeg, BitVec.reduceEq, Int.reduceAdd, Int.reduceSub, Int.reduceMul, Nat.reduceLeDiff, Int.reduceEq, lv_app0, lv_appk, set_app0, set_appk, List.append_assoc, List.append_nil, Nat.add_assoc, H.f.read, e0, kr, jD_mk, hf, H.f.bytesf, kb, H.f.rread]
    refine Eq.mpr (kx _ _ _ (by rw [lv_appk]; rfl)) ?_
    simp only [↓amD, amU, Nat.reduceBEq, Nat.reduceAdd, Nat.reduceSub, Nat.reduceMul, Nat.reduceMod, Nat.reducePow, Nat.reduceLT, Nat.reduceDiv, Int.reduceToNat, BitVec.reduceToNat, zipEnv, Int.reduceLE, Int.reduceLT, Int.reduceNeg, BitVec.reduceEq, Int.reduceAdd, Int.reduceSub, Int.reduceMul, Nat.reduceLeDiff, Int.reduceEq, lv_app0, lv_appk, set_app0, set_appk, List.append_assoc, List.append_nil, Nat.add_assoc, H.f.read, kn, jD_mk, hf, eqA_j, H.f.first, kFirst]
  obtain ⟨c, hc⟩ : ∃ c, c = sndA (sndA (sndA (sndA a_law22_JournalReads))) := ⟨_, rfl⟩
  rw [← hc] at key
  have ha : a_law22_JournalReads = .seq (fstA a_law22_JournalReads) (.seq (fstA (sndA a_law22_JournalReads)) (.seq (fstA (sndA (sndA a_law22_JournalReads))) (.seq (fstA (sndA (sndA (sndA a_law22_JournalReads)))) c))) := by rw [hc]; rfl
  rw [ha]
  clear ha hc
  unfold a_law22_JournalReads
  simp only [fstA_seq, sndA_seq]
  have kcp := fun rows k => kCut rows k dp p0 20 hp lp (by rw [List.length_take]; omega)
  have kcq := fun rows k => kCut rows k dq q0 20 hq lq (by rw [List.length_take]; omega)
  have hpl : (p0.take (20 : Int).toNat).length ≤ 20 := by rw [show (20 : Int).toNat = 20 from rfl, List.length_take]; omega
  have hql : (q0.take (20 : Int).toNat).length ≤ 20 := by rw [show (20 : Int).toNat = 20 from rfl, List.length_take]; omega
  generalize p0.take (20 : Int).toNat = p1 at kcp hpl
  generalize q0.take (20 : Int).toNat = q1 at kcq hql
  have ja := bytes_len a
  have jb := bytes_len b
  by_cases c1 : have_ % 2#8 = 1#8
  · have c1' : (have_ % 2#8 = 1#8) = True := eq_true c1
    cases ha : rightJ a
    · have kb := fun rows k => kBytesN rows k a ha
      simp only [↓amD, amU, Nat.reduceBEq, Nat.reduceAdd, Nat.reduceSub, Nat.reduceMul, Nat.reduceMod, Nat.reducePow, Nat.reduceLT, Nat.reduceDiv, Int.reduceToNat, BitVec.reduceToNat, zipEnv, Int.reduceLE, Int.reduceLT, Int.reduceNeg, BitVec.reduceEq, Int.reduceAdd, Int.reduceSub, Int.reduceMul, Nat.reduceLeDiff, Int.reduceEq, hw, kAwakeJ, c1', hf, H.f.bytes, kb, H.f.cut, kcp, H.f.join]
      refine Eq.mpr (kJoin _ _ _ 2 _ _ [[], p1] rfl rfl (.cons (IsBs.to (.inl ⟨rfl, rfl⟩)) (.cons (BsIn.own rfl _ rfl) .nil)) (by simp) (by simp; omega)) ?_
      by_cases c2 : have_ / 2#8 % 2#8 = 1#8
      · have c2' : (have_ / 2#8 % 2#8 = 1#8) = True := eq_true c2
        cases hb : rightJ b
        · have kb := fun rows k => kBytesN rows k b hb
          simp only [↓amD, amU, Nat.reduceBEq, Nat.reduceAdd, Nat.reduceSub, Nat.reduceMul, Nat.reduceMod, Nat.reducePow, Nat.reduceLT, Nat.reduceDiv, Int.reduceToNat, BitVec.reduceToNat, zipEnv, Int.reduceLE, Int.reduceLT, Int.reduceNeg, BitVec.reduceEq, Int.reduceAdd, Int.reduceSub, Int.reduceMul, Nat.reduceLeDiff, Int.reduceEq, c2', hf, H.f.bytes, kb, H.f.cut, kcq, H.f.join]
          refine Eq.mpr (kJoin _ _ _ 2 _ _ [[], q1] rfl rfl (.cons (IsBs.to (.inl ⟨rfl, rfl⟩)) (.cons (BsIn.own rfl _ rfl) .nil)) (by simp) (by simp; omega)) ?_
          simp only [↓amD, amU, Nat.reduceBEq, Nat.reduceAdd, Nat.reduceSub, Nat.reduceMul, Nat.reduceMod, Nat.reducePow, Nat.reduceLT, Nat.reduceDiv, Int.reduceToNat, BitVec.reduceToNat, zipEnv, Int.reduceLE, Int.reduceLT, Int.reduceNeg, BitVec.reduceEq, Int.reduceAdd, Int.reduceSub, Int.reduceMul, Nat.reduceLeDiff, Int.reduceEq]
          exact key _ _ ⟨_, _, [[], p1].flatten, [[], q1].flatten, ⟨rfl, rfl, trivial⟩, .inr ⟨_, _, rfl, rfl⟩, .inr ⟨_, _, rfl, rfl⟩, by simp; omega, by simp; omega⟩
        · have kb := fun rows k => kBytesJ rows k b hb
          simp only [↓amD, amU, Nat.reduceBEq, Nat.reduceAdd, Nat.reduceSub, Nat.reduceMul, Nat.reduceMod, Nat.reducePow, Nat.reduceLT, Nat.reduceDiv, Int.reduceToNat, BitVec.reduceToNat, zipEnv, Int.reduceLE, Int.reduceLT, Int.reduceNeg, BitVec.reduceEq, Int.reduceAdd, Int.reduceSub, Int.reduceMul, Nat.reduceLeDiff, Int.reduceEq, c2', hf, H.f.bytes, kb, H.f.cut, kcq, H.f.join]
          refine Eq.mpr (kJoin _ _ _ 2 _ _ [bytesJ b, q1] rfl rfl (.cons (BsIn.own rfl _ jb.symm) (.cons (BsIn.own rfl _ rfl) .nil)) (by simp) (by simp; omega)) ?_
          simp only [↓amD, amU, Nat.reduceBEq, Nat.reduceAdd, Nat.reduceSub, Nat.reduceMul, Nat.reduceMod, Nat.reducePow, Nat.reduceLT, Nat.reduceDiv, Int.reduceToNat, BitVec.reduceToNat, zipEnv, Int.reduceLE, Int.reduceLT, Int.reduceNeg, BitVec.reduceEq, Int.reduceAdd, Int.reduceSub, Int.reduceMul, Nat.reduceLeDiff, Int.reduceEq]
          exact key _ _ ⟨_, _, [[], p1].flatten, [bytesJ b, q1].flatten, ⟨rfl, rfl, trivial⟩, .inr ⟨_, _, rfl, rfl⟩, .inr ⟨_, _, rfl, rfl⟩, by simp; omega, by simp; omega⟩
      · have c2' : (have_ / 2#8 % 2#8 = 1#8) = False := eq_false c2
        simp only [↓amD, amU, Nat.reduceBEq, Nat.reduceAdd, Nat.reduceSub, Nat.reduceMul, Nat.reduceMod, Nat.reducePow, Nat.reduceLT, Nat.reduceDiv, Int.reduceToNat, BitVec.reduceToNat, zipEnv, Int.reduceLE, Int.reduceLT, Int.reduceNeg, BitVec.reduceEq, Int.reduceAdd, Int.reduceSub, Int.reduceMul, Nat.reduceLeDiff, Int.reduceEq, c2', hf]
        exact key _ _ ⟨_, _, [[], p1].flatten, q0, ⟨rfl, rfl, trivial⟩, .inr ⟨_, _, rfl, rfl⟩, .inl hq, by simp; omega, lq⟩
    · have kb := fun rows k => kBytesJ rows k a ha
      simp only [↓amD, amU, Nat.reduceBEq, Nat.reduceAdd, Nat.reduceSub, Nat.reduceMul, Nat.reduceMod, Nat.reducePow, Nat.reduceLT, Nat.reduceDiv, Int.reduceToNat, BitVec.reduceToNat, zipEnv, Int.reduceLE, Int.reduceLT, Int.reduceNeg, BitVec.reduceEq, Int.reduceAdd, Int.reduceSub, Int.reduceMul, Nat.reduceLeDiff, Int.reduceEq, hw, kAwakeJ, c1', hf, H.f.bytes, kb, H.f.cut, kcp, H.f.join]
      refine Eq.mpr (kJoin _ _ _ 2 _ _ [bytesJ a, p1] rfl rfl (.cons (BsIn.own rfl _ ja.symm) (.cons (BsIn.own rfl _ rfl) .nil)) (by simp) (by simp; omega)) ?_
      by_cases c2 : have_ / 2#8 % 2#8 = 1#8
      · have c2' : (have_ / 2#8 % 2#8 = 1#8) = True := eq_true c2
        cases hb : rightJ b
        · have kb := fun rows k => kBytesN rows k b hb
          simp only [↓amD, amU, Nat.reduceBEq, Nat.reduceAdd, Nat.reduceSub, Nat.reduceMul, Nat.reduceMod, Nat.reducePow, Nat.reduceLT, Nat.reduceDiv, Int.reduceToNat, BitVec.reduceToNat, zipEnv, Int.reduceLE, Int.reduceLT, Int.reduceNeg, BitVec.reduceEq, Int.reduceAdd, Int.reduceSub, Int.reduceMul, Nat.reduceLeDiff, Int.reduceEq, c2', hf, H.f.bytes, kb, H.f.cut, kcq, H.f.join]
          refine Eq.mpr (kJoin _ _ _ 2 _ _ [[], q1] rfl rfl (.cons (IsBs.to (.inl ⟨rfl, rfl⟩)) (.cons (BsIn.own rfl _ rfl) .nil)) (by simp) (by simp; omega)) ?_
          simp only [↓amD, amU, Nat.reduceBEq, Nat.reduceAdd, Nat.reduceSub, Nat.reduceMul, Nat.reduceMod, Nat.reducePow, Nat.reduceLT, Nat.reduceDiv, Int.reduceToNat, BitVec.reduceToNat, zipEnv, Int.reduceLE, Int.reduceLT, Int.reduceNeg, BitVec.reduceEq, Int.reduceAdd, Int.reduceSub, Int.reduceMul, Nat.reduceLeDiff, Int.reduceEq]
          exact key _ _ ⟨_, _, [bytesJ a, p1].flatten, [[], q1].flatten, ⟨rfl, rfl, trivial⟩, .inr ⟨_, _, rfl, rfl⟩, .inr ⟨_, _, rfl, rfl⟩, by simp; omega, by simp; omega⟩
        · have kb := fun rows k => kBytesJ rows k b hb
          simp only [↓amD, amU, Nat.reduceBEq, Nat.reduceAdd, Nat.reduceSub, Nat.reduceMul, Nat.reduceMod, Nat.reducePow, Nat.reduceLT, Nat.reduceDiv, Int.reduceToNat, BitVec.reduceToNat, zipEnv, Int.reduceLE, Int.reduceLT, Int.reduceNeg, BitVec.reduceEq, Int.reduceAdd, Int.reduceSub, Int.reduceMul, Nat.reduceLeDiff, Int.reduceEq, c2', hf, H.f.bytes, kb, H.f.cut, kcq, H.f.join]
          refine Eq.mpr (kJoin _ _ _ 2 _ _ [bytesJ b, q1] rfl rfl (.cons (BsIn.own rfl _ jb.symm) (.cons (BsIn.own rfl _ rfl) .nil)) (by simp) (by simp; omega)) ?_
          simp only [↓amD, amU, Nat.reduceBEq, Nat.reduceAdd, Nat.reduceSub, Nat.reduceMul, Nat.reduceMod, Nat.reducePow, Nat.reduceLT, Nat.reduceDiv, Int.reduceToNat, BitVec.reduceToNat, zipEnv, Int.reduceLE, Int.reduceLT, Int.reduceNeg, BitVec.reduceEq, Int.reduceAdd, Int.reduceSub, Int.reduceMul, Nat.reduceLeDiff, Int.reduceEq]
          exact key _ _ ⟨_, _, [bytesJ a, p1].flatten, [bytesJ b, q1].flatten, ⟨rfl, rfl, trivial⟩, .inr ⟨_, _, rfl, rfl⟩, .inr ⟨_, _, rfl, rfl⟩, by simp; omega, by simp; omega⟩
      · have c2' : (have_ / 2#8 % 2#8 = 1#8) = False := eq_false c2
        simp only [↓amD, amU, Nat.reduceBEq, Nat.reduceAdd, Nat.reduceSub, Nat.reduceMul, Nat.reduceMod, Nat.reducePow, Nat.reduceLT, Nat.reduceDiv, Int.reduceToNat, BitVec.reduceToNat, zipEnv, Int.reduceLE, Int.reduceLT, Int.reduceNeg, BitVec.reduceEq, Int.reduceAdd, Int.reduceSub, Int.reduceMul, Nat.reduceLeDiff, Int.reduceEq, c2', hf]
        exact key _ _ ⟨_, _, [bytesJ a, p1].flatten, q0, ⟨rfl, rfl, trivial⟩, .inr ⟨_, _, rfl, rfl⟩, .inl hq, by simp; omega, lq⟩
  · have c1' : (have_ % 2#8 = 1#8) = False := eq_false c1
    simp only [↓amD, amU, Nat.reduceBEq, Nat.reduceAdd, Nat.reduceSub, Nat.reduceMul, Nat.reduceMod, Nat.reducePow, Nat.reduceLT, Nat.reduceDiv, Int.reduceToNat, BitVec.reduceToNat, zipEnv, Int.reduceLE, Int.reduceLT, Int.reduceNeg, BitVec.reduceEq, Int.reduceAdd, Int.reduceSub, Int.reduceMul, Nat.reduceLeDiff, Int.reduceEq, hw, kAwakeJ, c1', hf]
    by_cases c2 : have_ / 2#8 % 2#8 = 1#8
    · have c2' : (have_ / 2#8 % 2#8 = 1#8) = True := eq_true c2
      cases hb : rightJ b
      · have kb := fun rows k => kBytesN rows k b hb
        simp only [↓amD, amU, Nat.reduceBEq, Nat.reduceAdd, Nat.reduceSub, Nat.reduceMul, Nat.reduceMod, Nat.reducePow, Nat.reduceLT, Nat.reduceDiv, Int.reduceToNat, BitVec.reduceToNat, zipEnv, Int.reduceLE, Int.reduceLT, Int.reduceNeg, BitVec.reduceEq, Int.reduceAdd, Int.reduceSub, Int.reduceMul, Nat.reduceLeDiff, Int.reduceEq, c2', hf, H.f.bytes, kb, H.f.cut, kcq, H.f.join]
        refine Eq.mpr (kJoin _ _ _ 2 _ _ [[], q1] rfl rfl (.cons (IsBs.to (.inl ⟨rfl, rfl⟩)) (.cons (BsIn.own rfl _ rfl) .nil)) (by simp) (by simp; omega)) ?_
        simp only [↓amD, amU, Nat.reduceBEq, Nat.reduceAdd, Nat.reduceSub, Nat.reduceMul, Nat.reduceMod, Nat.reducePow, Nat.reduceLT, Nat.reduceDiv, Int.reduceToNat, BitVec.reduceToNat, zipEnv, Int.reduceLE, Int.reduceLT, Int.reduceNeg, BitVec.reduceEq, Int.reduceAdd, Int.reduceSub, Int.reduceMul, Nat.reduceLeDiff, Int.reduceEq]
        exact key _ _ ⟨_, _, p0, [[], q1].flatten, ⟨rfl, rfl, trivial⟩, .inl hp, .inr ⟨_, _, rfl, rfl⟩, lp, by simp; omega⟩
      · have kb := fun rows k => kBytesJ rows k b hb
        simp only [↓amD, amU, Nat.reduceBEq, Nat.reduceAdd, Nat.reduceSub, Nat.reduceMul, Nat.reduceMod, Nat.reducePow, Nat.reduceLT, Nat.reduceDiv, Int.reduceToNat, BitVec.reduceToNat, zipEnv, Int.reduceLE, Int.reduceLT, Int.reduceNeg, BitVec.reduceEq, Int.reduceAdd, Int.reduceSub, Int.reduceMul, Nat.reduceLeDiff, Int.reduceEq, c2', hf, H.f.bytes, kb, H.f.cut, kcq, H.f.join]
        refine Eq.mpr (kJoin _ _ _ 2 _ _ [bytesJ b, q1] rfl rfl (.cons (BsIn.own rfl _ jb.symm) (.cons (BsIn.own rfl _ rfl) .nil)) (by simp) (by simp; omega)) ?_
        simp only [↓amD, amU, Nat.reduceBEq, Nat.reduceAdd, Nat.reduceSub, Nat.reduceMul, Nat.reduceMod, Nat.reducePow, Nat.reduceLT, Nat.reduceDiv, Int.reduceToNat, BitVec.reduceToNat, zipEnv, Int.reduceLE, Int.reduceLT, Int.reduceNeg, BitVec.reduceEq, Int.reduceAdd, Int.reduceSub, Int.reduceMul, Nat.reduceLeDiff, Int.reduceEq]
        exact key _ _ ⟨_, _, p0, [bytesJ b, q1].flatten, ⟨rfl, rfl, trivial⟩, .inl hp, .inr ⟨_, _, rfl, rfl⟩, lp, by simp; omega⟩
    · have c2' : (have_ / 2#8 % 2#8 = 1#8) = False := eq_false c2
      simp only [↓amD, amU, Nat.reduceBEq, Nat.reduceAdd, Nat.reduceSub, Nat.reduceMul, Nat.reduceMod, Nat.reducePow, Nat.reduceLT, Nat.reduceDiv, Int.reduceToNat, BitVec.reduceToNat, zipEnv, Int.reduceLE, Int.reduceLT, Int.reduceNeg, BitVec.reduceEq, Int.reduceAdd, Int.reduceSub, Int.reduceMul, Nat.reduceLeDiff, Int.reduceEq, c2', hf]
      exact key _ _ ⟨_, _, p0, q0, ⟨rfl, rfl, trivial⟩, .inl hp, .inl hq, lp, lq⟩
end Job
end Go.Am
