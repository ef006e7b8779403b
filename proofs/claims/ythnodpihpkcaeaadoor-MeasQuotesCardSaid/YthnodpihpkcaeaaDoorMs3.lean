/- slots, as far as quotes need them -/
import Derived.Test.YthnodpihpkcaeaaDoorMs2
namespace Go.Am
set_option linter.unusedSimpArgs false
set_option linter.unusedVariables false
attribute [local congr] bnd_congr kCond_congr kGd_congr kPick_congr kCall_congr kIdx_congr kSlice_congr kLoop_congr cond_congr' aBin_congr aBounds_congr aApp_congr aCopy_congr kFn_congr
namespace Job
open Go.Am.F
open Ms
set_option maxRecDepth 10000
abbrev SPl : Sh := .cons LI (.cons (.ar 32 L8) .nil)
abbrev SSl : Sh := .cons (.ar 8 SPl) (.cons LB (.cons LB .nil))
def plD (p : Int × List (BitVec 8)) : D := .agg SPl [.raw (it p.1), .agg (.ar 32 L8) (bs p.2)]
def slotD (l : List (Int × List (BitVec 8))) : D := .agg SSl [.agg (.ar 8 SPl) (l.map plD), .raw (.bool false), .raw (.bool false)]
theorem slot_row {l : List (Int × List (BitVec 8))} {h : Nat} (hh : h < l.length) : rowGet [slotD l] [0, 0, h] = some (plD (l[h])) := by
  simp [rowGet, D.get, slotD, hh]
theorem slot_kind {l : List (Int × List (BitVec 8))} {h : Nat} (hh : h < l.length) : rowGet [slotD l] [0, 0, h, 0] = some (.raw (it (l[h]).1)) := by
  simp [rowGet, D.get, slotD, hh, plD]
theorem slot_key {l : List (Int × List (BitVec 8))} {h : Nat} (hh : h < l.length) : rowGet [slotD l] [0, 0, h, 1] = some (.agg (.ar 32 L8) (bs (l[h]).2)) := by
  simp [rowGet, D.get, slotD, hh, plD]
theorem slot_lock (l : List (Int × List (BitVec 8))) : rowGet [slotD l] [0, 1] = some (.raw (.bool false)) := rfl
theorem slot_dead (l : List (Int × List (BitVec 8))) : rowGet [slotD l] [0, 2] = some (.raw (.bool false)) := rfl
theorem slot_set {l : List (Int × List (BitVec 8))} {h : Nat} (hh : h < l.length) (p : Int × List (BitVec 8)) : rowSet [slotD l] [0, 0, h] (plD p) = some [slotD (l.set h p)] := by
  simp [rowSet, D.set, slotD, hh, List.map_set]
theorem may_run (C C1 : Ctx) {rows : Rows} {r q h : Nat} {ex : Bool} {l : List (Int × List (BitVec 8))} (hr : live rows r = some ⟨SSl, [slotD l]⟩) (hq : live rows q = some ⟨LI, [.raw (it (h : Int))]⟩) (hl : l.length = 8) (hh : h < 8)
    (nw : C.fn 32 = none) (rw_ : C.fnr 32 = some (afun C1 2 r_slot_within_slot_place a_slot_within_slot_place)) {K : D → Rows → Prop} (hk : K (.raw (it 0)) rows) :
    afun C 2 r_slot_Slots_may a_slot_Slots_may [.ptr SSl r [0], .sl LI q [] 0 1 ex] rows K := by
  refine afun_mk rfl ?_
  unfold a_slot_Slots_may r_slot_Slots_may
  have hd := slot_dead l
  have e0 : ((0 : Int) ≤ (h : Int)) = True := eq_true (by omega)
  have e1 : ((h : Int) < 8) = True := eq_true (by omega)
  simp only [↓amD, amU, Nat.reduceBEq, Nat.reduceAdd, Nat.reduceSub, Nat.reduceMul, Nat.reduceMod, Nat.reducePow, Nat.reduceLT, Nat.reduceDiv, Int.reduceToNat, BitVec.reduceToNat, zipEnv, Int.reduceLE, Int.reduceLT, Int.reduceNeg, BitVec.reduceEq, Int.reduceAdd, Int.reduceSub, Int.reduceMul, Nat.reduceLeDiff, Int.reduceEq, lv_app0, lv_appk, set_app0, set_appk, List.append_assoc, List.append_nil, Nat.add_assoc, hr, hd]
  refine kLoop_up 1 (fun i env rs => has env [(17, .raw (it (i : Int))), (16, .raw (it 1)), (15, .sl LI q [] 0 1 ex), (0, .ptr SSl r [0])] ∧ rs = rows) ?_ ?_ ⟨?_, rfl⟩
  · rintro i hi env rs ⟨hv, rfl⟩ R hR
    simp only [has] at hv
    have hi0 : i = 0 := by omega
    subst hi0
    simp only [↓amD, amU, Nat.reduceBEq, Nat.reduceAdd, Nat.reduceSub, Nat.reduceMul, Nat.reduceMod, Nat.reducePow, Nat.reduceLT, Nat.reduceDiv, Int.reduceToNat, BitVec.reduceToNat, zipEnv, Int.reduceLE, Int.reduceLT, Int.reduceNeg, BitVec.reduceEq, Int.reduceAdd, Int.reduceSub, Int.reduceMul, Nat.reduceLeDiff, Int.reduceEq, lv_app0, lv_appk, set_app0, set_appk, List.append_assoc, List.append_nil, Nat.add_assoc, hv, hr, hq, q_afun, nw, rw_, a_slot_within_slot_place, r_slot_within_slot_place, e0, e1, Int.natCast_zero]
    exact hR _ _ ⟨by simp only [has, ↓amD, amU, Nat.reduceBEq, Nat.reduceAdd, Nat.reduceSub, Nat.reduceMul, Nat.reduceMod, Nat.reducePow, Nat.reduceLT, Nat.reduceDiv, Int.reduceToNat, BitVec.reduceToNat, zipEnv, Int.reduceLE, Int.reduceLT, Int.reduceNeg, BitVec.reduceEq, Int.reduceAdd, Int.reduceSub, Int.reduceMul, Nat.reduceLeDiff, Int.reduceEq, hv], rfl⟩
  · rintro env rs ⟨hv, rfl⟩ R
    simp only [has] at hv
    simp only [↓amD, amU, Nat.reduceBEq, Nat.reduceAdd, Nat.reduceSub, Nat.reduceMul, Nat.reduceMod, Nat.reducePow, Nat.reduceLT, Nat.reduceDiv, Int.reduceToNat, BitVec.reduceToNat, zipEnv, Int.reduceLE, Int.reduceLT, Int.reduceNeg, BitVec.reduceEq, Int.reduceAdd, Int.reduceSub, Int.reduceMul, Nat.reduceLeDiff, Int.reduceEq, lv_app0, lv_appk, set_app0, set_appk, List.append_assoc, List.append_nil, Nat.add_assoc, hv]
    exact hk
  · simp only [has, ↓amD, amU, Nat.reduceBEq, Nat.reduceAdd, Nat.reduceSub, Nat.reduceMul, Nat.reduceMod, Nat.reducePow, Nat.reduceLT, Nat.reduceDiv, Int.reduceToNat, BitVec.reduceToNat, zipEnv, Int.reduceLE, Int.reduceLT, Int.reduceNeg, BitVec.reduceEq, Int.reduceAdd, Int.reduceSub, Int.reduceMul, Nat.reduceLeDiff, Int.reduceEq]
theorem mayn_run (C : Ctx) {rows : Rows} {d : D} {K : D → Rows → Prop} (hk : K (.raw (it 3)) rows) :
    afun C 2 r_slot_Slots_may a_slot_Slots_may [.raw (.pointer none), d] rows K := by
  refine afun_mk rfl ?_
  unfold a_slot_Slots_may r_slot_Slots_may
  simp only [↓amD, amU, Nat.reduceBEq, Nat.reduceAdd, Nat.reduceSub, Nat.reduceMul, Nat.reduceMod, Nat.reducePow, Nat.reduceLT, Nat.reduceDiv, Int.reduceToNat, BitVec.reduceToNat, zipEnv, Int.reduceLE, Int.reduceLT, Int.reduceNeg, BitVec.reduceEq, Int.reduceAdd, Int.reduceSub, Int.reduceMul, Nat.reduceLeDiff, Int.reduceEq, lv_app0, lv_appk, set_app0, set_appk, List.append_assoc, List.append_nil, Nat.add_assoc]
  exact hk
/-- what stood in rows still does -/
def Kept (rows rows' : Rows) : Prop := ∀ q row, live rows q = some row → live rows' q = some row
theorem Kept.refl (rows : Rows) : Kept rows rows := fun _ _ h => h
theorem Kept.app (rows L : Rows) : Kept rows (rows ++ L) := fun _ _ h => live_app h L
theorem Kept.trans {a b c : Rows} (h : Kept a b) (h' : Kept b c) : Kept a c := fun q row hq => h' q row (h q row hq)
theorem Kept.setNew {a b : Rows} {x : Option Row} (h : Kept a b) : Kept a (b.set a.length x) := fun q row hq => by
  have hlt := live_lt hq
  rw [live_set_ne (by omega)]; exact h q row hq
theorem Kept.set {a b : Rows} {q : Nat} {x : Option Row} (h : Kept a b) (hq : live a q = none) : Kept a (b.set q x) := fun q' row hq' => by
  have : q ≠ q' := fun e => by rw [e, hq'] at hq; cases hq
  rw [live_set_ne this]; exact h q' row hq'
structure SlC (C1 C : Ctx) : Prop where
  nm : C.fn 22 = none
  rm : C.fnr 22 = some (afun C1 2 r_slot_Slots_may a_slot_Slots_may)
  nw : C1.fn 32 = none
  rw_ : ∃ C0, C1.fnr 32 = some (afun C0 2 r_slot_within_slot_place a_slot_within_slot_place)
theorem key_run (C C1 : Ctx) (hC : SlC C1 C) {rows : Rows} {r h : Nat} {l : List (Int × List (BitVec 8))} (hr : live rows r = some ⟨SSl, [slotD l]⟩) (hl : l.length = 8) (hh : h < 8) {K : D → Rows → Prop}
    (hk : ∀ rows', Kept rows rows' → K (.tup [bif decide ((l.getD h (0, [])).1 = 0) then .raw (.slice none 0 0) else .sl L8 r [0, 0, h, 1] 0 32 true, .raw (it (bif decide ((l.getD h (0, [])).1 = 0) then 3 else 0))]) rows') :
    afun C 2 r_slot_Slots_key a_slot_Slots_key [.ptr SSl r [0], .raw (it (h : Int))] rows K := by
  obtain ⟨nm, rm, nw, C0, rw_⟩ := hC
  refine afun_mk rfl ?_
  unfold a_slot_Slots_key r_slot_Slots_key
  have e0 : ((0 : Int) ≤ (h : Int)) = True := eq_true (by omega)
  have e1 : ((h : Int) < 8) = True := eq_true (by omega)
  have hr' := fun L => live_app hr L
  have hkd := slot_kind (l := l) (h := h) (by omega)
  have hg : l.getD h (0, []) = l[h]'(by omega) := by simp [List.getD, (by omega : h < l.length)]
  rw [hg] at hk
  simp only [↓amD, amU, Nat.reduceBEq, Nat.reduceAdd, Nat.reduceSub, Nat.reduceMul, Nat.reduceMod, Nat.reducePow, Nat.reduceLT, Nat.reduceDiv, Int.reduceToNat, BitVec.reduceToNat, zipEnv, Int.reduceLE, Int.reduceLT, Int.reduceNeg, BitVec.reduceEq, Int.reduceAdd, Int.reduceSub, Int.reduceMul, Nat.reduceLeDiff, Int.reduceEq, lv_app0, lv_appk, set_app0, set_appk, List.append_assoc, List.append_nil, Nat.add_assoc, nm, rm]
  refine may_run (q := rows.length) C1 C0 (hr' _) (by rw [lv_app0]; rfl) hl hh nw rw_ ?_
  simp only [↓amD, amU, Nat.reduceBEq, Nat.reduceAdd, Nat.reduceSub, Nat.reduceMul, Nat.reduceMod, Nat.reducePow, Nat.reduceLT, Nat.reduceDiv, Int.reduceToNat, BitVec.reduceToNat, zipEnv, Int.reduceLE, Int.reduceLT, Int.reduceNeg, BitVec.reduceEq, Int.reduceAdd, Int.reduceSub, Int.reduceMul, Nat.reduceLeDiff, Int.reduceEq, lv_app0, lv_appk, set_app0, set_appk, List.append_assoc, List.append_nil, Nat.add_assoc, hr', hkd, e0, e1]
  by_cases hz : (l[h]'(by omega)).1 = 0
  · have hz' : ((l[h]'(by omega)).1 = 0) = True := eq_true hz
    have := hk _ (Kept.app rows [some ⟨LI, [.raw (it (h : Int))]⟩])
    rw [decide_eq_true hz] at this
    simp only [↓amD, amU, Nat.reduceBEq, Nat.reduceAdd, Nat.reduceSub, Nat.reduceMul, Nat.reduceMod, Nat.reducePow, Nat.reduceLT, Nat.reduceDiv, Int.reduceToNat, BitVec.reduceToNat, zipEnv, Int.reduceLE, Int.reduceLT, Int.reduceNeg, BitVec.reduceEq, Int.reduceAdd, Int.reduceSub, Int.reduceMul, Nat.reduceLeDiff, Int.reduceEq, lv_app0, lv_appk, set_app0, set_appk, List.append_assoc, List.append_nil, Nat.add_assoc, hz', decide_true]
    exact this
  · have hz' : ((l[h]'(by omega)).1 = 0) = False := eq_false hz
    have := hk _ (Kept.app rows [some ⟨LI, [.raw (it (h : Int))]⟩])
    rw [decide_eq_false hz] at this
    simp only [↓amD, amU, Nat.reduceBEq, Nat.reduceAdd, Nat.reduceSub, Nat.reduceMul, Nat.reduceMod, Nat.reducePow, Nat.reduceLT, Nat.reduceDiv, Int.reduceToNat, BitVec.reduceToNat, zipEnv, Int.reduceLE, Int.reduceLT, Int.reduceNeg, BitVec.reduceEq, Int.reduceAdd, Int.reduceSub, Int.reduceMul, Nat.reduceLeDiff, Int.reduceEq, lv_app0, lv_appk, set_app0, set_appk, List.append_assoc, List.append_nil, Nat.add_assoc, hz', decide_false, e0, e1]
    exact this
theorem keyn_run (C C1 : Ctx) (hC : SlC C1 C) {rows : Rows} {h : Int} {K : D → Rows → Prop} (hk : ∀ rows', Kept rows rows' → K (.tup [.raw (.slice none 0 0), .raw (it 3)]) rows') :
    afun C 2 r_slot_Slots_key a_slot_Slots_key [.raw (.pointer none), .raw (it h)] rows K := by
  obtain ⟨nm, rm, nw, C0, rw_⟩ := hC
  refine afun_mk rfl ?_
  unfold a_slot_Slots_key r_slot_Slots_key
  simp only [↓amD, amU, Nat.reduceBEq, Nat.reduceAdd, Nat.reduceSub, Nat.reduceMul, Nat.reduceMod, Nat.reducePow, Nat.reduceLT, Nat.reduceDiv, Int.reduceToNat, BitVec.reduceToNat, zipEnv, Int.reduceLE, Int.reduceLT, Int.reduceNeg, BitVec.reduceEq, Int.reduceAdd, Int.reduceSub, Int.reduceMul, Nat.reduceLeDiff, Int.reduceEq, lv_app0, lv_appk, set_app0, set_appk, List.append_assoc, List.append_nil, Nat.add_assoc, nm, rm]
  refine mayn_run C1 ?_
  simp only [↓amD, amU, Nat.reduceBEq, Nat.reduceAdd, Nat.reduceSub, Nat.reduceMul, Nat.reduceMod, Nat.reducePow, Nat.reduceLT, Nat.reduceDiv, Int.reduceToNat, BitVec.reduceToNat, zipEnv, Int.reduceLE, Int.reduceLT, Int.reduceNeg, BitVec.reduceEq, Int.reduceAdd, Int.reduceSub, Int.reduceMul, Nat.reduceLeDiff, Int.reduceEq, lv_app0, lv_appk, set_app0, set_appk, List.append_assoc, List.append_nil, Nat.add_assoc]
  exact hk _ (Kept.app rows _)
structure MaC (C2 C1 C : Ctx) : Prop where
  nk : C.fn 33 = none
  rk : C.fnr 33 = some (afun C1 2 r_slot_Slots_key a_slot_Slots_key)
  sl : SlC C2 C1
  ms : C.fn 27 = some fMacSum
theorem mac_run (C C1 C2 : Ctx) (hC : MaC C2 C1 C) {rows : Rows} {r h q n : Nat} {ex : Bool} {l : List (Int × List (BitVec 8))} {ps : List D} {ls : List (List (BitVec 8))} (hr : live rows r = some ⟨SSl, [slotD l]⟩) (hl : l.length = 8) (hh : h < 8) (hkl : (l.getD h (0, [])).2.length = 32)
    (hq : live rows q = some ⟨.ref, ps⟩) (hn : ps.length = n) (hv : ∀ rows', Kept rows rows' → All2 (fun x y => BsIn rows' x y) ps ls) (hp : ls.length ≤ 1099511627776) (hp2 : ls.flatten.length ≤ 1099511627776) {K : D → Rows → Prop}
    (hk : ∀ rows', Kept rows rows' → K (.tup [.agg (.ar 32 L8) (bs (bif decide ((l.getD h (0, [])).1 = 0) then z32 else hmac (l.getD h (0, [])).2 ls.flatten)), .raw (it (bif decide ((l.getD h (0, [])).1 = 0) then 3 else 0))]) rows') :
    afun C 3 r_slot_Slots_Mac a_slot_Slots_Mac [.ptr SSl r [0], .raw (it (h : Int)), .sl .ref q [] 0 n ex] rows K := by
  obtain ⟨nk, rk, sl, ms⟩ := hC
  refine afun_mk rfl ?_
  unfold a_slot_Slots_Mac r_slot_Slots_Mac
  simp only [z32_eq]
  have hr' := fun L => live_app hr L
  have hg : l.getD h (0, []) = l[h]'(by omega) := by simp [List.getD, (by omega : h < l.length)]
  simp only [↓amD, amU, Nat.reduceBEq, Nat.reduceAdd, Nat.reduceSub, Nat.reduceMul, Nat.reduceMod, Nat.reducePow, Nat.reduceLT, Nat.reduceDiv, Int.reduceToNat, BitVec.reduceToNat, zipEnv, Int.reduceLE, Int.reduceLT, Int.reduceNeg, BitVec.reduceEq, Int.reduceAdd, Int.reduceSub, Int.reduceMul, Nat.reduceLeDiff, Int.reduceEq, lv_app0, lv_appk, set_app0, set_appk, List.append_assoc, List.append_nil, Nat.add_assoc, nk, rk]
  refine key_run C1 C2 sl (hr' _) hl hh fun rows' hK => ?_
  have hm := hK _ _ (live_len (rows := rows) (x := ⟨.ar 32 L8, [.agg (.ar 32 L8) (bs z32)]⟩))
  have hK' : Kept rows rows' := (Kept.app rows _).trans hK
  by_cases hz : (l.getD h (0, [])).1 = 0
  · simp only [decide_eq_true hz, cond_true] at hk ⊢
    have w1 := live_set_same (row' := ⟨.ar 32 L8, [.agg (.ar 32 L8) (bs z32)]⟩) hm
    simp only [↓amD, amU, Nat.reduceBEq, Nat.reduceAdd, Nat.reduceSub, Nat.reduceMul, Nat.reduceMod, Nat.reducePow, Nat.reduceLT, Nat.reduceDiv, Int.reduceToNat, BitVec.reduceToNat, zipEnv, Int.reduceLE, Int.reduceLT, Int.reduceNeg, BitVec.reduceEq, Int.reduceAdd, Int.reduceSub, Int.reduceMul, Nat.reduceLeDiff, Int.reduceEq, lv_app0, lv_appk, set_app0, set_appk, List.append_assoc, List.append_nil, Nat.add_assoc, hm, w1]
    exact hk _ hK'.setNew
  · simp only [decide_eq_false hz, cond_false] at hk ⊢
    simp only [↓amD, amU, Nat.reduceBEq, Nat.reduceAdd, Nat.reduceSub, Nat.reduceMul, Nat.reduceMod, Nat.reducePow, Nat.reduceLT, Nat.reduceDiv, Int.reduceToNat, BitVec.reduceToNat, zipEnv, Int.reduceLE, Int.reduceLT, Int.reduceNeg, BitVec.reduceEq, Int.reduceAdd, Int.reduceSub, Int.reduceMul, Nat.reduceLeDiff, Int.reduceEq, lv_app0, lv_appk, set_app0, set_appk, List.append_assoc, List.append_nil, Nat.add_assoc, ms]
    have hb : BsIn rows' (.sl L8 r [0, 0, h, 1] 0 32 true) (l.getD h (0, [])).2 := BsIn.atAll (n := 32) (hK' _ _ hr) (by rw [hg]; exact slot_key (by omega)) hkl
    refine Eq.mpr (kMacSum _ _ _ _ _ _ _ _ ls hb (by rw [hkl]; decide) (hK' _ _ hq) hn (hv _ hK') hp hp2) ?_
    have w1 := live_set_same (row' := ⟨.ar 32 L8, [.agg (.ar 32 L8) (bs (hmac (l.getD h (0, [])).2 ls.flatten))]⟩) hm
    simp only [↓amD, amU, Nat.reduceBEq, Nat.reduceAdd, Nat.reduceSub, Nat.reduceMul, Nat.reduceMod, Nat.reducePow, Nat.reduceLT, Nat.reduceDiv, Int.reduceToNat, BitVec.reduceToNat, zipEnv, Int.reduceLE, Int.reduceLT, Int.reduceNeg, BitVec.reduceEq, Int.reduceAdd, Int.reduceSub, Int.reduceMul, Nat.reduceLeDiff, Int.reduceEq, lv_app0, lv_appk, set_app0, set_appk, List.append_assoc, List.append_nil, Nat.add_assoc, hm, w1]
    exact hk _ hK'.setNew
theorem macn_run (C C1 C2 : Ctx) (hC : MaC C2 C1 C) {rows : Rows} {h : Int} {d : D} {K : D → Rows → Prop}
    (hk : ∀ rows', Kept rows rows' → K (.tup [.agg (.ar 32 L8) (bs z32), .raw (it 3)]) rows') :
    afun C 3 r_slot_Slots_Mac a_slot_Slots_Mac [.raw (.pointer none), .raw (it h), d] rows K := by
  obtain ⟨nk, rk, sl, ms⟩ := hC
  refine afun_mk rfl ?_
  unfold a_slot_Slots_Mac r_slot_Slots_Mac
  simp only [z32_eq]
  simp only [↓amD, amU, Nat.reduceBEq, Nat.reduceAdd, Nat.reduceSub, Nat.reduceMul, Nat.reduceMod, Nat.reducePow, Nat.reduceLT, Nat.reduceDiv, Int.reduceToNat, BitVec.reduceToNat, zipEnv, Int.reduceLE, Int.reduceLT, Int.reduceNeg, BitVec.reduceEq, Int.reduceAdd, Int.reduceSub, Int.reduceMul, Nat.reduceLeDiff, Int.reduceEq, lv_app0, lv_appk, set_app0, set_appk, List.append_assoc, List.append_nil, Nat.add_assoc, nk, rk]
  refine keyn_run C1 C2 sl fun rows' hK => ?_
  have hm := hK _ _ (live_len (rows := rows) (x := ⟨.ar 32 L8, [.agg (.ar 32 L8) (bs z32)]⟩))
  have hK' : Kept rows rows' := (Kept.app rows _).trans hK
  have w1 := live_set_same (row' := ⟨.ar 32 L8, [.agg (.ar 32 L8) (bs z32)]⟩) hm
  simp only [↓amD, amU, Nat.reduceBEq, Nat.reduceAdd, Nat.reduceSub, Nat.reduceMul, Nat.reduceMod, Nat.reducePow, Nat.reduceLT, Nat.reduceDiv, Int.reduceToNat, BitVec.reduceToNat, zipEnv, Int.reduceLE, Int.reduceLT, Int.reduceNeg, BitVec.reduceEq, Int.reduceAdd, Int.reduceSub, Int.reduceMul, Nat.reduceLeDiff, Int.reduceEq, lv_app0, lv_appk, set_app0, set_appk, List.append_assoc, List.append_nil, Nat.add_assoc, hm, w1]
  exact hk _ hK'.setNew
theorem lay_run (C C1 : Ctx) (hC : SlC C1 C) {rows : Rows} {r h : Nat} {key : List (BitVec 8)} {l : List (Int × List (BitVec 8))} (hr : live rows r = some ⟨SSl, [slotD l]⟩) (hl : l.length = 8) (hh : h < 8) (hz : (l.getD h (0, [])).1 = 0) {K : D → Rows → Prop}
    (hk : ∀ rows', (∀ q row, live rows q = some row → q ≠ r → live rows' q = some row) → live rows' r = some ⟨SSl, [slotD (l.set h (2, key))]⟩ → K (.raw (it 0)) rows') :
    afun C 4 r_slot_Slots_Lay a_slot_Slots_Lay [.ptr SSl r [0], .raw (it (h : Int)), .raw (it 2), .agg (.ar 32 L8) (bs key)] rows K := by
  obtain ⟨nm, rm, nw, C0, rw_⟩ := hC
  refine afun_mk rfl ?_
  unfold a_slot_Slots_Lay r_slot_Slots_Lay
  have e0 : ((0 : Int) ≤ (h : Int)) = True := eq_true (by omega)
  have e1 : ((h : Int) < 8) = True := eq_true (by omega)
  have hr' := fun L => live_app hr L
  have hkd := slot_kind (l := l) (h := h) (by omega)
  have hg : l.getD h (0, []) = l[h]'(by omega) := by simp [List.getD, (by omega : h < l.length)]
  rw [hg] at hz
  rw [hz] at hkd
  have hlk := slot_lock l
  have hst := slot_set (l := l) (h := h) (by omega) (2, key)
  have hlt := live_lt hr
  simp only [↓amD, amU, Nat.reduceBEq, Nat.reduceAdd, Nat.reduceSub, Nat.reduceMul, Nat.reduceMod, Nat.reducePow, Nat.reduceLT, Nat.reduceDiv, Int.reduceToNat, BitVec.reduceToNat, zipEnv, Int.reduceLE, Int.reduceLT, Int.reduceNeg, BitVec.reduceEq, Int.reduceAdd, Int.reduceSub, Int.reduceMul, Nat.reduceLeDiff, Int.reduceEq, lv_app0, lv_appk, set_app0, set_appk, List.append_assoc, List.append_nil, Nat.add_assoc, nm, rm]
  refine may_run (q := rows.length + 1) C1 C0 (hr' _) (by rw [lv_appk]; rfl) hl hh nw rw_ ?_
  have k0 : live (rows ++ [some ⟨.ar 32 L8, [.agg (.ar 32 L8) (bs key)]⟩, some ⟨LI, [.raw (it (h : Int))]⟩]) rows.length = some ⟨.ar 32 L8, [.agg (.ar 32 L8) (bs key)]⟩ := by rw [lv_app0]; rfl
  have hst' : rowSet [slotD l] [0, 0, h] (.agg SPl [.raw (it 2), .agg (.ar 32 L8) (bs key)]) = some [slotD (l.set h (2, key))] := hst
  simp only [↓amD, amU, Nat.reduceBEq, Nat.reduceAdd, Nat.reduceSub, Nat.reduceMul, Nat.reduceMod, Nat.reducePow, Nat.reduceLT, Nat.reduceDiv, Int.reduceToNat, BitVec.reduceToNat, zipEnv, Int.reduceLE, Int.reduceLT, Int.reduceNeg, BitVec.reduceEq, Int.reduceAdd, Int.reduceSub, Int.reduceMul, Nat.reduceLeDiff, Int.reduceEq, lv_app0, lv_appk, set_app0, set_appk, List.append_assoc, List.append_nil, Nat.add_assoc, hr', hkd, e0, e1, hlk, k0, hst']
  refine hk _ ?_ ?_
  · intro q row hq hne
    rw [live_set_ne (Ne.symm hne)]
    exact live_app hq _
  · exact live_set_same (hr' _)
theorem aw_of {C : Ctx} {np : Nat} {res : List ARes} {ac : ACode} {ds : List D} {rows : Rows} {K : D → Rows → Prop} (h : afun C np res ac ds rows K) : aw C ac (kFin res K) (zipEnv 0 ds) rows := by
  rw [q_afun] at h; exact h.2
structure QuC (C3 C2 C1 Cp C : Ctx) : Prop where
  np : C.fn 24 = none
  rp : C.fnr 24 = some (afun Cp 2 r_meas_parts a_meas_parts)
  pt : Cp.fn 34 = some fMText
  nM : C.fn 23 = none
  rM : C.fnr 23 = some (afun C1 3 r_slot_Slots_Mac a_slot_Slots_Mac)
  ma : MaC C3 C2 C1
def quoE (k : Int) : Int := bif decide (k = 0) then 3 else 0
theorem quote_run (C C1 C2 C3 Cp : Ctx) (hC : QuC C3 C2 C1 Cp C) {rows : Rows} {r h q : Nat} {ex : Bool} {p : List (BitVec 8)} {R : List (List (BitVec 8))} {l : List (Int × List (BitVec 8))} (hr : live rows r = some ⟨SSl, [slotD l]⟩) (hl : l.length = 8) (hh : h < 8) (hkl : (l.getD h (0, [])).2.length = 32)
    (hR : okR R = true) (hq : live rows q = some ⟨L8, bs p⟩) (hp : p.length ≤ 1000000) {K : D → Rows → Prop}
    (hk : ∀ rows', Kept rows rows' → K (.tup [.agg (.ar 32 L8) (bs (bif decide ((l.getD h (0, [])).1 = 0) then z32 else quoS (l.getD h (0, [])).2 p R)), .raw (it (quoE (l.getD h (0, [])).1))]) rows') :
    afun C 4 r_meas_Meas_Quote a_meas_Meas_Quote [measD R, .ptr SSl r [0], .raw (it (h : Int)), .sl L8 q [] 0 p.length ex] rows K := by
  obtain ⟨np, rp, pt, nM, rM, ma⟩ := hC
  refine afun_mk rfl ?_
  unfold a_meas_Meas_Quote r_meas_Meas_Quote
  simp only [z32_eq]
  have hr' := fun L => live_app hr L
  have e1 : (p.length : Int).fdiv (2 ^ (min 24 64)) = ((p.length / 16777216 : Nat) : Int) := fdiv_nat p.length 16777216
  have e2 : (p.length : Int).fdiv (2 ^ (min 16 64)) = ((p.length / 65536 : Nat) : Int) := fdiv_nat p.length 65536
  have e3 : (p.length : Int).fdiv (2 ^ (min 8 64)) = ((p.length / 256 : Nat) : Int) := fdiv_nat p.length 256
  have e4 : ∀ m : Nat, BitVec.ofInt 8 (m : Int) = BitVec.ofNat 8 m := fun m => rfl
  have mf : ∀ r, D.fits (measD r) SMeas = true := fun _ => rfl
  have af : ∀ r, D.fits (allD r) SAll = true := fun _ => rfl
  have mg : (measD R).get [0] = some (allD R) := rfl
  simp only [↓amD, amU, Nat.reduceBEq, Nat.reduceAdd, Nat.reduceSub, Nat.reduceMul, Nat.reduceMod, Nat.reducePow, Nat.reduceLT, Nat.reduceDiv, Int.reduceToNat, BitVec.reduceToNat, zipEnv, Int.reduceLE, Int.reduceLT, Int.reduceNeg, BitVec.reduceEq, Int.reduceAdd, Int.reduceSub, Int.reduceMul, Nat.reduceLeDiff, Int.reduceEq, lv_app0, lv_appk, set_app0, set_appk, List.append_assoc, List.append_nil, Nat.add_assoc, mf, mg, np, rp, q_afun, a_meas_parts, r_meas_parts, af, b_shri, e1, e2, e3, e4, pt, kMText _ _ _ hR]
  simp only [↓amD, amU, Nat.reduceBEq, Nat.reduceAdd, Nat.reduceSub, Nat.reduceMul, Nat.reduceMod, Nat.reducePow, Nat.reduceLT, Nat.reduceDiv, Int.reduceToNat, BitVec.reduceToNat, zipEnv, Int.reduceLE, Int.reduceLT, Int.reduceNeg, BitVec.reduceEq, Int.reduceAdd, Int.reduceSub, Int.reduceMul, Nat.reduceLeDiff, Int.reduceEq, lv_app0, lv_appk, set_app0, set_appk, List.append_assoc, List.append_nil, Nat.add_assoc, nM, rM]
  have hfl := part_flat p R
  have hf := okR_flat hR
  have hq' := fun L => live_app hq L
  generalize hRR : (rows ++ [some ({ sh := SMeas, els := [measD R] } : Row), _, _, _, _, _, _]) = RR
  have m1 : Kept rows RR := by rw [← hRR]; exact Kept.app rows _
  have m2 : live RR (rows.length + 6) = some ⟨.ref, [.sl L8 (rows.length + 3) [] 0 4 true, .sl L8 (rows.length + 4) [] 0 4 true, .sl L8 q [] 0 p.length ex, .sl L8 (rows.length + 5) [] 0 128 false]⟩ := by rw [← hRR, lv_appk]; rfl
  have m3 : live RR (rows.length + 3) = some ⟨L8, bs quo⟩ := by rw [← hRR, lv_appk]; rfl
  have m4 : live RR (rows.length + 4) = some ⟨L8, bs (numI p.length)⟩ := by rw [← hRR, lv_appk]; rfl
  have m5 : live RR (rows.length + 5) = some ⟨L8, bs R.flatten⟩ := by rw [← hRR, lv_appk]; rfl
  have m6 : live RR (rows.length + 1) = some ⟨.ar 32 L8, [.agg (.ar 32 L8) (bs z32)]⟩ := by rw [← hRR, lv_appk]; rfl
  clear hRR
  have m7 := quoT_len (nonce := p) hR
  refine mac_run C1 C2 C3 ma (q := rows.length + 6) (ls := [quo, numI p.length, p, R.flatten]) (m1 _ _ hr) hl hh hkl m2 rfl (fun rows' hK => ?_) (by simp) (by rw [hfl]; omega) fun rows' hK => ?_
  · exact .cons (BsIn.own (hK _ _ m3) _ rfl) (.cons (BsIn.own (hK _ _ m4) _ rfl) (.cons (BsIn.own (hK _ _ (m1 _ _ hq)) _ rfl) (.cons (BsIn.own (hK _ _ m5) _ hf.symm) .nil)))
  · rw [hfl]
    have hK' : Kept rows rows' := m1.trans hK
    have hm : live rows' (rows.length + 1) = some ⟨.ar 32 L8, [.agg (.ar 32 L8) (bs z32)]⟩ := hK _ _ m6
    have hn : live rows (rows.length + 1) = none := by simp [live]
    have e : hmac (l.getD h (0, [])).2 (quoT p R) = quoS (l.getD h (0, [])).2 p R := rfl
    have hk' := fun x => hk _ (hK'.set (x := x) hn)
    rw [e]
    unfold quoE at hk'
    generalize bs (bif decide ((l.getD h (0, [])).1 = 0) then z32 else quoS (l.getD h (0, [])).2 p R) = B at hk' ⊢
    generalize (bif decide ((l.getD h (0, [])).1 = 0) then (3 : Int) else 0) = E at hk' ⊢
    have w1 := live_set_same (row' := ⟨.ar 32 L8, [.agg (.ar 32 L8) B]⟩) hm
    simp only [↓amD, amU, Nat.reduceBEq, Nat.reduceAdd, Nat.reduceSub, Nat.reduceMul, Nat.reduceMod, Nat.reducePow, Nat.reduceLT, Nat.reduceDiv, Int.reduceToNat, BitVec.reduceToNat, zipEnv, Int.reduceLE, Int.reduceLT, Int.reduceNeg, BitVec.reduceEq, Int.reduceAdd, Int.reduceSub, Int.reduceMul, Nat.reduceLeDiff, Int.reduceEq, lv_app0, lv_appk, set_app0, set_appk, List.append_assoc, List.append_nil, Nat.add_assoc, hm, w1]
    exact hk' _
theorem quoten_run (C C1 C2 C3 Cp : Ctx) (hC : QuC C3 C2 C1 Cp C) {rows : Rows} {h : Int} {q : Nat} {ex : Bool} {p : List (BitVec 8)} {R : List (List (BitVec 8))}
    (hR : okR R = true) (hq : live rows q = some ⟨L8, bs p⟩) (hp : p.length ≤ 1000000) {K : D → Rows → Prop}
    (hk : ∀ rows', Kept rows rows' → K (.tup [.agg (.ar 32 L8) (bs z32), .raw (it 3)]) rows') :
    afun C 4 r_meas_Meas_Quote a_meas_Meas_Quote [measD R, .raw (.pointer none), .raw (it h), .sl L8 q [] 0 p.length ex] rows K := by
  obtain ⟨np, rp, pt, nM, rM, ma⟩ := hC
  refine afun_mk rfl ?_
  unfold a_meas_Meas_Quote r_meas_Meas_Quote
  simp only [z32_eq]
  have e1 : (p.length : Int).fdiv (2 ^ (min 24 64)) = ((p.length / 16777216 : Nat) : Int) := fdiv_nat p.length 16777216
  have e2 : (p.length : Int).fdiv (2 ^ (min 16 64)) = ((p.length / 65536 : Nat) : Int) := fdiv_nat p.length 65536
  have e3 : (p.length : Int).fdiv (2 ^ (min 8 64)) = ((p.length / 256 : Nat) : Int) := fdiv_nat p.length 256
  have e4 : ∀ m : Nat, BitVec.ofInt 8 (m : Int) = BitVec.ofNat 8 m := fun m => rfl
  have mf : ∀ r, D.fits (measD r) SMeas = true := fun _ => rfl
  have af : ∀ r, D.fits (allD r) SAll = true := fun _ => rfl
  have mg : (measD R).get [0] = some (allD R) := rfl
  simp only [↓amD, amU, Nat.reduceBEq, Nat.reduceAdd, Nat.reduceSub, Nat.reduceMul, Nat.reduceMod, Nat.reducePow, Nat.reduceLT, Nat.reduceDiv, Int.reduceToNat, BitVec.reduceToNat, zipEnv, Int.reduceLE, Int.reduceLT, Int.reduceNeg, BitVec.reduceEq, Int.reduceAdd, Int.reduceSub, Int.reduceMul, Nat.reduceLeDiff, Int.reduceEq, lv_app0, lv_appk, set_app0, set_appk, List.append_assoc, List.append_nil, Nat.add_assoc, mf, mg, np, rp, q_afun, a_meas_parts, r_meas_parts, af, b_shri, e1, e2, e3, e4, pt, kMText _ _ _ hR]
  simp only [↓amD, amU, Nat.reduceBEq, Nat.reduceAdd, Nat.reduceSub, Nat.reduceMul, Nat.reduceMod, Nat.reducePow, Nat.reduceLT, Nat.reduceDiv, Int.reduceToNat, BitVec.reduceToNat, zipEnv, Int.reduceLE, Int.reduceLT, Int.reduceNeg, BitVec.reduceEq, Int.reduceAdd, Int.reduceSub, Int.reduceMul, Nat.reduceLeDiff, Int.reduceEq, lv_app0, lv_appk, set_app0, set_appk, List.append_assoc, List.append_nil, Nat.add_assoc, nM, rM]
  refine macn_run C1 C2 C3 ma fun rows' hK => ?_
  have hK' : Kept rows rows' := (Kept.app rows _).trans hK
  have hm : live rows' (rows.length + 1) = some ⟨.ar 32 L8, [.agg (.ar 32 L8) (bs z32)]⟩ := hK _ _ (by rw [lv_appk]; rfl)
  have hn : live rows (rows.length + 1) = none := by simp [live]
  have hk' := fun x => hk _ (hK'.set (x := x) hn)
  have w1 := live_set_same (row' := ⟨.ar 32 L8, [.agg (.ar 32 L8) (bs z32)]⟩) hm
  simp only [↓amD, amU, Nat.reduceBEq, Nat.reduceAdd, Nat.reduceSub, Nat.reduceMul, Nat.reduceMod, Nat.reducePow, Nat.reduceLT, Nat.reduceDiv, Int.reduceToNat, BitVec.reduceToNat, zipEnv, Int.reduceLE, Int.reduceLT, Int.reduceNeg, BitVec.reduceEq, Int.reduceAdd, Int.reduceSub, Int.reduceMul, Nat.reduceLeDiff, Int.reduceEq, lv_app0, lv_appk, set_app0, set_appk, List.append_assoc, List.append_nil, Nat.add_assoc, hm, w1]
  exact hk' _
end Job
end Go.Am
