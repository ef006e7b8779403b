/- arrays in rows; numbers as bytes -/
import Derived.Test.YthnodpihpkcaeaaDoorCom
import Derived.Test.YthnodpihpkcaeaaDoorRd
namespace Go.Am
set_option linter.unusedSimpArgs false
set_option linter.unusedVariables false
attribute [local congr] bnd_congr kCond_congr kGd_congr kPick_congr kCall_congr kIdx_congr kSlice_congr kLoop_congr cond_congr' aBin_congr aBounds_congr aApp_congr aCopy_congr kFn_congr
namespace Job
open Go.Am.F
set_option maxRecDepth 10000
theorem flat_len {l : List (List (BitVec 8))} (h : ∀ x ∈ l, x.length = 32) : l.flatten.length = 32 * l.length := by
  induction l with
  | nil => rfl
  | cons x l ih => rw [List.flatten_cons, List.length_append, ih (fun y hy => h y (by simp [hy])), h x (by simp), List.length_cons]; omega
theorem BsIn.at {rows : Rows} {r n i off len : Nat} {q : List Nat} {e : Bool} {row : Row} {l : List (BitVec 8)} (h : live rows r = some row) (hg : rowGet row.els (i :: q) = some (.agg (.ar n L8) (bs l))) (hle : off + len ≤ l.length) : BsIn rows (.sl L8 r (i :: q) off len e) ((l.drop off).take len) := by
  refine ⟨⟨.lst L8 (bs ((l.drop off).take len)) e, ?_, .inr ⟨e, rfl⟩⟩, fun h => by simp [hasRef] at h⟩
  have h2 : Am.elems rows (.sl L8 r (i :: q) off len e) = some (bs ((l.drop off).take len)) := by
    simp only [elems, h, hg]
    simp [bs]
  simp only [Am.view]
  rw [h2]
  have hl : (bs ((l.drop off).take len)).length = len := by simp [bs]; omega
  simp [Sh.pure, hl]
theorem elems_arr {rows : Rows} {r n i len : Nat} {q : List Nat} {e : Bool} {row : Row} {l : List (BitVec 8)} (h : live rows r = some row) (hg : rowGet row.els (i :: q) = some (.agg (.ar n L8) (bs l))) (hl : l.length = len) : Am.elems rows (.sl L8 r (i :: q) 0 len e) = some (bs l) := by
  simp only [elems, h, hg]
  simp [bs, ← hl, List.take_of_length_le]
/-- the whole of an array -/
theorem BsIn.atAll {rows : Rows} {r n i len : Nat} {q : List Nat} {e : Bool} {row : Row} {l : List (BitVec 8)} (h : live rows r = some row) (hg : rowGet row.els (i :: q) = some (.agg (.ar n L8) (bs l))) (hl : l.length = len) : BsIn rows (.sl L8 r (i :: q) 0 len e) l := by
  have := BsIn.at (off := 0) (len := len) (e := e) h hg (by omega)
  rwa [List.drop_zero, List.take_of_length_le (by omega)] at this
def z32 : List (BitVec 8) := List.replicate 32 0#8
theorem z32_eq : List.replicate 32 (D.raw (u8 0#8)) = bs z32 := rfl
theorem kNumN (rows : Rows) (k : D → Rows → Prop) (v : BitVec 64) (n : Int) (h0 : 0 ≤ n) (h1 : n ≤ 8) : kCall fNumS rows k [.raw (u64 v), .raw (it n)] = k (.sl L8 (0 + rows.length) [] 0 n.toNat false) (rows ++ [some ⟨L8, bs (numL n.toNat v)⟩]) := by
  refine (kCall_rd2 (RdIn.raw (rd64_eq v)) (RdIn.int n) (by simp; omega) rfl k).trans ?_
  simp [outBs, shift, shiftRows, Sh.pure, numL_len]
theorem numq4 (q : BitVec 32) : numL 4 (q.setWidth 64) = wordB q := by
  have hq := q.isLt
  simp only [numL, List.nil_append, List.cons_append, wordB, List.cons.injEq, and_true]
  have e : ∀ (x : BitVec 64) (y : BitVec 8), x.toNat % 256 = y.toNat → x.setWidth 8 = y := fun x y h => by
    apply BitVec.eq_of_toNat_eq
    rw [BitVec.toNat_setWidth]; exact h
  refine ⟨e _ _ ?_, e _ _ ?_, e _ _ ?_, e _ _ ?_⟩ <;> simp [BitVec.toNat_umod, BitVec.toNat_udiv, BitVec.toNat_setWidth, BitVec.toNat_ushiftRight, Nat.shiftRight_eq_div_pow] <;> try omega
theorem inj_id (x y : List (BitVec 8)) (h : D.agg (.ar 16 L8) (bs x) = .agg (.ar 16 L8) (bs y)) : x = y := by
  injection h with _ h; exact bs_inj h
def id16D (l : List (BitVec 8)) : D := .agg (.ar 16 L8) (bs l)
theorem rdIn_id {rows : Rows} (x : List (BitVec 8)) : RdIn rows (rdOf id16D) (.agg (.ar 16 L8) (bs x)) x := RdIn.agg rfl (rdOf_eq inj_id x)
def all32 (l : List (List (BitVec 8))) : Bool := l.all fun x => decide (x.length = 32)
theorem all32_eq {l : List (List (BitVec 8))} : all32 l = true ↔ ∀ x ∈ l, x.length = 32 := by simp [all32]
theorem rdIn_d32 {rows : Rows} (x : List (BitVec 8)) : RdIn rows (rdOf d32D) (.agg (.ar 32 L8) (bs x)) x := RdIn.agg rfl (rdOf_eq d32D_inj x)
theorem d32_eqA : ∀ (a b : List (BitVec 8)), a.length = b.length → eqL (bs a) (bs b) = some (decide (a = b))
  | [], [], _ => rfl
  | x :: a, y :: b, h => by
    have e1 : eqD (.raw (u8 x)) (.raw (u8 y)) = some (decide (x = y)) := by
      simp only [eqD, eqLeaf, u8]
      by_cases h : x = y
      · subst h; simp
      · have : ¬ (x.toNat : Int) = (y.toNat : Int) := fun e => h (BitVec.eq_of_toNat_eq (by omega))
        simp [h, this]
    show eqL (.raw (u8 x) :: bs a) (.raw (u8 y) :: bs b) = _
    rw [eL_c, e1, d32_eqA a b (by simpa using h)]
    by_cases h1 : x = y <;> by_cases h2 : a = b <;> simp [h1, h2]
theorem eqA_d32 (a b : List (BitVec 8)) (ha : a.length = 32) (hb : b.length = 32) : eqA (.ar 32 L8) (.agg (.ar 32 L8) (bs a)) (.agg (.ar 32 L8) (bs b)) = some (decide (a = b)) := by
  have := d32_eqA a b (by omega)
  simp [eqA, this]
end Job
end Go.Am
