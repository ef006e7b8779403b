/- SHA-256: words and turns -/
import Derived.Test.YtloclegkilgglaaR1
namespace Go.Am
set_option linter.unusedSimpArgs false
set_option linter.unusedVariables false
attribute [local congr] bnd_congr kCond_congr kGd_congr kPick_congr kCall_congr kIdx_congr kSlice_congr kLoop_congr cond_congr' aBin_congr aBounds_congr aApp_congr aCopy_congr kFn_congr
namespace Job
open Go.Am.F
set_option maxRecDepth 10000
def us (l : List (BitVec 32)) : List D := l.map fun x => .raw (u32 x)
theorem us_len (l : List (BitVec 32)) : (us l).length = l.length := by simp [us]
theorem us_get {l : List (BitVec 32)} {i : Nat} (h : i < l.length) : (us l)[i]? = some (.raw (u32 (l.getD i 0#32))) := by
  simp [us, List.getElem?_map, h]
theorem us_set (l : List (BitVec 32)) (i : Nat) (x : BitVec 32) : (us l).set i (.raw (u32 x)) = us (l.set i x) := by simp [us, List.map_set]
theorem us_inj {a b : List (BitVec 32)} (h : us a = us b) : a = b := (List.map_inj_right fun x y hxy => by cases (D.raw.inj hxy : u32 x = u32 y) |> u32_inj.1; rfl).1 h
theorem us_app (a b : List (BitVec 32)) : us a ++ us b = us (a ++ b) := by simp [us]
theorem us_cons (a : BitVec 32) (b : List (BitVec 32)) : us (a :: b) = .raw (u32 a) :: us b := rfl
theorem us_rep (n : Nat) (x : BitVec 32) : List.replicate n (D.raw (u32 x)) = us (List.replicate n x) := by simp [us]
theorem bs_rep (n : Nat) (x : BitVec 8) : List.replicate n (D.raw (u8 x)) = bs (List.replicate n x) := by simp [bs]
theorem bs_inj {a b : List (BitVec 8)} (h : bs a = bs b) : a = b := (List.map_inj_right fun x y hxy => by cases (D.raw.inj hxy : u8 x = u8 y) |> u8_inj.1; rfl).1 h
def h8D (l : List (BitVec 32)) : D := .agg (.ar 8 L32) (us l)
def w64D (l : List (BitVec 32)) : D := .agg (.ar 64 L32) (us l)
def b64D (l : List (BitVec 8)) : D := .agg (.ar 64 L8) (bs l)
def d32D (l : List (BitVec 8)) : D := .agg (.ar 32 L8) (bs l)
theorem h8D_inj (x y : List (BitVec 32)) (h : h8D x = h8D y) : x = y := by unfold h8D at h; injection h with _ h; exact us_inj h
theorem w64D_inj (x y : List (BitVec 32)) (h : w64D x = w64D y) : x = y := by unfold w64D at h; injection h with _ h; exact us_inj h
theorem b64D_inj (x y : List (BitVec 8)) (h : b64D x = b64D y) : x = y := by unfold b64D at h; injection h with _ h; exact bs_inj h
theorem d32D_inj (x y : List (BitVec 8)) (h : d32D x = d32D y) : x = y := by unfold d32D at h; injection h with _ h; exact bs_inj h
/-- to the right, round -/
def ror (x : BitVec 32) (n : Nat) : BitVec 32 := x >>> n ||| x <<< (32 - n)
theorem ror_add (x : BitVec 32) (n : Nat) (h0 : 0 < n) (h1 : n < 32) : x >>> n + x <<< (32 - n) = ror x n := by
  refine BitVec.add_eq_or_of_and_eq_zero _ _ ?_
  apply BitVec.eq_of_getLsbD_eq
  intro i hi
  simp only [BitVec.getLsbD_and, BitVec.getLsbD_ushiftRight, BitVec.getLsbD_shiftLeft, BitVec.getLsbD_zero]
  by_cases hh : i < 32 - n
  · simp [hh]
  · have : x.getLsbD (n + i) = false := BitVec.getLsbD_of_ge _ _ (by omega)
    simp [this]
def fTurn : Fn := fn2 rd32 rdI (fun _ k => decide (0 < k) && decide (k < 32)) fun x k => (.raw (u32 (ror x k.toNat)), [])
theorem kTurn (rows : Rows) (k : D → Rows → Prop) (x : BitVec 32) (n : Nat) (h0 : 0 < n) (h1 : n < 32) : kCall fTurn rows k [.raw (u32 x), .raw (it n)] = k (.raw (u32 (ror x n))) rows := by
  refine (kCall_val rfl (r := (.raw (u32 (ror x n)), [])) ?_).trans ?_
  · rw [fTurn, fn2_eq (rd32_eq x) (rdI_eq n) (by simp; omega)]; simp
  · simp [shift, shiftRows]
/-- the rotation of the library, to the right -/
def fRot : Fn := fn2 rd32 rdI (fun _ k => decide (-32 < k) && decide (k < 0)) fun x k => (.raw (u32 (ror x (-k).toNat)), [])
theorem rot_ok (C : Ctx) (hC : CtxOK C P) : Meets C.glob P 30 (Fn.run fRot) := by
  refine fn_meets (m_math_bits_RotateLeft32 C hC) fun ds rows r h => ?_
  obtain ⟨d, e, x, k, rfl, rfl, hd, he, hp, rfl⟩ := fn2_some h
  cases rd32_some hd
  cases rdI_some he
  simp only [Bool.and_eq_true, decide_eq_true_eq] at hp
  obtain ⟨n, hn⟩ := Int.eq_ofNat_of_zero_le (by omega : 0 ≤ -k)
  obtain rfl : k = -(n : Int) := by omega
  refine ⟨rfl, afun_mk rfl ?_⟩
  unfold a_math_bits_RotateLeft32 r_math_bits_RotateLeft32
  have e1 : BitVec.ofInt 64 (-(n : Int)) &&& 31#64 = BitVec.ofNat 64 (32 - n) := by
    have : ∀ m : Fin 32, 0 < m.val → BitVec.ofInt 64 (-(m.val : Int)) &&& 31#64 = BitVec.ofNat 64 (32 - m.val) := by decide
    exact this ⟨n, by omega⟩ (by simp; omega)
  have e2 : (BitVec.ofNat 64 (32 - n)).toNat = 32 - n := by simp; omega
  have e3 : (32#64 - BitVec.ofNat 64 (32 - n)).toNat = n := by
    rw [BitVec.toNat_sub]; simp; omega
  simp only [↓amD, amU, Nat.reduceBEq, Nat.reduceAdd, Nat.reduceSub, Nat.reduceMul, Nat.reduceMod, Nat.reducePow, Nat.reduceLT, Nat.reduceDiv, Int.reduceToNat, BitVec.reduceToNat, zipEnv, Int.reduceLE, Int.reduceLT, Int.reduceNeg, BitVec.reduceEq, Int.reduceAdd, Int.reduceSub, Int.reduceMul, Nat.reduceLeDiff, Int.reduceEq, e1, e2, e3]
  have : x <<< (32 - n) ||| x >>> n = ror x n := by rw [ror, BitVec.or_comm]
  rw [this]
  simp only [Int.neg_neg, Int.toNat_natCast]
  exact .val _ rfl
theorem kRot (rows : Rows) (k : D → Rows → Prop) (x : BitVec 32) (n : Nat) (h0 : 0 < n) (h1 : n < 32) : kCall fRot rows k [.raw (u32 x), .raw (it (-(n : Int)))] = k (.raw (u32 (ror x n))) rows := by
  refine (kCall_val rfl (r := (.raw (u32 (ror x n)), [])) ?_).trans ?_
  · rw [fRot, fn2_eq (rd32_eq x) (rdI_eq _) (by simp; omega)]; simp
  · simp [shift, shiftRows]
def fWord : Fn := fn1 rdBs (fun a => Nat.ble 4 a.length) fun a => (.raw (u32 (numS a)), [])
theorem BsIn.arr {rows : Rows} {r n off len : Nat} {e : Bool} {l : List (BitVec 8)} (h : live rows r = some ⟨.ar n L8, [.agg (.ar n L8) (bs l)]⟩) (hle : off + len ≤ l.length) : BsIn rows (.sl L8 r [0] off len e) ((l.drop off).take len) := by
  refine ⟨⟨.lst L8 (bs ((l.drop off).take len)) e, ?_, .inr ⟨e, rfl⟩⟩, fun h => by simp [hasRef] at h⟩
  have h2 : Am.elems rows (.sl L8 r [0] off len e) = some (bs ((l.drop off).take len)) := by
    simp only [elems, h, rowGet]
    simp [bs, D.get]
  simp only [Am.view]
  rw [h2]
  have hl : (bs ((l.drop off).take len)).length = len := by simp [bs]; omega
  simp [Sh.pure, hl]
theorem kWord (rows : Rows) (k : D → Rows → Prop) (d : D) (a : List (BitVec 8)) (h : BsIn rows d a) (hl : 4 ≤ a.length) : kCall fWord rows k [d] = k (.raw (u32 (numS a))) rows := by
  refine (kCall_bs1 h (by simpa using hl) rfl).trans ?_
  simp [shift, shiftRows]
/-- the schedule -/
def sg0 (a : BitVec 32) : BitVec 32 := ror a 7 ^^^ ror a 18 ^^^ a >>> 3
def sg1 (a : BitVec 32) : BitVec 32 := ror a 17 ^^^ ror a 19 ^^^ a >>> 10
def nxt (w : List (BitVec 32)) (i : Nat) : BitVec 32 := w.getD (i - 16) 0#32 + sg0 (w.getD (i - 15) 0#32) + w.getD (i - 7) 0#32 + sg1 (w.getD (i - 2) 0#32)
def words (n : Nat) (b : List (BitVec 8)) : List (BitVec 32) := (List.range n).map fun i => numS ((b.drop (4 * i)).take 4)
def sch : Nat → List (BitVec 32) → List (BitVec 32)
  | 0, w => w
  | n + 1, w => sch n w ++ [nxt (sch n w) (sch n w).length]
theorem sch_len (n : Nat) (w : List (BitVec 32)) : (sch n w).length = w.length + n := by
  induction n with
  | zero => rfl
  | succ n ih => simp [sch, ih]; omega
theorem words_len (n : Nat) (b : List (BitVec 8)) : (words n b).length = n := by simp [words]
theorem words_succ (n : Nat) (b : List (BitVec 8)) : words (n + 1) b = words n b ++ [numS ((b.drop (4 * n)).take 4)] := by simp [words, List.range_succ]
def schW (b : List (BitVec 8)) : List (BitVec 32) := sch 48 (words 16 b)
/-- a table that is filled from its beginning -/
def fill (l : List (BitVec 32)) (n : Nat) : List (BitVec 32) := l ++ List.replicate (n - l.length) 0#32
theorem fill_len {l : List (BitVec 32)} {n : Nat} (h : l.length ≤ n) : (fill l n).length = n := by simp [fill]; omega
theorem fill_get {l : List (BitVec 32)} {n i : Nat} (h : i < l.length) : (fill l n).getD i 0#32 = l.getD i 0#32 := by
  simp [fill, List.getD, List.getElem?_append_left h]
theorem fill_set {l : List (BitVec 32)} {n : Nat} (h : l.length < n) (x : BitVec 32) : (fill l n).set l.length x = fill (l ++ [x]) n := by
  obtain ⟨k, hk⟩ : ∃ k, n - l.length = k + 1 := ⟨n - l.length - 1, by omega⟩
  have h2 : n - (l ++ [x]).length = k := by simp; omega
  rw [fill, fill, hk, h2, List.replicate_succ, List.set_append_right _ _ (Nat.le_refl _)]
  simp
theorem fill_full {l : List (BitVec 32)} {n : Nat} (h : l.length = n) : fill l n = l := by simp [fill, h]
theorem mul4 (i : Nat) (h : i < 16) : wz (4 * (i : Int)) = ((4 * i : Nat) : Int) := by rw [wz_id (by omega)]; omega
end Job
end Go.Am
