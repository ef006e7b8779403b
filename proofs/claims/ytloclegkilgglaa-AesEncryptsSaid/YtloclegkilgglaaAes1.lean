/- AES: the field and the substitution, as the program makes them -/
import Derived.Test.YtloclegkilgglaaGf
import Derived.Test.YtloclegkilgglaaSha1
namespace Go.Am
set_option linter.unusedSimpArgs false
set_option linter.unusedVariables false
attribute [local congr] bnd_congr kCond_congr kGd_congr kPick_congr kCall_congr kIdx_congr kSlice_congr kLoop_congr cond_congr' aBin_congr aBounds_congr aApp_congr aCopy_congr kFn_congr
namespace Job
open Go.Am.F
set_option maxRecDepth 10000
def box0 : List (BitVec 8) := [99#8, 124#8, 119#8, 123#8, 242#8, 107#8, 111#8, 197#8, 48#8, 1#8, 103#8, 43#8, 254#8, 215#8, 171#8, 118#8, 202#8, 130#8, 201#8, 125#8, 250#8, 89#8, 71#8, 240#8, 173#8, 212#8, 162#8, 175#8, 156#8, 164#8, 114#8, 192#8]
def box1 : List (BitVec 8) := [183#8, 253#8, 147#8, 38#8, 54#8, 63#8, 247#8, 204#8, 52#8, 165#8, 229#8, 241#8, 113#8, 216#8, 49#8, 21#8, 4#8, 199#8, 35#8, 195#8, 24#8, 150#8, 5#8, 154#8, 7#8, 18#8, 128#8, 226#8, 235#8, 39#8, 178#8, 117#8]
def box2 : List (BitVec 8) := [9#8, 131#8, 44#8, 26#8, 27#8, 110#8, 90#8, 160#8, 82#8, 59#8, 214#8, 179#8, 41#8, 227#8, 47#8, 132#8, 83#8, 209#8, 0#8, 237#8, 32#8, 252#8, 177#8, 91#8, 106#8, 203#8, 190#8, 57#8, 74#8, 76#8, 88#8, 207#8]
def box3 : List (BitVec 8) := [208#8, 239#8, 170#8, 251#8, 67#8, 77#8, 51#8, 133#8, 69#8, 249#8, 2#8, 127#8, 80#8, 60#8, 159#8, 168#8, 81#8, 163#8, 64#8, 143#8, 146#8, 157#8, 56#8, 245#8, 188#8, 182#8, 218#8, 33#8, 16#8, 255#8, 243#8, 210#8]
def box4 : List (BitVec 8) := [205#8, 12#8, 19#8, 236#8, 95#8, 151#8, 68#8, 23#8, 196#8, 167#8, 126#8, 61#8, 100#8, 93#8, 25#8, 115#8, 96#8, 129#8, 79#8, 220#8, 34#8, 42#8, 144#8, 136#8, 70#8, 238#8, 184#8, 20#8, 222#8, 94#8, 11#8, 219#8]
def box5 : List (BitVec 8) := [224#8, 50#8, 58#8, 10#8, 73#8, 6#8, 36#8, 92#8, 194#8, 211#8, 172#8, 98#8, 145#8, 149#8, 228#8, 121#8, 231#8, 200#8, 55#8, 109#8, 141#8, 213#8, 78#8, 169#8, 108#8, 86#8, 244#8, 234#8, 101#8, 122#8, 174#8, 8#8]
def box6 : List (BitVec 8) := [186#8, 120#8, 37#8, 46#8, 28#8, 166#8, 180#8, 198#8, 232#8, 221#8, 116#8, 31#8, 75#8, 189#8, 139#8, 138#8, 112#8, 62#8, 181#8, 102#8, 72#8, 3#8, 246#8, 14#8, 97#8, 53#8, 87#8, 185#8, 134#8, 193#8, 29#8, 158#8]
def box7 : List (BitVec 8) := [225#8, 248#8, 152#8, 17#8, 105#8, 217#8, 142#8, 148#8, 155#8, 30#8, 135#8, 233#8, 206#8, 85#8, 40#8, 223#8, 140#8, 161#8, 137#8, 13#8, 191#8, 230#8, 66#8, 104#8, 65#8, 153#8, 45#8, 15#8, 176#8, 84#8, 187#8, 22#8]
def boxL : List (BitVec 8) := box0 ++ box1 ++ box2 ++ box3 ++ box4 ++ box5 ++ box6 ++ box7
def back0 : List (BitVec 8) := [82#8, 9#8, 106#8, 213#8, 48#8, 54#8, 165#8, 56#8, 191#8, 64#8, 163#8, 158#8, 129#8, 243#8, 215#8, 251#8, 124#8, 227#8, 57#8, 130#8, 155#8, 47#8, 255#8, 135#8, 52#8, 142#8, 67#8, 68#8, 196#8, 222#8, 233#8, 203#8]
def back1 : List (BitVec 8) := [84#8, 123#8, 148#8, 50#8, 166#8, 194#8, 35#8, 61#8, 238#8, 76#8, 149#8, 11#8, 66#8, 250#8, 195#8, 78#8, 8#8, 46#8, 161#8, 102#8, 40#8, 217#8, 36#8, 178#8, 118#8, 91#8, 162#8, 73#8, 109#8, 139#8, 209#8, 37#8]
def back2 : List (BitVec 8) := [114#8, 248#8, 246#8, 100#8, 134#8, 104#8, 152#8, 22#8, 212#8, 164#8, 92#8, 204#8, 93#8, 101#8, 182#8, 146#8, 108#8, 112#8, 72#8, 80#8, 253#8, 237#8, 185#8, 218#8, 94#8, 21#8, 70#8, 87#8, 167#8, 141#8, 157#8, 132#8]
def back3 : List (BitVec 8) := [144#8, 216#8, 171#8, 0#8, 140#8, 188#8, 211#8, 10#8, 247#8, 228#8, 88#8, 5#8, 184#8, 179#8, 69#8, 6#8, 208#8, 44#8, 30#8, 143#8, 202#8, 63#8, 15#8, 2#8, 193#8, 175#8, 189#8, 3#8, 1#8, 19#8, 138#8, 107#8]
def back4 : List (BitVec 8) := [58#8, 145#8, 17#8, 65#8, 79#8, 103#8, 220#8, 234#8, 151#8, 242#8, 207#8, 206#8, 240#8, 180#8, 230#8, 115#8, 150#8, 172#8, 116#8, 34#8, 231#8, 173#8, 53#8, 133#8, 226#8, 249#8, 55#8, 232#8, 28#8, 117#8, 223#8, 110#8]
def back5 : List (BitVec 8) := [71#8, 241#8, 26#8, 113#8, 29#8, 41#8, 197#8, 137#8, 111#8, 183#8, 98#8, 14#8, 170#8, 24#8, 190#8, 27#8, 252#8, 86#8, 62#8, 75#8, 198#8, 210#8, 121#8, 32#8, 154#8, 219#8, 192#8, 254#8, 120#8, 205#8, 90#8, 244#8]
def back6 : List (BitVec 8) := [31#8, 221#8, 168#8, 51#8, 136#8, 7#8, 199#8, 49#8, 177#8, 18#8, 16#8, 89#8, 39#8, 128#8, 236#8, 95#8, 96#8, 81#8, 127#8, 169#8, 25#8, 181#8, 74#8, 13#8, 45#8, 229#8, 122#8, 159#8, 147#8, 201#8, 156#8, 239#8]
def back7 : List (BitVec 8) := [160#8, 224#8, 59#8, 77#8, 174#8, 42#8, 245#8, 176#8, 200#8, 235#8, 187#8, 60#8, 131#8, 83#8, 153#8, 97#8, 23#8, 43#8, 4#8, 126#8, 186#8, 119#8, 214#8, 38#8, 225#8, 105#8, 20#8, 99#8, 85#8, 33#8, 12#8, 125#8]
def backL : List (BitVec 8) := back0 ++ back1 ++ back2 ++ back3 ++ back4 ++ back5 ++ back6 ++ back7

def fTwice : Fn := fn1 rd8 (fun _ => true) fun a => (.raw (u8 (xt a)), [])
theorem twice_eq : ∀ a : BitVec 8, a <<< 1 ^^^ a >>> 7 * 27#8 = xt a := by decide +kernel
theorem twice_ok (C : Ctx) (hC : CtxOK C P) : Meets C.glob P 31 (Fn.run fTwice) := by
  refine fn_meets (m_aes_twice C hC) fun ds rows r h => ?_
  obtain ⟨d, x, rfl, rfl, hd, hp, rfl⟩ := fn1_some h
  cases rd8_some hd
  refine ⟨rfl, afun_mk rfl ?_⟩
  unfold a_aes_twice r_aes_twice
  simp only [↓amD, amU, Nat.reduceBEq, Nat.reduceAdd, Nat.reduceSub, Nat.reduceMul, Nat.reduceMod, Nat.reducePow, Nat.reduceLT, Nat.reduceDiv, Int.reduceToNat, BitVec.reduceToNat, zipEnv, Int.reduceLE, Int.reduceLT, Int.reduceNeg, BitVec.reduceEq, Int.reduceAdd, Int.reduceSub, Int.reduceMul, Nat.reduceLeDiff, Int.reduceEq, twice_eq]
  exact .val _ rfl
theorem kTwice (rows : Rows) (k : D → Rows → Prop) (x : BitVec 8) : kCall fTwice rows k [.raw (u8 x)] = k (.raw (u8 (xt x))) rows := by
  refine (kCall_val rfl (r := (.raw (u8 (xt x)), [])) ?_).trans ?_
  · rw [fTwice, fn1_eq (rd8_eq x) rfl]
  · simp [shift, shiftRows]
def mulN : Nat → BitVec 8 → BitVec 8 → BitVec 8
  | 0, _, _ => 0#8
  | n + 1, a, b => sel (b.getLsbD 0) a ^^^ mulN n (xt a) (b >>> 1)
theorem gmN_mul : ∀ (n : Nat) (a b : BitVec 8) (i : Nat), gmN n a b i = mulN n a (b >>> i)
  | 0, _, _, _ => rfl
  | n + 1, a, b, i => by
    rw [gmN, mulN, gmN_mul n]
    have h1 : (b >>> i).getLsbD 0 = b.getLsbD i := by simp
    have h2 : b >>> (i + 1) = (b >>> i) >>> 1 := BitVec.shiftRight_add b i 1
    rw [h1, h2]
theorem gm_mul (a b : BitVec 8) : mulN 8 a b = gm a b := by
  rw [gm, gmN_mul]; simp
theorem mulN_0 : ∀ (n : Nat) (a : BitVec 8), mulN n a 0#8 = 0#8
  | 0, _ => rfl
  | n + 1, a => by
    have : (0#8 : BitVec 8) >>> 1 = 0#8 := by decide
    rw [mulN, this, mulN_0 n]
    simp [sel]
theorem mul_sel (a b : BitVec 8) : a * (b &&& 1#8) = sel (b.getLsbD 0) a := by
  have : ∀ b : BitVec 8, b &&& 1#8 = bif b.getLsbD 0 then 1#8 else 0#8 := by decide +kernel
  rw [this]
  cases b.getLsbD 0 <;> simp [sel]
def fMul : Fn := fn2 rd8 rd8 (fun _ _ => true) fun a b => (.raw (u8 (gm a b)), [])
theorem mul_ok (C : Ctx) (hC : CtxOK C P) (ht : C.fn 31 = some fTwice) : Meets C.glob P 13 (Fn.run fMul) := by
  refine fn_meets (m_aes_Mul C hC) fun ds rows r h => ?_
  obtain ⟨d, e, a, b, rfl, rfl, hd, he, hp, rfl⟩ := fn2_some h
  cases rd8_some hd
  cases rd8_some he
  refine ⟨rfl, afun_mk rfl ?_⟩
  clear h hd he
  unfold a_aes_Mul r_aes_Mul
  simp only [↓amD, amU, Nat.reduceBEq, Nat.reduceAdd, Nat.reduceSub, Nat.reduceMul, Nat.reduceMod, Nat.reducePow, Nat.reduceLT, Nat.reduceDiv, Int.reduceToNat, BitVec.reduceToNat, zipEnv, Int.reduceLE, Int.reduceLT, Int.reduceNeg, BitVec.reduceEq, Int.reduceAdd, Int.reduceSub, Int.reduceMul, Nat.reduceLeDiff, Int.reduceEq]
  refine kLoop_inv (fun k env rows => ∃ a' b' p' : BitVec 8, has env [(0, .raw (u8 a')), (1, .raw (u8 b')), (5, .raw (u8 p'))] ∧ rows = [] ∧ b'.toNat < 2 ^ k ∧ p' ^^^ mulN k a' b' = gm a b) ?_ 8 ⟨a, b, 0#8, ?_, rfl, b.isLt, by rw [gm_mul, BitVec.zero_xor]⟩
  · rintro k env rows ⟨a', b', p', hh, rfl, hlt, hg⟩ R hR
    simp only [has] at hh
    obtain ⟨h0, h1, h5, -⟩ := hh
    simp only [↓amD, amU, Nat.reduceBEq, Nat.reduceAdd, Nat.reduceSub, Nat.reduceMul, Nat.reduceMod, Nat.reducePow, Nat.reduceLT, Nat.reduceDiv, Int.reduceToNat, BitVec.reduceToNat, zipEnv, Int.reduceLE, Int.reduceLT, Int.reduceNeg, BitVec.reduceEq, Int.reduceAdd, Int.reduceSub, Int.reduceMul, Nat.reduceLeDiff, Int.reduceEq, h0, h1, h5, ht, kTwice, mul_sel]
    by_cases hb : b' = 0#8
    · subst hb
      simp only [↓amD, amU, Nat.reduceBEq, Nat.reduceAdd, Nat.reduceSub, Nat.reduceMul, Nat.reduceMod, Nat.reducePow, Nat.reduceLT, Nat.reduceDiv, Int.reduceToNat, BitVec.reduceToNat, zipEnv, Int.reduceLE, Int.reduceLT, Int.reduceNeg, BitVec.reduceEq, Int.reduceAdd, Int.reduceSub, Int.reduceMul, Nat.reduceLeDiff, Int.reduceEq, h0, h1, h5]
      rw [mulN_0, BitVec.xor_zero] at hg
      rw [hg]
      exact .val _ rfl
    · simp only [↓amD, amU, Nat.reduceBEq, Nat.reduceAdd, Nat.reduceSub, Nat.reduceMul, Nat.reduceMod, Nat.reducePow, Nat.reduceLT, Nat.reduceDiv, Int.reduceToNat, BitVec.reduceToNat, zipEnv, Int.reduceLE, Int.reduceLT, Int.reduceNeg, BitVec.reduceEq, Int.reduceAdd, Int.reduceSub, Int.reduceMul, Nat.reduceLeDiff, Int.reduceEq, hb, h0, h1, h5, ht, kTwice, mul_sel]
      obtain ⟨j, rfl⟩ : ∃ j, k = j + 1 := by
        cases k with
        | zero => exact absurd (BitVec.eq_of_toNat_eq (by simp at hlt ⊢; exact hlt)) hb
        | succ j => exact ⟨j, rfl⟩
      refine hR j _ _ (by omega) ⟨xt a', b' >>> 1, p' ^^^ sel (b'.getLsbD 0) a', by simp only [has, ↓amD, amU, Nat.reduceBEq, Nat.reduceAdd, Nat.reduceSub, Nat.reduceMul, Nat.reduceMod, Nat.reducePow, Nat.reduceLT, Nat.reduceDiv, Int.reduceToNat, BitVec.reduceToNat, zipEnv, Int.reduceLE, Int.reduceLT, Int.reduceNeg, BitVec.reduceEq, Int.reduceAdd, Int.reduceSub, Int.reduceMul, Nat.reduceLeDiff, Int.reduceEq], rfl, ?_, ?_⟩
      · rw [BitVec.toNat_ushiftRight, Nat.shiftRight_eq_div_pow]
        have : 2 ^ (j + 1) = 2 ^ j * 2 := Nat.pow_succ ..
        omega
      · rw [← hg, mulN, BitVec.xor_assoc]
  · simp only [has, ↓amD, amU, Nat.reduceBEq, Nat.reduceAdd, Nat.reduceSub, Nat.reduceMul, Nat.reduceMod, Nat.reducePow, Nat.reduceLT, Nat.reduceDiv, Int.reduceToNat, BitVec.reduceToNat, zipEnv, Int.reduceLE, Int.reduceLT, Int.reduceNeg, BitVec.reduceEq, Int.reduceAdd, Int.reduceSub, Int.reduceMul, Nat.reduceLeDiff, Int.reduceEq]
theorem kMul (rows : Rows) (k : D → Rows → Prop) (x y : BitVec 8) : kCall fMul rows k [.raw (u8 x), .raw (u8 y)] = k (.raw (u8 (gm x y))) rows := by
  refine (kCall_val rfl (r := (.raw (u8 (gm x y)), [])) ?_).trans ?_
  · rw [fMul, fn2_eq (rd8_eq x) (rd8_eq y) rfl]
  · simp [shift, shiftRows]
/-- powers -/
def pw : Nat → BitVec 8 → BitVec 8
  | 0, _ => 1#8
  | n + 1, a => gm (pw n a) a
theorem pw_add (m : Nat) (a : BitVec 8) : ∀ n, pw (m + n) a = gm (pw m a) (pw n a)
  | 0 => by rw [Nat.add_zero, pw, gm_one]
  | n + 1 => by rw [← Nat.add_assoc, pw, pw_add m a n, pw, gm_assoc]
def inv8 (a : BitVec 8) : BitVec 8 := pw 254 a
def sq (a : BitVec 8) : BitVec 8 := gm a a
theorem pw_dbl (n : Nat) (a : BitVec 8) : pw (n + n) a = sq (pw n a) := pw_add n a n
/-- quick -/
def invQ (a : BitVec 8) : BitVec 8 :=
  let a2 := sq a; let a3 := gm a2 a; let a6 := sq a3; let a7 := gm a6 a; let a14 := sq a7; let a15 := gm a14 a; let a30 := sq a15; let a31 := gm a30 a
  let a62 := sq a31; let a63 := gm a62 a; let a126 := sq a63; let a127 := gm a126 a
  sq a127
theorem inv_quick (a : BitVec 8) : inv8 a = invQ a := by
  have h1 : pw 1 a = a := by simp only [pw]; rw [gm_comm, gm_one]
  have s : ∀ n, pw (n + 1) a = gm (pw n a) a := fun n => rfl
  have h2 := pw_dbl 1 a
  have h3 := s 2
  have h6 := pw_dbl 3 a
  have h7 := s 6
  have h14 := pw_dbl 7 a
  have h15 := s 14
  have h30 := pw_dbl 15 a
  have h31 := s 30
  have h62 := pw_dbl 31 a
  have h63 := s 62
  have h126 := pw_dbl 63 a
  have h127 := s 126
  have h254 := pw_dbl 127 a
  simp only [Nat.reduceAdd] at h2 h3 h6 h7 h14 h15 h30 h31 h62 h63 h126 h127 h254
  rw [inv8, invQ, h254, h127, h126, h63, h62, h31, h30, h15, h14, h7, h6, h3, h2, h1]
def fInv : Fn := fn1 rd8 (fun _ => true) fun a => (.raw (u8 (inv8 a)), [])
theorem inv_ok (C : Ctx) (hC : CtxOK C P) (hm : C.fn 13 = some fMul) : Meets C.glob P 35 (Fn.run fInv) := by
  refine fn_meets (m_aes_inverse C hC) fun ds rows r h => ?_
  obtain ⟨d, a, rfl, rfl, hd, hp, rfl⟩ := fn1_some h
  cases rd8_some hd
  refine ⟨rfl, afun_mk rfl ?_⟩
  clear h hd
  unfold a_aes_inverse r_aes_inverse
  simp only [↓amD, amU, Nat.reduceBEq, Nat.reduceAdd, Nat.reduceSub, Nat.reduceMul, Nat.reduceMod, Nat.reducePow, Nat.reduceLT, Nat.reduceDiv, Int.reduceToNat, BitVec.reduceToNat, zipEnv, Int.reduceLE, Int.reduceLT, Int.reduceNeg, BitVec.reduceEq, Int.reduceAdd, Int.reduceSub, Int.reduceMul, Nat.reduceLeDiff, Int.reduceEq]
  refine kLoop_up 254 (fun i env rows => has env [(4, .raw (it (i : Int))), (0, .raw (u8 a)), (3, .raw (u8 (pw i a)))] ∧ rows = []) ?_ ?_ ⟨?_, rfl⟩
  · rintro i hi env rows ⟨hh, rfl⟩ R hR
    simp only [has] at hh
    obtain ⟨h4, h0, h3, -⟩ := hh
    have e0 : ((i : Int) < 254) = True := eq_true (by omega)
    have e11 := wz_succ i (by omega)
    simp only [↓amD, amU, Nat.reduceBEq, Nat.reduceAdd, Nat.reduceSub, Nat.reduceMul, Nat.reduceMod, Nat.reducePow, Nat.reduceLT, Nat.reduceDiv, Int.reduceToNat, BitVec.reduceToNat, zipEnv, Int.reduceLE, Int.reduceLT, Int.reduceNeg, BitVec.reduceEq, Int.reduceAdd, Int.reduceSub, Int.reduceMul, Nat.reduceLeDiff, Int.reduceEq, h4, h0, h3, hm, kMul, e0, e11, decide_true]
    exact hR _ _ ⟨by simp only [has, ↓amD, amU, Nat.reduceBEq, Nat.reduceAdd, Nat.reduceSub, Nat.reduceMul, Nat.reduceMod, Nat.reducePow, Nat.reduceLT, Nat.reduceDiv, Int.reduceToNat, BitVec.reduceToNat, zipEnv, Int.reduceLE, Int.reduceLT, Int.reduceNeg, BitVec.reduceEq, Int.reduceAdd, Int.reduceSub, Int.reduceMul, Nat.reduceLeDiff, Int.reduceEq, h0]; rfl, rfl⟩
  · rintro env rows ⟨hh, rfl⟩ R
    simp only [has] at hh
    obtain ⟨h4, h0, h3, -⟩ := hh
    simp only [↓amD, amU, Nat.reduceBEq, Nat.reduceAdd, Nat.reduceSub, Nat.reduceMul, Nat.reduceMod, Nat.reducePow, Nat.reduceLT, Nat.reduceDiv, Int.reduceToNat, BitVec.reduceToNat, zipEnv, Int.reduceLE, Int.reduceLT, Int.reduceNeg, BitVec.reduceEq, Int.reduceAdd, Int.reduceSub, Int.reduceMul, Nat.reduceLeDiff, Int.reduceEq, h4, h0, h3]
    exact .val _ rfl
  · simp only [has, ↓amD, amU, Nat.reduceBEq, Nat.reduceAdd, Nat.reduceSub, Nat.reduceMul, Nat.reduceMod, Nat.reducePow, Nat.reduceLT, Nat.reduceDiv, Int.reduceToNat, BitVec.reduceToNat, zipEnv, Int.reduceLE, Int.reduceLT, Int.reduceNeg, BitVec.reduceEq, Int.reduceAdd, Int.reduceSub, Int.reduceMul, Nat.reduceLeDiff, Int.reduceEq, pw]
theorem kInv (rows : Rows) (k : D → Rows → Prop) (x : BitVec 8) : kCall fInv rows k [.raw (u8 x)] = k (.raw (u8 (inv8 x))) rows := by
  refine (kCall_val rfl (r := (.raw (u8 (inv8 x)), [])) ?_).trans ?_
  · rw [fInv, fn1_eq (rd8_eq x) rfl]
  · simp [shift, shiftRows]
/-- a byte, turned -/
def rol8 (x : BitVec 8) (n : Nat) : BitVec 8 := x <<< n ||| x >>> (8 - n)
def fRot8 : Fn := fn2 rd8 rdI (fun _ k => decide (0 ≤ k) && decide (k < 8)) fun x k => (.raw (u8 (rol8 x k.toNat)), [])
theorem rot8_ok (C : Ctx) (hC : CtxOK C P) : Meets C.glob P 36 (Fn.run fRot8) := by
  refine fn_meets (m_math_bits_RotateLeft8 C hC) fun ds rows r h => ?_
  obtain ⟨d, e, x, k, rfl, rfl, hd, he, hp, rfl⟩ := fn2_some h
  cases rd8_some hd
  cases rdI_some he
  simp only [Bool.and_eq_true, decide_eq_true_eq] at hp
  obtain ⟨n, rfl⟩ := Int.eq_ofNat_of_zero_le hp.1
  refine ⟨rfl, afun_mk rfl ?_⟩
  unfold a_math_bits_RotateLeft8 r_math_bits_RotateLeft8
  have e1 : BitVec.ofInt 64 (n : Int) &&& 7#64 = BitVec.ofNat 64 n := by
    have : ∀ m : Fin 8, BitVec.ofInt 64 (m.val : Int) &&& 7#64 = BitVec.ofNat 64 m.val := by decide
    exact this ⟨n, by omega⟩
  have e2 : (BitVec.ofNat 64 n).toNat = n := by simp; omega
  have e3 : (8#64 - BitVec.ofNat 64 n).toNat = 8 - n := by
    rw [BitVec.toNat_sub]; simp; omega
  simp only [↓amD, amU, Nat.reduceBEq, Nat.reduceAdd, Nat.reduceSub, Nat.reduceMul, Nat.reduceMod, Nat.reducePow, Nat.reduceLT, Nat.reduceDiv, Int.reduceToNat, BitVec.reduceToNat, zipEnv, Int.reduceLE, Int.reduceLT, Int.reduceNeg, BitVec.reduceEq, Int.reduceAdd, Int.reduceSub, Int.reduceMul, Nat.reduceLeDiff, Int.reduceEq, e1, e2, e3]
  exact .val _ rfl
theorem kRot8 (rows : Rows) (k : D → Rows → Prop) (x : BitVec 8) (n : Nat) (h1 : n < 8) : kCall fRot8 rows k [.raw (u8 x), .raw (it (n : Int))] = k (.raw (u8 (rol8 x n))) rows := by
  refine (kCall_val rfl (r := (.raw (u8 (rol8 x n)), [])) ?_).trans ?_
  · rw [fRot8, fn2_eq (rd8_eq x) (rdI_eq _) (by simp; omega)]; simp
  · simp [shift, shiftRows]
/-- what is made of an inverse -/
def affN (a : BitVec 8) : Nat → BitVec 8
  | 0 => 99#8
  | n + 1 => affN a n ^^^ rol8 a n
def box8 (b : BitVec 8) : BitVec 8 := affN (inv8 b) 5
def back8 (b : BitVec 8) : BitVec 8 := inv8 (5#8 ^^^ rol8 b 1 ^^^ rol8 b 3 ^^^ rol8 b 6)
def fBox : Fn := fn1 rd8 (fun _ => true) fun a => (.raw (u8 (box8 a)), [])
theorem box_ok (C : Ctx) (hC : CtxOK C P) (hi : C.fn 35 = some fInv) (hr : C.fn 36 = some fRot8) : Meets C.glob P 15 (Fn.run fBox) := by
  refine fn_meets (m_aes_Box C hC) fun ds rows r h => ?_
  obtain ⟨d, a, rfl, rfl, hd, hp, rfl⟩ := fn1_some h
  cases rd8_some hd
  refine ⟨rfl, afun_mk rfl ?_⟩
  clear h hd
  unfold a_aes_Box r_aes_Box
  simp only [↓amD, amU, Nat.reduceBEq, Nat.reduceAdd, Nat.reduceSub, Nat.reduceMul, Nat.reduceMod, Nat.reducePow, Nat.reduceLT, Nat.reduceDiv, Int.reduceToNat, BitVec.reduceToNat, zipEnv, Int.reduceLE, Int.reduceLT, Int.reduceNeg, BitVec.reduceEq, Int.reduceAdd, Int.reduceSub, Int.reduceMul, Nat.reduceLeDiff, Int.reduceEq, hi, kInv]
  refine kLoop_up 5 (fun i env rows => has env [(8, .raw (it (i : Int))), (3, .raw (u8 (inv8 a))), (4, .raw (u8 (affN (inv8 a) i)))] ∧ rows = []) ?_ ?_ ⟨?_, rfl⟩
  · rintro i hi env rows ⟨hh, rfl⟩ R hR
    simp only [has] at hh
    obtain ⟨h8, h3, h4, -⟩ := hh
    have e0 : ((i : Int) < 5) = True := eq_true (by omega)
    have e11 := wz_succ i (by omega)
    have kr := fun rows k x => kRot8 rows k x i (by omega)
    simp only [↓amD, amU, Nat.reduceBEq, Nat.reduceAdd, Nat.reduceSub, Nat.reduceMul, Nat.reduceMod, Nat.reducePow, Nat.reduceLT, Nat.reduceDiv, Int.reduceToNat, BitVec.reduceToNat, zipEnv, Int.reduceLE, Int.reduceLT, Int.reduceNeg, BitVec.reduceEq, Int.reduceAdd, Int.reduceSub, Int.reduceMul, Nat.reduceLeDiff, Int.reduceEq, h8, h3, h4, hr, kr, e0, e11, decide_true]
    exact hR _ _ ⟨by simp only [has, ↓amD, amU, Nat.reduceBEq, Nat.reduceAdd, Nat.reduceSub, Nat.reduceMul, Nat.reduceMod, Nat.reducePow, Nat.reduceLT, Nat.reduceDiv, Int.reduceToNat, BitVec.reduceToNat, zipEnv, Int.reduceLE, Int.reduceLT, Int.reduceNeg, BitVec.reduceEq, Int.reduceAdd, Int.reduceSub, Int.reduceMul, Nat.reduceLeDiff, Int.reduceEq, h3]; rfl, rfl⟩
  · rintro env rows ⟨hh, rfl⟩ R
    simp only [has] at hh
    obtain ⟨h8, h3, h4, -⟩ := hh
    simp only [↓amD, amU, Nat.reduceBEq, Nat.reduceAdd, Nat.reduceSub, Nat.reduceMul, Nat.reduceMod, Nat.reducePow, Nat.reduceLT, Nat.reduceDiv, Int.reduceToNat, BitVec.reduceToNat, zipEnv, Int.reduceLE, Int.reduceLT, Int.reduceNeg, BitVec.reduceEq, Int.reduceAdd, Int.reduceSub, Int.reduceMul, Nat.reduceLeDiff, Int.reduceEq, h8, h3, h4]
    exact .val _ rfl
  · simp only [has, ↓amD, amU, Nat.reduceBEq, Nat.reduceAdd, Nat.reduceSub, Nat.reduceMul, Nat.reduceMod, Nat.reducePow, Nat.reduceLT, Nat.reduceDiv, Int.reduceToNat, BitVec.reduceToNat, zipEnv, Int.reduceLE, Int.reduceLT, Int.reduceNeg, BitVec.reduceEq, Int.reduceAdd, Int.reduceSub, Int.reduceMul, Nat.reduceLeDiff, Int.reduceEq, affN]
theorem kBox (rows : Rows) (k : D → Rows → Prop) (x : BitVec 8) : kCall fBox rows k [.raw (u8 x)] = k (.raw (u8 (box8 x))) rows := by
  refine (kCall_val rfl (r := (.raw (u8 (box8 x)), [])) ?_).trans ?_
  · rw [fBox, fn1_eq (rd8_eq x) rfl]
  · simp [shift, shiftRows]
def fBack : Fn := fn1 rd8 (fun _ => true) fun a => (.raw (u8 (back8 a)), [])
theorem back_ok (C : Ctx) (hC : CtxOK C P) (hi : C.fn 35 = some fInv) (hr : C.fn 36 = some fRot8) : Meets C.glob P 17 (Fn.run fBack) := by
  refine fn_meets (m_aes_Inverse C hC) fun ds rows r h => ?_
  obtain ⟨d, a, rfl, rfl, hd, hp, rfl⟩ := fn1_some h
  cases rd8_some hd
  refine ⟨rfl, afun_mk rfl ?_⟩
  clear h hd
  unfold a_aes_Inverse r_aes_Inverse
  have k1 := fun rows k x => kRot8 rows k x 1 (by omega)
  have k3 := fun rows k x => kRot8 rows k x 3 (by omega)
  have k6 := fun rows k x => kRot8 rows k x 6 (by omega)
  simp only [Int.cast_ofNat_Int] at k1 k3 k6
  simp only [↓amD, amU, Nat.reduceBEq, Nat.reduceAdd, Nat.reduceSub, Nat.reduceMul, Nat.reduceMod, Nat.reducePow, Nat.reduceLT, Nat.reduceDiv, Int.reduceToNat, BitVec.reduceToNat, zipEnv, Int.reduceLE, Int.reduceLT, Int.reduceNeg, BitVec.reduceEq, Int.reduceAdd, Int.reduceSub, Int.reduceMul, Nat.reduceLeDiff, Int.reduceEq, hr]
  refine ⟨4, ?_⟩
  simp only [↓amD, amU, Nat.reduceBEq, Nat.reduceAdd, Nat.reduceSub, Nat.reduceMul, Nat.reduceMod, Nat.reducePow, Nat.reduceLT, Nat.reduceDiv, Int.reduceToNat, BitVec.reduceToNat, zipEnv, Int.reduceLE, Int.reduceLT, Int.reduceNeg, BitVec.reduceEq, Int.reduceAdd, Int.reduceSub, Int.reduceMul, Nat.reduceLeDiff, Int.reduceEq, hr, hi, k1, k3, k6, kInv]
  exact .val _ rfl
theorem kBack (rows : Rows) (k : D → Rows → Prop) (x : BitVec 8) : kCall fBack rows k [.raw (u8 x)] = k (.raw (u8 (back8 x))) rows := by
  refine (kCall_val rfl (r := (.raw (u8 (back8 x)), [])) ?_).trans ?_
  · rw [fBack, fn1_eq (rd8_eq x) rfl]
  · simp [shift, shiftRows]
theorem box_tab (b : BitVec 8) : bx boxL b = box8 b := by
  have : ∀ b : BitVec 8, bx boxL b = affN (invQ b) 5 := by decide +kernel
  rw [this, box8, inv_quick]
theorem back_tab (b : BitVec 8) : bx backL b = back8 b := by
  have : ∀ b : BitVec 8, bx backL b = invQ (5#8 ^^^ rol8 b 1 ^^^ rol8 b 3 ^^^ rol8 b 6) := by decide +kernel
  rw [this, back8, inv_quick]
theorem box_back (b : BitVec 8) : bx boxL (bx backL b) = b := by revert b; decide +kernel
theorem back_box (b : BitVec 8) : bx backL (bx boxL b) = b := by revert b; decide +kernel
end Job
end Go.Am
