import Derived.Test.YtmhagenbelpnfaaDoorRp16
namespace Go.Am
set_option linter.unusedSimpArgs false
set_option linter.unusedVariables false
namespace Job
noncomputable def nF {α : Type} (x : Nat) (f : Nat → α) : α := @Nat.rec (fun _ => α) (f 0) (fun n _ => f (n + 1)) x
theorem nF_eq {α : Type} (x : Nat) (f : Nat → α) : nF x f = f x := by cases x <;> rfl
def sN0 (y : Nat) : Nat := ((y >>> 2) ^^^ (y >>> 13) ^^^ (y >>> 22)) % 4294967296
def sN1 (y : Nat) : Nat := ((y >>> 6) ^^^ (y >>> 11) ^^^ (y >>> 25)) % 4294967296
def gN0 (x y : Nat) : Nat := (((y >>> 7) ^^^ (y >>> 18)) % 4294967296) ^^^ (x >>> 3)
def gN1 (x y : Nat) : Nat := (((y >>> 17) ^^^ (y >>> 19)) % 4294967296) ^^^ (x >>> 10)
abbrev NF := Nat → Nat → Nat → Nat → Nat → Nat → Nat → Nat → Nat → Nat → Nat → Nat → Nat → Nat → Nat → Nat → Nat → Nat → Nat → Nat → Nat → Nat → Nat → Nat → Nat
noncomputable def goN (h0 h1 h2 h3 h4 h5 h6 h7 : Nat) (ks : List Nat) : NF :=
 @List.rec Nat (fun _ => NF)
  (fun _ _ _ _ _ _ _ _ _ _ _ _ _ _ _ _ a b c d e f g h => ((((((((h0 + a) % 4294967296) * 4294967296 + (h1 + b) % 4294967296) * 4294967296 + (h2 + c) % 4294967296) * 4294967296 + (h3 + d) % 4294967296) * 4294967296 + (h4 + e) % 4294967296) * 4294967296 + (h5 + f) % 4294967296) * 4294967296 + (h6 + g) % 4294967296) * 4294967296 + (h7 + h) % 4294967296)
  (fun k _ ih w0 w1 w2 w3 w4 w5 w6 w7 w8 w9 w10 w11 w12 w13 w14 w15 a b c d e f g h =>
   nF ((w0 + gN0 w1 (w1 * 4294967297) + w9 + gN1 w14 (w14 * 4294967297)) % 4294967296) fun w16 =>
   nF (h + sN1 (e * 4294967297) + (g ^^^ (e &&& (f ^^^ g))) + k + w0) fun t =>
   nF ((t + sN0 (a * 4294967297) + ((a &&& (b ^^^ c)) ^^^ (b &&& c))) % 4294967296) fun na =>
   nF ((d + t) % 4294967296) fun ne =>
   ih w1 w2 w3 w4 w5 w6 w7 w8 w9 w10 w11 w12 w13 w14 w15 w16 na a b c ne e f g) ks
def roundsN : List Nat := [1116352408, 1899447441, 3049323471, 3921009573, 961987163, 1508970993, 2453635748, 2870763221, 3624381080, 310598401, 607225278, 1426881987, 1925078388, 2162078206, 2614888103, 3248222580, 3835390401, 4022224774, 264347078, 604807628, 770255983, 1249150122, 1555081692, 1996064986, 2554220882, 2821834349, 2952996808, 3210313671, 3336571891, 3584528711, 113926993, 338241895, 666307205, 773529912, 1294757372, 1396182291, 1695183700, 1986661051, 2177026350, 2456956037, 2730485921, 2820302411, 3259730800, 3345764771, 3516065817, 3600352804, 4094571909, 275423344, 430227734, 506948616, 659060556, 883997877, 958139571, 1322822218, 1537002063, 1747873779, 1955562222, 2024104815, 2227730452, 2361852424, 2428436474, 2756734187, 3204031479, 3329325298]
def wN (T i : Nat) : Nat := (T >>> i) % 4294967296
noncomputable def pressN (H T : Nat) : Nat :=
 nF (wN H 224) fun a => nF (wN H 192) fun b => nF (wN H 160) fun c => nF (wN H 128) fun d => nF (wN H 96) fun e => nF (wN H 64) fun f => nF (wN H 32) fun g => nF (wN H 0) fun h =>
 nF (wN T 480) fun w0 => nF (wN T 448) fun w1 => nF (wN T 416) fun w2 => nF (wN T 384) fun w3 => nF (wN T 352) fun w4 => nF (wN T 320) fun w5 => nF (wN T 288) fun w6 => nF (wN T 256) fun w7 =>
 nF (wN T 224) fun w8 => nF (wN T 192) fun w9 => nF (wN T 160) fun w10 => nF (wN T 128) fun w11 => nF (wN T 96) fun w12 => nF (wN T 64) fun w13 => nF (wN T 32) fun w14 => nF (wN T 0) fun w15 =>
 goN a b c d e f g h roundsN w0 w1 w2 w3 w4 w5 w6 w7 w8 w9 w10 w11 w12 w13 w14 w15 a b c d e f g h
def firstN : Nat := 0x6a09e667bb67ae853c6ef372a54ff53a510e527f9b05688c1f83d9ab5be0cd19
theorem rorN (x : BitVec 32) (n : Nat) (h0 : 0 < n) (h1 : n < 32) : (ror x n).toNat = ((x.toNat * 4294967297) >>> n) % 4294967296 := by
 have hx := x.isLt
 have e1 : x.toNat * 4294967297 = 2 ^ 32 * x.toNat + x.toNat := by omega
 have e2 : (4294967296 : Nat) = 2 ^ 32 := rfl
 rw [e1, e2]
 apply Nat.eq_of_testBit_eq
 intro i
 rw [ror, BitVec.toNat_or, BitVec.toNat_ushiftRight, BitVec.toNat_shiftLeft, Nat.testBit_or, Nat.testBit_shiftRight, Nat.testBit_mod_two_pow, Nat.testBit_shiftLeft, Nat.testBit_mod_two_pow, Nat.testBit_shiftRight, Nat.testBit_two_pow_mul_add _ hx]
 by_cases c : i < 32
 ·by_cases c2 : n + i < 32
  ·have : ¬ i ≥ 32 - n := by omega
   simp [c, c2, this]
  ·have c3 : i ≥ 32 - n := by omega
   have z : x.toNat.testBit (n + i) = false := Nat.testBit_lt_two_pow (Nat.lt_of_lt_of_le hx (Nat.pow_le_pow_right (by decide) (by omega)))
   have e : n + i - 32 = i - (32 - n) := by omega
   simp [c, c2, c3, z, e]
 ·have z : x.toNat.testBit (n + i) = false := Nat.testBit_lt_two_pow (Nat.lt_of_lt_of_le hx (Nat.pow_le_pow_right (by decide) (by omega)))
  simp [c, z]
theorem xmod (a b : Nat) : (a ^^^ b) % 4294967296 = a % 4294967296 ^^^ b % 4294967296 := Nat.xor_mod_two_pow (n := 32)
theorem sN0_eq (x : BitVec 32) : sN0 (x.toNat * 4294967297) = (ror x 2 ^^^ ror x 13 ^^^ ror x 22).toNat := by
 rw [BitVec.toNat_xor, BitVec.toNat_xor, rorN x 2 (by decide) (by decide), rorN x 13 (by decide) (by decide), rorN x 22 (by decide) (by decide), sN0, xmod, xmod]
theorem sN1_eq (x : BitVec 32) : sN1 (x.toNat * 4294967297) = (ror x 6 ^^^ ror x 11 ^^^ ror x 25).toNat := by
 rw [BitVec.toNat_xor, BitVec.toNat_xor, rorN x 6 (by decide) (by decide), rorN x 11 (by decide) (by decide), rorN x 25 (by decide) (by decide), sN1, xmod, xmod]
theorem gN0_eq (x : BitVec 32) : gN0 x.toNat (x.toNat * 4294967297) = (sg0 x).toNat := by
 rw [sg0, BitVec.toNat_xor, BitVec.toNat_xor, rorN x 7 (by decide) (by decide), rorN x 18 (by decide) (by decide), BitVec.toNat_ushiftRight, gN0, xmod]
theorem gN1_eq (x : BitVec 32) : gN1 x.toNat (x.toNat * 4294967297) = (sg1 x).toNat := by
 rw [sg1, BitVec.toNat_xor, BitVec.toNat_xor, rorN x 17 (by decide) (by decide), rorN x 19 (by decide) (by decide), BitVec.toNat_ushiftRight, gN1, xmod]
theorem chN_eq (e f g : BitVec 32) : g.toNat ^^^ (e.toNat &&& (f.toNat ^^^ g.toNat)) = (e &&& f ^^^ ~~~e &&& g).toNat := by
 rw [← BitVec.toNat_xor, ← BitVec.toNat_and, ← BitVec.toNat_xor]
 congr 1
 apply BitVec.eq_of_getLsbD_eq
 intro i hi
 simp only [BitVec.getLsbD_xor, BitVec.getLsbD_and, BitVec.getLsbD_not, hi, decide_true, Bool.true_and]
 cases e.getLsbD i <;> cases f.getLsbD i <;> cases g.getLsbD i <;> rfl
theorem mjN_eq (a b c : BitVec 32) : (a.toNat &&& (b.toNat ^^^ c.toNat)) ^^^ (b.toNat &&& c.toNat) = (a &&& b ^^^ a &&& c ^^^ b &&& c).toNat := by
 rw [← BitVec.toNat_xor, ← BitVec.toNat_and, ← BitVec.toNat_and, ← BitVec.toNat_xor]
 congr 1
 apply BitVec.eq_of_getLsbD_eq
 intro i hi
 simp only [BitVec.getLsbD_xor, BitVec.getLsbD_and]
 cases a.getLsbD i <;> cases b.getLsbD i <;> cases c.getLsbD i <;> rfl
def WW (b : List (BitVec 8)) (i : Nat) : BitVec 32 := (sch 64 (words 16 b)).getD i 0#32
theorem sch_get (w : List (BitVec 32)) (n m i : Nat) (h : i < w.length + n) : (sch (n + m) w).getD i 0#32 = (sch n w).getD i 0#32 := by
 induction m with
 | zero => rfl
 | succ m ih =>
  rw [← ih]
  show (sch (n + m) w ++ _).getD i 0#32 = _
  have : i < (sch (n + m) w).length := by rw [sch_len]; omega
  simp [List.getD, List.getElem?_append_left this]
theorem WW_get (b : List (BitVec 8)) (n i : Nat) (h : i < 16 + n) (hn : n ≤ 64) : (sch n (words 16 b)).getD i 0#32 = WW b i := by
 have := sch_get (words 16 b) n (64 - n) i (by rw [words_len]; omega)
 rw [show n + (64 - n) = 64 by omega] at this
 exact this.symm
theorem WW_nxt (b : List (BitVec 8)) (i : Nat) (h : i < 64) : WW b (i + 16) = WW b i + sg0 (WW b (i + 1)) + WW b (i + 9) + sg1 (WW b (i + 14)) := by
 rw [← WW_get b (i + 1) (i + 16) (by omega) (by omega)]
 have hl : (sch i (words 16 b)).length = 16 + i := by rw [sch_len, words_len]
 have e : (sch (i + 1) (words 16 b)).getD (i + 16) 0#32 = nxt (sch i (words 16 b)) (16 + i) := by
  show (sch i (words 16 b) ++ [nxt (sch i (words 16 b)) (sch i (words 16 b)).length]).getD (i + 16) 0#32 = _
  rw [hl, Nat.add_comm i 16]
  simp [List.getD, List.getElem?_append_right, hl]
 rw [e, nxt]
 have e1 : 16 + i - 16 = i := by omega
 have e2 : 16 + i - 15 = i + 1 := by omega
 have e3 : 16 + i - 7 = i + 9 := by omega
 have e4 : 16 + i - 2 = i + 14 := by omega
 rw [e1, e2, e3, e4, WW_get b i i (by omega) (by omega), WW_get b i (i + 1) (by omega) (by omega), WW_get b i (i + 9) (by omega) (by omega), WW_get b i (i + 14) (by omega) (by omega)]
def numW (l : List (BitVec 32)) : Nat := l.foldl (fun n w => n * 4294967296 + w.toNat) 0
def rndF (b : List (BitVec 8)) : List (BitVec 32) → Nat → List (BitVec 32) → List (BitVec 32)
 | [], _, v => v
 | k :: ks, n, v => rndF b ks (n + 1) (rnd v k (WW b n))
theorem addN (x y : BitVec 32) : (x + y).toNat = (x.toNat + y.toNat) % 4294967296 := BitVec.toNat_add x y
theorem goN_cons (h0 h1 h2 h3 h4 h5 h6 h7 k : Nat) (ks : List Nat) (w0 w1 w2 w3 w4 w5 w6 w7 w8 w9 w10 w11 w12 w13 w14 w15 a b c d e f g h : Nat) : goN h0 h1 h2 h3 h4 h5 h6 h7 (k :: ks) w0 w1 w2 w3 w4 w5 w6 w7 w8 w9 w10 w11 w12 w13 w14 w15 a b c d e f g h =
  goN h0 h1 h2 h3 h4 h5 h6 h7 ks w1 w2 w3 w4 w5 w6 w7 w8 w9 w10 w11 w12 w13 w14 w15 ((w0 + gN0 w1 (w1 * 4294967297) + w9 + gN1 w14 (w14 * 4294967297)) % 4294967296) (((h + sN1 (e * 4294967297) + (g ^^^ (e &&& (f ^^^ g))) + k + w0) + sN0 (a * 4294967297) + ((a &&& (b ^^^ c)) ^^^ (b &&& c))) % 4294967296) a b c ((d + (h + sN1 (e * 4294967297) + (g ^^^ (e &&& (f ^^^ g))) + k + w0)) % 4294967296) e f g := by
 show nF ((w0 + gN0 w1 (w1 * 4294967297) + w9 + gN1 w14 (w14 * 4294967297)) % 4294967296) (fun w16 =>
   nF (h + sN1 (e * 4294967297) + (g ^^^ (e &&& (f ^^^ g))) + k + w0) fun t =>
   nF ((t + sN0 (a * 4294967297) + ((a &&& (b ^^^ c)) ^^^ (b &&& c))) % 4294967296) fun na =>
   nF ((d + t) % 4294967296) fun ne => goN h0 h1 h2 h3 h4 h5 h6 h7 ks w1 w2 w3 w4 w5 w6 w7 w8 w9 w10 w11 w12 w13 w14 w15 w16 na a b c ne e f g) = _
 rw [nF_eq, nF_eq, nF_eq, nF_eq]
set_option maxHeartbeats 1000000 in
theorem goN_eq (p : List (BitVec 8)) (h0 h1 h2 h3 h4 h5 h6 h7 : BitVec 32) : ∀ (ks : List (BitVec 32)) (n : Nat) (a b c d e f g h : BitVec 32), n + ks.length ≤ 64 →
  goN h0.toNat h1.toNat h2.toNat h3.toNat h4.toNat h5.toNat h6.toNat h7.toNat (ks.map BitVec.toNat) (WW p n).toNat (WW p (n + 1)).toNat (WW p (n + 2)).toNat (WW p (n + 3)).toNat (WW p (n + 4)).toNat (WW p (n + 5)).toNat (WW p (n + 6)).toNat (WW p (n + 7)).toNat (WW p (n + 8)).toNat (WW p (n + 9)).toNat (WW p (n + 10)).toNat (WW p (n + 11)).toNat (WW p (n + 12)).toNat (WW p (n + 13)).toNat (WW p (n + 14)).toNat (WW p (n + 15)).toNat a.toNat b.toNat c.toNat d.toNat e.toNat f.toNat g.toNat h.toNat
  = numW (List.zipWith (· + ·) [h0, h1, h2, h3, h4, h5, h6, h7] (rndF p ks n [a, b, c, d, e, f, g, h])) := by
 intro ks
 induction ks with
 | nil =>
  intro n a b c d e f g h _
  simp only [rndF, List.zipWith_cons_cons, List.zipWith_nil_left, numW, List.foldl_cons, List.foldl_nil, addN, Nat.zero_mul, Nat.zero_add]
  rfl
 | cons k ks ih =>
  intro n a b c d e f g h hn
  simp only [List.length_cons] at hn
  have hw := WW_nxt p n (by omega)
  rw [List.map_cons, goN_cons]
  have e16 : ((WW p n).toNat + gN0 (WW p (n + 1)).toNat ((WW p (n + 1)).toNat * 4294967297) + (WW p (n + 9)).toNat + gN1 (WW p (n + 14)).toNat ((WW p (n + 14)).toNat * 4294967297)) % 4294967296 = (WW p (n + 1 + 15)).toNat := by
   rw [show n + 1 + 15 = n + 16 by omega, hw, gN0_eq, gN1_eq, addN, addN, addN]
   omega
  have et : (h + (ror e 6 ^^^ ror e 11 ^^^ ror e 25) + (e &&& f ^^^ ~~~e &&& g) + k + WW p n).toNat = (h.toNat + sN1 (e.toNat * 4294967297) + (g.toNat ^^^ (e.toNat &&& (f.toNat ^^^ g.toNat))) + k.toNat + (WW p n).toNat) % 4294967296 := by
   rw [sN1_eq, chN_eq, addN, addN, addN, addN]
   omega
  have ena : ((h.toNat + sN1 (e.toNat * 4294967297) + (g.toNat ^^^ (e.toNat &&& (f.toNat ^^^ g.toNat))) + k.toNat + (WW p n).toNat) + sN0 (a.toNat * 4294967297) + ((a.toNat &&& (b.toNat ^^^ c.toNat)) ^^^ (b.toNat &&& c.toNat))) % 4294967296 = (h + (ror e 6 ^^^ ror e 11 ^^^ ror e 25) + (e &&& f ^^^ ~~~e &&& g) + k + WW p n + (ror a 2 ^^^ ror a 13 ^^^ ror a 22) + (a &&& b ^^^ a &&& c ^^^ b &&& c)).toNat := by
   rw [addN _ (a &&& b ^^^ a &&& c ^^^ b &&& c), addN _ (ror a 2 ^^^ ror a 13 ^^^ ror a 22), et, sN0_eq, mjN_eq]
   omega
  have ene : (d.toNat + (h.toNat + sN1 (e.toNat * 4294967297) + (g.toNat ^^^ (e.toNat &&& (f.toNat ^^^ g.toNat))) + k.toNat + (WW p n).toNat)) % 4294967296 = (d + (h + (ror e 6 ^^^ ror e 11 ^^^ ror e 25) + (e &&& f ^^^ ~~~e &&& g) + k + WW p n)).toNat := by
   rw [addN d, et]
   omega
  rw [e16, ena, ene]
  have := ih (n + 1) (h + (ror e 6 ^^^ ror e 11 ^^^ ror e 25) + (e &&& f ^^^ ~~~e &&& g) + k + WW p n + (ror a 2 ^^^ ror a 13 ^^^ ror a 22) + (a &&& b ^^^ a &&& c ^^^ b &&& c)) a b c (d + (h + (ror e 6 ^^^ ror e 11 ^^^ ror e 25) + (e &&& f ^^^ ~~~e &&& g) + k + WW p n)) e f g (by omega)
  exact this
theorem rounds_eq : roundsN = roundsL.map BitVec.toNat := by rfl
theorem rndF_rnds (p : List (BitVec 8)) (v : List (BitVec 32)) : ∀ m n, n + m = 64 → rndF p (roundsL.drop n) n (rnds (schW p) n v) = rnds (schW p) 64 v := by
 intro m
 induction m with
 | zero =>
  intro n h
  obtain rfl : n = 64 := by omega
  have e : roundsL.drop 64 = [] := rfl
  rw [e, rndF]
 | succ m ih =>
  intro n h
  have hl : n < roundsL.length := by show n < 64; omega
  have hd : roundsL.drop n = roundsL.getD n 0#32 :: roundsL.drop (n + 1) := by
   rw [List.drop_eq_getElem_cons hl]; simp [List.getD, hl]
  rw [hd, rndF]
  have hw : WW p n = (schW p).getD n 0#32 := (WW_get p 48 n (by omega) (by decide)).symm
  rw [hw]
  exact ih (n + 1) (by omega)
def numB (l : List (BitVec 8)) : Nat := l.foldl (fun n b => n * 256 + b.toNat) 0
theorem fold_mul (l : List (BitVec 8)) : ∀ n, l.foldl (fun n b => n * 256 + b.toNat) n = n * 256 ^ l.length + numB l := by
 induction l with
 | nil => intro n; simp [numB]
 | cons b l ih =>
  intro n
  have e : numB (b :: l) = b.toNat * 256 ^ l.length + numB l := by
   show l.foldl (fun n b => n * 256 + b.toNat) (0 * 256 + b.toNat) = _
   rw [ih, Nat.zero_mul, Nat.zero_add]
  rw [List.foldl_cons, ih, e, List.length_cons, Nat.pow_succ, Nat.add_mul, Nat.mul_assoc, Nat.mul_comm 256, Nat.add_assoc]
theorem numB_app (p q : List (BitVec 8)) : numB (p ++ q) = numB p * 256 ^ q.length + numB q := by
 rw [numB, List.foldl_append, fold_mul]; rfl
theorem numB_cons (b : BitVec 8) (q : List (BitVec 8)) : numB (b :: q) = b.toNat * 256 ^ q.length + numB q := by
 rw [numB, List.foldl_cons, fold_mul, Nat.zero_mul, Nat.zero_add]
theorem numB_lt (l : List (BitVec 8)) : numB l < 256 ^ l.length := by
 induction l with
 | nil => simp [numB]
 | cons b l ih =>
  rw [numB_cons, List.length_cons, Nat.pow_succ]
  have := b.isLt
  have h2 : b.toNat * 256 ^ l.length ≤ 255 * 256 ^ l.length := Nat.mul_le_mul_right _ (by omega)
  omega
theorem numW_app1 (p : List (BitVec 32)) (w : BitVec 32) : numW (p ++ [w]) = numW p * 4294967296 + w.toNat := by simp [numW]
theorem foldW_mul (l : List (BitVec 32)) : ∀ n, l.foldl (fun n w => n * 4294967296 + w.toNat) n = n * 4294967296 ^ l.length + numW l := by
 induction l with
 | nil => intro n; simp [numW]
 | cons b l ih =>
  intro n
  have e : numW (b :: l) = b.toNat * 4294967296 ^ l.length + numW l := by
   show l.foldl (fun n w => n * 4294967296 + w.toNat) (0 * 4294967296 + b.toNat) = _
   rw [ih, Nat.zero_mul, Nat.zero_add]
  rw [List.foldl_cons, ih, e, List.length_cons, Nat.pow_succ, Nat.add_mul, Nat.mul_assoc, Nat.mul_comm 4294967296, Nat.add_assoc]
theorem numW_app (p q : List (BitVec 32)) : numW (p ++ q) = numW p * 4294967296 ^ q.length + numW q := by
 rw [numW, List.foldl_append, foldW_mul]; rfl
theorem numW_lt (l : List (BitVec 32)) : numW l < 4294967296 ^ l.length := by
 induction l with
 | nil => simp [numW]
 | cons b l ih =>
  have e : numW (b :: l) = b.toNat * 4294967296 ^ l.length + numW l := by rw [numW, List.foldl_cons, foldW_mul, Nat.zero_mul, Nat.zero_add]
  rw [e, List.length_cons, Nat.pow_succ]
  have := b.isLt
  have h2 : b.toNat * 4294967296 ^ l.length ≤ 4294967295 * 4294967296 ^ l.length := Nat.mul_le_mul_right _ (by omega)
  omega
theorem shr_cut (X Y k : Nat) (h : Y < 2 ^ k) : (X * 2 ^ k + Y) >>> k = X := by
 rw [Nat.shiftRight_eq_div_pow, Nat.add_comm, Nat.add_mul_div_right _ _ (Nat.pow_pos (by decide)), Nat.div_eq_of_lt h, Nat.zero_add]
theorem wN_numW (p q : List (BitVec 32)) (w : BitVec 32) (k : Nat) (hk : k = 32 * q.length) : wN (numW (p ++ w :: q)) k = w.toNat := by
 have e : (4294967296 : Nat) ^ q.length = 2 ^ k := by rw [hk, Nat.pow_mul]
 have hl := numW_lt q
 rw [e] at hl
 rw [show p ++ w :: q = (p ++ [w]) ++ q by simp, numW_app, numW_app1, e, wN, shr_cut _ _ _ hl]
 have := w.isLt
 omega
theorem cutB (p b q : List (BitVec 8)) (k : Nat) (hk : k = 8 * q.length) : (numB (p ++ b ++ q) >>> k) % 256 ^ b.length = numB b := by
 have e : (256 : Nat) ^ q.length = 2 ^ k := by rw [hk, Nat.pow_mul]
 have hl := numB_lt q
 rw [e] at hl
 rw [numB_app, numB_app, e, shr_cut _ _ _ hl, Nat.add_comm, Nat.add_mul_mod_self_right, Nat.mod_eq_of_lt (numB_lt b)]
theorem numB_four (a b c d : BitVec 8) : numB [a, b, c, d] = (numS [a, b, c, d]).toNat := by
 have ha := a.isLt
 have hb := b.isLt
 have hc := c.isLt
 have hd := d.isLt
 have e : ∀ (x : BitVec 8) (k : Nat), k ≤ 24 → (x.setWidth 32 <<< k).toNat = x.toNat * 2 ^ k := by
  intro x k hk
  have hx := x.isLt
  rw [BitVec.toNat_shiftLeft, BitVec.toNat_setWidth, Nat.shiftLeft_eq, Nat.mod_eq_of_lt (a := x.toNat) (by omega)]
  apply Nat.mod_eq_of_lt
  calc x.toNat * 2 ^ k < 2 ^ 8 * 2 ^ k := Nat.mul_lt_mul_of_pos_right hx (Nat.pow_pos (by decide))
   _ ≤ 2 ^ 8 * 2 ^ 24 := Nat.mul_le_mul_left _ (Nat.pow_le_pow_right (by decide) hk)
   _ = 2 ^ 32 := by decide
 have e8 : ∀ (x : BitVec 8), (x.setWidth 32).toNat = x.toNat := fun x => by
  have := x.isLt
  rw [BitVec.toNat_setWidth, Nat.mod_eq_of_lt (by omega)]
 have o : ∀ (x y k : Nat), y < 2 ^ k → (x * 2 ^ k) ||| y = x * 2 ^ k + y := fun x y k h => by
  rw [Nat.mul_comm, ← Nat.two_pow_add_eq_or_of_lt h]
 show numB [a, b, c, d] = (a.setWidth 32 <<< 24 ||| b.setWidth 32 <<< 16 ||| c.setWidth 32 <<< 8 ||| d.setWidth 32).toNat
 rw [BitVec.toNat_or, BitVec.toNat_or, BitVec.toNat_or, e a 24 (by decide), e b 16 (by decide), e c 8 (by decide), e8 d, o _ (b.toNat * 2 ^ 16) 24 (by omega)]
 rw [show a.toNat * 2 ^ 24 + b.toNat * 2 ^ 16 = (a.toNat * 256 + b.toNat) * 2 ^ 16 by omega, o _ (c.toNat * 2 ^ 8) 16 (by omega)]
 rw [show (a.toNat * 256 + b.toNat) * 2 ^ 16 + c.toNat * 2 ^ 8 = ((a.toNat * 256 + b.toNat) * 256 + c.toNat) * 2 ^ 8 by omega, o _ d.toNat 8 (by omega)]
 simp only [numB, List.foldl_cons, List.foldl_nil]
 omega
theorem numB_wordB (x : BitVec 32) : numB (wordB x) = x.toNat := by
 have hx := x.isLt
 simp only [wordB, numB, List.foldl_cons, List.foldl_nil, BitVec.toNat_setWidth, BitVec.toNat_ushiftRight, Nat.shiftRight_eq_div_pow]
 omega
theorem numB_digS (w : List (BitVec 32)) : numB (digS w) = numW w := by
 induction w with
 | nil => rfl
 | cons x w ih =>
  have e : numW (x :: w) = x.toNat * 4294967296 ^ w.length + numW w := by rw [numW, List.foldl_cons, foldW_mul, Nat.zero_mul, Nat.zero_add]
  have e2 : (256 : Nat) ^ (4 * w.length) = 4294967296 ^ w.length := by rw [Nat.pow_mul]
  show numB (wordB x ++ digS w) = _
  rw [numB_app, ih, numB_wordB, digS_len, e2, e]
theorem wN_numB (b : List (BitVec 8)) (hb : b.length = 64) (i : Nat) (hi : i < 16) : wN (numB b) (480 - 32 * i) = (WW b i).toNat := by
 have hw : WW b i = numS ((b.drop (4 * i)).take 4) := by
  rw [← WW_get b 0 i (by omega) (by omega)]
  show (words 16 b).getD i 0#32 = _
  simp [words, List.getD, hi]
 have h4 : ((b.drop (4 * i)).take 4).length = 4 := by rw [List.length_take, List.length_drop]; omega
 obtain ⟨x0, x1, x2, x3, hx⟩ : ∃ x0 x1 x2 x3, (b.drop (4 * i)).take 4 = [x0, x1, x2, x3] := by
  match (b.drop (4 * i)).take 4, h4 with
  | [x0, x1, x2, x3], _ => exact ⟨x0, x1, x2, x3, rfl⟩
 have hsp : b.take (4 * i) ++ (b.drop (4 * i)).take 4 ++ b.drop (4 * i + 4) = b := by
  rw [List.append_assoc, ← List.drop_drop, List.take_append_drop, List.take_append_drop]
 have := cutB (b.take (4 * i)) ((b.drop (4 * i)).take 4) (b.drop (4 * i + 4)) (480 - 32 * i) (by rw [List.length_drop]; omega)
 rw [hsp, h4, hx, numB_four] at this
 rw [hw, hx, ← this]
 rfl
set_option maxHeartbeats 1000000 in
theorem pressN_eq (H : List (BitVec 32)) (b : List (BitVec 8)) (hH : H.length = 8) (hb : b.length = 64) : pressN (numW H) (numB b) = numW (pressS H b) := by
 obtain ⟨h0, h1, h2, h3, h4, h5, h6, h7, rfl⟩ := eight hH
 have g := goN_eq b h0 h1 h2 h3 h4 h5 h6 h7 roundsL 0 h0 h1 h2 h3 h4 h5 h6 h7 (by decide)
 have hr := rndF_rnds b [h0, h1, h2, h3, h4, h5, h6, h7] 64 0 (by decide)
 rw [List.drop_zero] at hr
 have hr2 : rndF b roundsL 0 [h0, h1, h2, h3, h4, h5, h6, h7] = rnds (schW b) 64 [h0, h1, h2, h3, h4, h5, h6, h7] := hr
 rw [hr2] at g
 rw [pressS, ← g, ← rounds_eq]
 unfold pressN
 simp only [nF_eq]
 have u0 : wN (numW [h0, h1, h2, h3, h4, h5, h6, h7]) 224 = h0.toNat := wN_numW [] [h1, h2, h3, h4, h5, h6, h7] h0 224 rfl
 have u1 : wN (numW [h0, h1, h2, h3, h4, h5, h6, h7]) 192 = h1.toNat := wN_numW [h0] [h2, h3, h4, h5, h6, h7] h1 192 rfl
 have u2 : wN (numW [h0, h1, h2, h3, h4, h5, h6, h7]) 160 = h2.toNat := wN_numW [h0, h1] [h3, h4, h5, h6, h7] h2 160 rfl
 have u3 : wN (numW [h0, h1, h2, h3, h4, h5, h6, h7]) 128 = h3.toNat := wN_numW [h0, h1, h2] [h4, h5, h6, h7] h3 128 rfl
 have u4 : wN (numW [h0, h1, h2, h3, h4, h5, h6, h7]) 96 = h4.toNat := wN_numW [h0, h1, h2, h3] [h5, h6, h7] h4 96 rfl
 have u5 : wN (numW [h0, h1, h2, h3, h4, h5, h6, h7]) 64 = h5.toNat := wN_numW [h0, h1, h2, h3, h4] [h6, h7] h5 64 rfl
 have u6 : wN (numW [h0, h1, h2, h3, h4, h5, h6, h7]) 32 = h6.toNat := wN_numW [h0, h1, h2, h3, h4, h5] [h7] h6 32 rfl
 have u7 : wN (numW [h0, h1, h2, h3, h4, h5, h6, h7]) 0 = h7.toNat := wN_numW [h0, h1, h2, h3, h4, h5, h6] [] h7 0 rfl
 rw [u0, u1, u2, u3, u4, u5, u6, u7]
 have w := wN_numB b hb
 have v0 : wN (numB b) 480 = (WW b 0).toNat := w 0 (by decide)
 have v1 : wN (numB b) 448 = (WW b 1).toNat := w 1 (by decide)
 have v2 : wN (numB b) 416 = (WW b 2).toNat := w 2 (by decide)
 have v3 : wN (numB b) 384 = (WW b 3).toNat := w 3 (by decide)
 have v4 : wN (numB b) 352 = (WW b 4).toNat := w 4 (by decide)
 have v5 : wN (numB b) 320 = (WW b 5).toNat := w 5 (by decide)
 have v6 : wN (numB b) 288 = (WW b 6).toNat := w 6 (by decide)
 have v7 : wN (numB b) 256 = (WW b 7).toNat := w 7 (by decide)
 have v8 : wN (numB b) 224 = (WW b 8).toNat := w 8 (by decide)
 have v9 : wN (numB b) 192 = (WW b 9).toNat := w 9 (by decide)
 have v10 : wN (numB b) 160 = (WW b 10).toNat := w 10 (by decide)
 have v11 : wN (numB b) 128 = (WW b 11).toNat := w 11 (by decide)
 have v12 : wN (numB b) 96 = (WW b 12).toNat := w 12 (by decide)
 have v13 : wN (numB b) 64 = (WW b 13).toNat := w 13 (by decide)
 have v14 : wN (numB b) 32 = (WW b 14).toNat := w 14 (by decide)
 have v15 : wN (numB b) 0 = (WW b 15).toNat := w 15 (by decide)
 rw [v0, v1, v2, v3, v4, v5, v6, v7, v8, v9, v10, v11, v12, v13, v14, v15]
noncomputable def foldP (N : Nat) : Nat → Nat → Nat
 | 0, H => H
 | m + 1, H => nF (pressN H ((N >>> (512 * m)) % 13407807929942597099574024998205846127479365820592393377723561443721764030073546976801874298166903427690031858186486050853753882811946569946433649006084096)) (foldP N m)
theorem foldP_eq (p : List (BitVec 8)) (M : Nat) (hM : (textS p).length = 64 * M) : ∀ m, m ≤ M → foldP (numB (textS p)) m (numW (blkH p (M - m))) = numW (blkH p M) := by
 intro m
 induction m with
 | zero => intro _; rfl
 | succ m ih =>
  intro h
  have hj : M - (m + 1) + 1 = M - m := by omega
  have hs := blkH_succ p (M - (m + 1)) (by omega)
  rw [hj] at hs
  have hl := blkH_len p (M - (m + 1)) (by omega)
  have hbl : (((textS p).drop (64 * (M - (m + 1)))).take 64).length = 64 := by rw [List.length_take, List.length_drop]; omega
  have hsp : (textS p).take (64 * (M - (m + 1))) ++ ((textS p).drop (64 * (M - (m + 1)))).take 64 ++ (textS p).drop (64 * (M - (m + 1)) + 64) = textS p := by
   rw [List.append_assoc, ← List.drop_drop, List.take_append_drop, List.take_append_drop]
  have hc := cutB ((textS p).take (64 * (M - (m + 1)))) (((textS p).drop (64 * (M - (m + 1)))).take 64) ((textS p).drop (64 * (M - (m + 1)) + 64)) (512 * m) (by rw [List.length_drop]; omega)
  rw [hsp, hbl] at hc
  have e256 : (256 : Nat) ^ 64 = 13407807929942597099574024998205846127479365820592393377723561443721764030073546976801874298166903427690031858186486050853753882811946569946433649006084096 := by decide
  rw [e256] at hc
  rw [foldP, nF_eq, hc, pressN_eq _ _ hl hbl, ← hs]
  exact ih (by omega)
theorem sumN_eq (p : List (BitVec 8)) (M : Nat) (hM : (textS p).length = 64 * M) : numB (sumS p) = foldP (numB (textS p)) M firstN := by
 have h := foldP_eq p M hM M (Nat.le_refl _)
 rw [Nat.sub_self] at h
 have hf : numW (blkH p 0) = firstN := by
  have : blkH p 0 = firstL := rfl
  rw [this]; rfl
 rw [hf] at h
 rw [h, ← numB_digS]
 rcases sumS_eq p with e | e
 ·rw [e, hM, Nat.mul_div_cancel_left _ (by decide)]
 ·exact absurd (by rw [hM]; exact Nat.mul_mod_right _ _) e
def be2 (n : Nat) : List (BitVec 8) := [BitVec.ofNat 8 (n / 256), BitVec.ofNat 8 n]
def stepS (id : List (BitVec 8)) (q : BitVec 32) (i j : Nat) (x : List (BitVec 8)) : List (BitVec 8) := sumS (id ++ wordB q ++ be2 i ++ [BitVec.ofNat 8 j] ++ x)
theorem stepS_len (id : List (BitVec 8)) (q : BitVec 32) (i j : Nat) (x : List (BitVec 8)) : (stepS id q i j x).length = 32 := sumS_len _
def chS (id : List (BitVec 8)) (q : BitVec 32) (i : Nat) : Nat → Nat → List (BitVec 8) → List (BitVec 8)
 | 0, _, x => x
 | n + 1, a, x => chS id q i n (a + 1) (stepS id q i a x)
theorem chS_len (id : List (BitVec 8)) (q : BitVec 32) (i : Nat) : ∀ (n a : Nat) (x : List (BitVec 8)), x.length = 32 → (chS id q i n a x).length = 32
 | 0, _, x, h => h
 | n + 1, a, x, _ => chS_len id q i n (a + 1) _ (stepS_len _ _ _ _ _)
theorem chS_add (id : List (BitVec 8)) (q : BitVec 32) (i m : Nat) : ∀ (n a : Nat) (x : List (BitVec 8)), chS id q i (n + m) a x = chS id q i m (a + n) (chS id q i n a x)
 | 0, a, x => by rw [Nat.zero_add]; rfl
 | n + 1, a, x => by
  rw [show n + 1 + m = (n + m) + 1 by omega]
  show chS id q i (n + m) (a + 1) (stepS id q i a x) = chS id q i m (a + (n + 1)) (chS id q i n (a + 1) (stepS id q i a x))
  rw [chS_add id q i m n (a + 1), show a + 1 + n = a + (n + 1) by omega]
theorem chS_succ (id : List (BitVec 8)) (q : BitVec 32) (i n a : Nat) (x : List (BitVec 8)) : chS id q i (n + 1) a x = stepS id q i (a + n) (chS id q i n a x) := chS_add id q i 1 n a x
def secS (id : List (BitVec 8)) (q : BitVec 32) (i : Nat) (seed : List (BitVec 8)) : List (BitVec 8) := stepS id q i 255 seed
def foldS (id : List (BitVec 8)) (q : BitVec 32) (l : List (List (BitVec 8))) : List (BitVec 8) := sumS (id ++ wordB q ++ be2 32896 ++ l.flatten)
def endsS (id : List (BitVec 8)) (q : BitVec 32) (seed : List (BitVec 8)) (e n : Nat) : List (List (BitVec 8)) := (List.range n).map fun i => chS id q i e 0 (secS id q i seed)
def baseN (id q i : Nat) : Nat := ((id * 4294967296 + q) * 65536 + i) * 139984046386112763159840142535527767382602843577165595931249318810236991948760059086304843329475444736 + 2361183241434822607288
noncomputable def stN (base j x : Nat) : Nat := pressN firstN (base + j * 546812681195752981093125556779405341338292357723303109106442651602488249799843980805878294255763456 + x * 4722366482869645213696)
noncomputable def chN (base : Nat) : Nat → Nat → Nat → Nat
 | 0, _, x => x
 | n + 1, j, x => nF (stN base j x) fun y => chN base n (j + 1) y
theorem numB_be2 (i : Nat) (h : i < 65536) : numB (be2 i) = i := by
 simp only [be2, numB, List.foldl_cons, List.foldl_nil, BitVec.toNat_ofNat]
 omega
theorem pad55 : numB (padS 55#64) = 2361183241434822607288 := by kernel_rfl
theorem pad55_len : (padS 55#64).length = 9 := by kernel_rfl
theorem stN_eq (id : List (BitVec 8)) (q : BitVec 32) (i j : Nat) (x : List (BitVec 8)) (hid : id.length = 16) (hi : i < 65536) (hj : j < 256) (hx : x.length = 32) :
  numB (stepS id q i j x) = stN (baseN (numB id) q.toNat i) j (numB x) := by
 have hl : (id ++ wordB q ++ be2 i ++ [BitVec.ofNat 8 j] ++ x).length = 55 := by simp [hid, hx, wordB, be2]
 have ht : textS (id ++ wordB q ++ be2 i ++ [BitVec.ofNat 8 j] ++ x) = id ++ wordB q ++ be2 i ++ [BitVec.ofNat 8 j] ++ x ++ padS 55#64 := by rw [textS, hl]
 have h := sumN_eq (id ++ wordB q ++ be2 i ++ [BitVec.ofNat 8 j] ++ x) 1 (by rw [ht, List.length_append, hl, pad55_len])
 rw [stepS, h, ht]
 have hlt : numB (id ++ wordB q ++ be2 i ++ [BitVec.ofNat 8 j] ++ x ++ padS 55#64) < 13407807929942597099574024998205846127479365820592393377723561443721764030073546976801874298166903427690031858186486050853753882811946569946433649006084096 := by
  have := numB_lt (id ++ wordB q ++ be2 i ++ [BitVec.ofNat 8 j] ++ x ++ padS 55#64)
  rw [List.length_append, hl, pad55_len] at this
  exact this
 have hz : ∀ N : Nat, N >>> (512 * 0) = N := fun N => rfl
 rw [foldP, nF_eq, hz, Nat.mod_eq_of_lt hlt, foldP, stN]
 congr 1
 have h1 : numB [BitVec.ofNat 8 j] = j := by
  simp only [numB, List.foldl_cons, List.foldl_nil, BitVec.toNat_ofNat]
  omega
 have hL : (padS 55#64).length = 9 := pad55_len
 have e32 : (256 : Nat) ^ 32 = 115792089237316195423570985008687907853269984665640564039457584007913129639936 := by decide
 have e9 : (256 : Nat) ^ 9 = 4722366482869645213696 := by decide
 have h4 : (wordB q).length = 4 := rfl
 have h2 : (be2 i).length = 2 := rfl
 have h11 : [BitVec.ofNat 8 j].length = 1 := rfl
 rw [numB_app, numB_app, numB_app, numB_app, numB_app, numB_wordB, numB_be2 i hi, h1, hx, hL, h4, h2, h11, pad55, baseN, e32, e9]
 generalize numB x = X
 generalize numB id = I
 generalize q.toNat = Q
 omega
theorem chN_eq2 (id : List (BitVec 8)) (q : BitVec 32) (i : Nat) (hid : id.length = 16) (hi : i < 65536) : ∀ (n a : Nat) (x : List (BitVec 8)), a + n ≤ 256 → x.length = 32 → numB (chS id q i n a x) = chN (baseN (numB id) q.toNat i) n a (numB x)
 | 0, _, x, _, _ => rfl
 | n + 1, a, x, h, hx => by
  rw [chN, nF_eq, ← stN_eq id q i a x hid hi (by omega) hx, chS]
  exact chN_eq2 id q i hid hi n (a + 1) _ (by omega) (stepS_len _ _ _ _ _)
noncomputable def endN (I Q seed e : Nat) : Nat → Nat → Nat → Nat
 | 0, _, acc => acc
 | m + 1, i, acc => nF (baseN I Q i) fun b => nF (stN b 255 seed) fun s => nF (chN b e 0 s) fun x => nF (acc * 115792089237316195423570985008687907853269984665640564039457584007913129639936 + x) fun acc => endN I Q seed e m (i + 1) acc
theorem endN_eq (id : List (BitVec 8)) (q : BitVec 32) (seed : List (BitVec 8)) (e : Nat) (he : e ≤ 256) (hid : id.length = 16) (hs : seed.length = 32) : ∀ (m i : Nat) (p : List (BitVec 8)), i + m ≤ 65536 →
  endN (numB id) q.toNat (numB seed) e m i (numB p) = numB (p ++ ((List.range' i m).map fun i => chS id q i e 0 (secS id q i seed)).flatten)
 | 0, i, p, _ => by simp [endN]
 | m + 1, i, p, h => by
  have hsec : (secS id q i seed).length = 32 := stepS_len _ _ _ _ _
  have hc := chS_len id q i e 0 _ hsec
  have e32 : (256 : Nat) ^ 32 = 115792089237316195423570985008687907853269984665640564039457584007913129639936 := by decide
  rw [endN, nF_eq, nF_eq, nF_eq, nF_eq, ← stN_eq id q i 255 seed hid (by omega) (by decide) hs, show stepS id q i 255 seed = secS id q i seed from rfl, ← chN_eq2 id q i hid (by omega) e 0 _ (by omega) hsec]
  have ha : numB p * 115792089237316195423570985008687907853269984665640564039457584007913129639936 + numB (chS id q i e 0 (secS id q i seed)) = numB (p ++ chS id q i e 0 (secS id q i seed)) := by rw [numB_app, hc, e32]
  rw [ha, endN_eq id q seed e he hid hs m (i + 1) _ (by omega), List.range'_succ, List.map_cons, List.flatten_cons, List.append_assoc]
def zid : List (BitVec 8) := List.replicate 16 0#8
def seed1 : List (BitVec 8) := 1#8 :: List.replicate 31 0#8
theorem ends_len (id : List (BitVec 8)) (q : BitVec 32) (seed : List (BitVec 8)) (e n : Nat) : ∀ x ∈ endsS id q seed e n, x.length = 32 := by
 intro x hx
 obtain ⟨i, -, rfl⟩ := List.mem_map.1 hx
 exact chS_len _ _ _ _ _ _ (stepS_len _ _ _ _ _)
def gn4 {α β γ δ : Type} (r0 : D → Option α) (r1 : D → Option β) (r2 : D → Option γ) (r3 : D → Option δ) (pre : α → β → γ → δ → Bool) (out : α → β → γ → δ → D × Rows) : Fn
 | [d0, d1, d2, d3], [] => match r0 d0, r1 d1, r2 d2, r3 d3 with
  | some x0, some x1, some x2, some x3 => bif pre x0 x1 x2 x3 then some (out x0 x1 x2 x3) else none
  | _, _, _, _ => none
 | _, _ => none
theorem gn4_some {α β γ δ : Type} {r0 : D → Option α} {r1 : D → Option β} {r2 : D → Option γ} {r3 : D → Option δ} {pre : α → β → γ → δ → Bool} {out : α → β → γ → δ → D × Rows} {ds : List D} {rows : Rows} {r : D × Rows} (h : gn4 r0 r1 r2 r3 pre out ds rows = some r) :
  ∃ d0 d1 d2 d3 x0 x1 x2 x3, ds = [d0, d1, d2, d3] ∧ rows = [] ∧ r0 d0 = some x0 ∧ r1 d1 = some x1 ∧ r2 d2 = some x2 ∧ r3 d3 = some x3 ∧ pre x0 x1 x2 x3 = true ∧ r = out x0 x1 x2 x3 := by
 unfold gn4 at h
 split at h
 ·rename_i d0 d1 d2 d3
  split at h
  ·rename_i x0 x1 x2 x3 h0 h1 h2 h3
   cases hp : pre x0 x1 x2 x3 with
   | false => rw [hp] at h; cases h
   | true => rw [hp] at h; cases h; exact ⟨d0, d1, d2, d3, x0, x1, x2, x3, rfl, rfl, h0, h1, h2, h3, hp, rfl⟩
  ·cases h
 ·cases h
theorem gn4_eq {α β γ δ : Type} {r0 : D → Option α} {r1 : D → Option β} {r2 : D → Option γ} {r3 : D → Option δ} {pre : α → β → γ → δ → Bool} {out : α → β → γ → δ → D × Rows} {d0 d1 d2 d3 : D} {x0 : α} {x1 : β} {x2 : γ} {x3 : δ} (h0 : r0 d0 = some x0) (h1 : r1 d1 = some x1) (h2 : r2 d2 = some x2) (h3 : r3 d3 = some x3) (hp : pre x0 x1 x2 x3 = true) :
  gn4 r0 r1 r2 r3 pre out [d0, d1, d2, d3] [] = some (out x0 x1 x2 x3) := by
 simp [gn4, h0, h1, h2, h3, hp]
theorem kCall_g4 {α β γ δ : Type} {r0 : D → Option α} {r1 : D → Option β} {r2 : D → Option γ} {r3 : D → Option δ} {pre : α → β → γ → δ → Bool} {out : α → β → γ → δ → D × Rows} {rows : Rows} {d0 d1 d2 d3 : D} {x0 : α} {x1 : β} {x2 : γ} {x3 : δ} (h0 : RdIn rows r0 d0 x0) (h1 : RdIn rows r1 d1 x1) (h2 : RdIn rows r2 d2 x2) (h3 : RdIn rows r3 d3 x3) (hp : pre x0 x1 x2 x3 = true)
  (hr : (noLst (out x0 x1 x2 x3).1 && noLstRows (out x0 x1 x2 x3).2) = true) (k : D → Rows → Prop) :
  kCall (gn4 r0 r1 r2 r3 pre out) rows k [d0, d1, d2, d3] = k (shift rows.length (out x0 x1 x2 x3).1) (rows ++ shiftRows rows.length (out x0 x1 x2 x3).2) := by
 obtain ⟨⟨y0, a0, b0⟩, c0⟩ := h0
 obtain ⟨⟨y1, a1, b1⟩, c1⟩ := h1
 obtain ⟨⟨y2, a2, b2⟩, c2⟩ := h2
 obtain ⟨⟨y3, a3, b3⟩, c3⟩ := h3
 refine kCall_rd (ds' := [y0, y1, y2, y3]) (by simp only [mapO, a0, a1, a2, a3]) (gn4_eq b0 b1 b2 b3 hp) (fun hh => ?_) hr
 simp only [hasRefL, Bool.or_eq_false_iff, and_true] at hh
 exact gn4_eq (c0 hh.1) (c1 hh.2.1) (c2 hh.2.2.1) (c3 hh.2.2.2) hp
def gn5 {α β γ δ ε : Type} (r0 : D → Option α) (r1 : D → Option β) (r2 : D → Option γ) (r3 : D → Option δ) (r4 : D → Option ε) (pre : α → β → γ → δ → ε → Bool) (out : α → β → γ → δ → ε → D × Rows) : Fn
 | [d0, d1, d2, d3, d4], [] => match r0 d0, r1 d1, r2 d2, r3 d3, r4 d4 with
  | some x0, some x1, some x2, some x3, some x4 => bif pre x0 x1 x2 x3 x4 then some (out x0 x1 x2 x3 x4) else none
  | _, _, _, _, _ => none
 | _, _ => none
theorem gn5_some {α β γ δ ε : Type} {r0 : D → Option α} {r1 : D → Option β} {r2 : D → Option γ} {r3 : D → Option δ} {r4 : D → Option ε} {pre : α → β → γ → δ → ε → Bool} {out : α → β → γ → δ → ε → D × Rows} {ds : List D} {rows : Rows} {r : D × Rows} (h : gn5 r0 r1 r2 r3 r4 pre out ds rows = some r) :
  ∃ d0 d1 d2 d3 d4 x0 x1 x2 x3 x4, ds = [d0, d1, d2, d3, d4] ∧ rows = [] ∧ r0 d0 = some x0 ∧ r1 d1 = some x1 ∧ r2 d2 = some x2 ∧ r3 d3 = some x3 ∧ r4 d4 = some x4 ∧ pre x0 x1 x2 x3 x4 = true ∧ r = out x0 x1 x2 x3 x4 := by
 unfold gn5 at h
 split at h
 ·rename_i d0 d1 d2 d3 d4
  split at h
  ·rename_i x0 x1 x2 x3 x4 h0 h1 h2 h3 h4
   cases hp : pre x0 x1 x2 x3 x4 with
   | false => rw [hp] at h; cases h
   | true => rw [hp] at h; cases h; exact ⟨d0, d1, d2, d3, d4, x0, x1, x2, x3, x4, rfl, rfl, h0, h1, h2, h3, h4, hp, rfl⟩
  ·cases h
 ·cases h
theorem gn5_eq {α β γ δ ε : Type} {r0 : D → Option α} {r1 : D → Option β} {r2 : D → Option γ} {r3 : D → Option δ} {r4 : D → Option ε} {pre : α → β → γ → δ → ε → Bool} {out : α → β → γ → δ → ε → D × Rows} {d0 d1 d2 d3 d4 : D} {x0 : α} {x1 : β} {x2 : γ} {x3 : δ} {x4 : ε} (h0 : r0 d0 = some x0) (h1 : r1 d1 = some x1) (h2 : r2 d2 = some x2) (h3 : r3 d3 = some x3) (h4 : r4 d4 = some x4) (hp : pre x0 x1 x2 x3 x4 = true) :
  gn5 r0 r1 r2 r3 r4 pre out [d0, d1, d2, d3, d4] [] = some (out x0 x1 x2 x3 x4) := by
 simp [gn5, h0, h1, h2, h3, h4, hp]
theorem kCall_g5 {α β γ δ ε : Type} {r0 : D → Option α} {r1 : D → Option β} {r2 : D → Option γ} {r3 : D → Option δ} {r4 : D → Option ε} {pre : α → β → γ → δ → ε → Bool} {out : α → β → γ → δ → ε → D × Rows} {rows : Rows} {d0 d1 d2 d3 d4 : D} {x0 : α} {x1 : β} {x2 : γ} {x3 : δ} {x4 : ε} (h0 : RdIn rows r0 d0 x0) (h1 : RdIn rows r1 d1 x1) (h2 : RdIn rows r2 d2 x2) (h3 : RdIn rows r3 d3 x3) (h4 : RdIn rows r4 d4 x4) (hp : pre x0 x1 x2 x3 x4 = true)
  (hr : (noLst (out x0 x1 x2 x3 x4).1 && noLstRows (out x0 x1 x2 x3 x4).2) = true) (k : D → Rows → Prop) :
  kCall (gn5 r0 r1 r2 r3 r4 pre out) rows k [d0, d1, d2, d3, d4] = k (shift rows.length (out x0 x1 x2 x3 x4).1) (rows ++ shiftRows rows.length (out x0 x1 x2 x3 x4).2) := by
 obtain ⟨⟨y0, a0, b0⟩, c0⟩ := h0
 obtain ⟨⟨y1, a1, b1⟩, c1⟩ := h1
 obtain ⟨⟨y2, a2, b2⟩, c2⟩ := h2
 obtain ⟨⟨y3, a3, b3⟩, c3⟩ := h3
 obtain ⟨⟨y4, a4, b4⟩, c4⟩ := h4
 refine kCall_rd (ds' := [y0, y1, y2, y3, y4]) (by simp only [mapO, a0, a1, a2, a3, a4]) (gn5_eq b0 b1 b2 b3 b4 hp) (fun hh => ?_) hr
 simp only [hasRefL, Bool.or_eq_false_iff, and_true] at hh
 exact gn5_eq (c0 hh.1) (c1 hh.2.1) (c2 hh.2.2.1) (c3 hh.2.2.2.1) (c4 hh.2.2.2.2) hp
end Job
end Go.Am
namespace Go.Am
set_option linter.unusedSimpArgs false
set_option linter.unusedVariables false
attribute [local congr] bnd_congr kCond_congr kGd_congr kPick_congr kCall_congr kIdx_congr kSlice_congr kLoop_congr cond_congr' aBin_congr aBounds_congr aApp_congr aCopy_congr kFn_congr
namespace Job
open Go.Am.F
set_option maxRecDepth 10000
abbrev SPar : Sh := .cons LI (.cons LI (.cons LI .nil))
theorem u32_inj {x y : BitVec 32} (h : u32 x = u32 y) : x = y := by
 injection h with _ h
 exact BitVec.eq_of_toNat_eq (by omega)
def wT (t : Nat) : Nat := if t = 1 then 1 else if t = 2 then 2 else if t = 3 then 4 else if t = 4 then 8 else 0
def pT (t : Nat) : Nat := if t = 1 then 265 else if t = 2 then 133 else if t = 3 then 67 else if t = 4 then 34 else 0
def lT (t : Nat) : Nat := if t = 1 then 7 else if t = 2 then 6 else if t = 3 then 4 else 0
def okT (t : Nat) : Bool := decide (1 ≤ t) && decide (t ≤ 4)
theorem okT_cases {t : BitVec 32} (h : okT t.toNat = true) : t = 1#32 ∨ t = 2#32 ∨ t = 3#32 ∨ t = 4#32 := by
 simp only [okT, Bool.and_eq_true, decide_eq_true_eq] at h
 have : t.toNat = 1 ∨ t.toNat = 2 ∨ t.toNat = 3 ∨ t.toNat = 4 := by omega
 rcases this with h | h | h | h
 ·exact .inl (BitVec.eq_of_toNat_eq h)
 ·exact .inr (.inl (BitVec.eq_of_toNat_eq h))
 ·exact .inr (.inr (.inl (BitVec.eq_of_toNat_eq h)))
 ·exact .inr (.inr (.inr (BitVec.eq_of_toNat_eq h)))
theorem okT_not {t : Nat} (h : okT t = false) : wT t = 0 ∧ pT t = 0 ∧ lT t = 0 := by
 simp only [okT, Bool.and_eq_false_iff, decide_eq_false_iff_not] at h
 refine ⟨?_, ?_, ?_⟩ <;> simp only [wT, pT, lT] <;> (repeat' split) <;> omega
structure Par where
 w : Nat
 p : Nat
 l : Nat
def parD (x : Par) : D := .agg SPar [.raw (it (x.w : Int)), .raw (it (x.p : Int)), .raw (it (x.l : Int))]
theorem it_injN {x y : Nat} (h : it (x : Int) = it (y : Int)) : x = y := by
 injection h with _ h; omega
theorem parD_inj (x y : Par) (h : parD x = parD y) : x = y := by
 obtain ⟨a, b, c⟩ := x
 obtain ⟨d, e, f⟩ := y
 simp only [parD, D.agg.injEq, List.cons.injEq, D.raw.injEq, true_and, and_true] at h
 rw [it_injN h.1, it_injN h.2.1, it_injN h.2.2]
theorem par_fits (x : Par) : (parD x).fits SPar = true := rfl
def parT (t : Nat) : Par := ⟨wT t, pT t, lT t⟩
theorem rdIn_par {rows : Rows} (x : Par) : RdIn rows (rdOf parD) (parD x) x := RdIn.agg rfl (rdOf_eq parD_inj x)
def typesD : D := .agg (.ar 4 SPar) [parD ⟨1, 265, 7⟩, parD ⟨2, 133, 6⟩, parD ⟨4, 67, 4⟩, parD ⟨8, 34, 0⟩]
def fParams : Fn := fn1 rd32 (fun _ => true) fun t => (.tup [parD (parT t.toNat), .raw (.bool (okT t.toNat))], [])
theorem params_ok (C : Ctx) (hC : CtxOK C P) (hg : C.glob 0 = some typesD) : Meets C.glob P 43 (Fn.run fParams) := by
 refine fn_meets (m_ots_Params C hC) fun ds rows r h => ?_
 obtain ⟨d, t, rfl, rfl, hd, hp, rfl⟩ := fn1_some h
 cases rd32_some hd
 refine ⟨rfl, afun_mk rfl ?_⟩
 clear h hd
 unfold a_ots_Params r_ots_Params
 have hz : D.agg SPar [.raw (it 0), .raw (it 0), .raw (it 0)] = parD ⟨0, 0, 0⟩ := rfl
 simp only [hz]
 cases hk : okT t.toNat
 ·obtain ⟨hw, hp, hl⟩ := okT_not hk
  have e : parT t.toNat = ⟨0, 0, 0⟩ := by rw [parT, hw, hp, hl]
  rw [e]
  simp only [okT, Bool.and_eq_false_iff, decide_eq_false_iff_not] at hk
  have h32 := t.isLt
  by_cases c : t < 1#32
  ·have c1 : (t < 1#32) = True := eq_true c
   simp only [↓amD, amU, simprocAttr, zipEnv, amR, par_fits, c1, decide_true]
   exact .val _ rfl
  ·have c1 : (t < 1#32) = False := eq_false c
   have c2 : (4#32 < t) = True := eq_true (by
    rw [BitVec.lt_def] at c ⊢
    have e1 : (1#32).toNat = 1 := rfl
    have e4 : (4#32).toNat = 4 := rfl
    omega)
   simp only [↓amD, amU, simprocAttr, zipEnv, amR, par_fits, c1, c2, decide_true, decide_false]
   exact .val _ rfl
 ·rcases okT_cases hk with rfl | rfl | rfl | rfl
  ·simp only [↓amD, amU, simprocAttr, zipEnv, amR, par_fits, hg, typesD, BitVec.reduceLT, BitVec.reduceSub, BitVec.reduceToNat, decide_true, decide_false]
   exact .val _ rfl
  ·simp only [↓amD, amU, simprocAttr, zipEnv, amR, par_fits, hg, typesD, BitVec.reduceLT, BitVec.reduceSub, BitVec.reduceToNat, decide_true, decide_false]
   exact .val _ rfl
  ·simp only [↓amD, amU, simprocAttr, zipEnv, amR, par_fits, hg, typesD, BitVec.reduceLT, BitVec.reduceSub, BitVec.reduceToNat, decide_true, decide_false]
   exact .val _ rfl
  ·simp only [↓amD, amU, simprocAttr, zipEnv, amR, par_fits, hg, typesD, BitVec.reduceLT, BitVec.reduceSub, BitVec.reduceToNat, decide_true, decide_false]
   exact .val _ rfl
theorem kParams (rows : Rows) (k : D → Rows → Prop) (t : BitVec 32) : kCall fParams rows k [.raw (u32 t)] = k (.tup [parD (parT t.toNat), .raw (.bool (okT t.toNat))]) rows := by
 refine (kCall_rd1 (RdIn.raw (rd32_eq t)) rfl rfl k).trans ?_
 simp [parD, shift, shiftL, shiftRows, Sh.pure]
abbrev SSite : Sh := .cons (.ar 16 L8) (.cons L32 .nil)
structure Site where
 id : List (BitVec 8)
 q : BitVec 32
def siteD (s : Site) : D := .agg SSite [.agg (.ar 16 L8) (bs s.id), .raw (u32 s.q)]
theorem siteD_inj (x y : Site) (h : siteD x = siteD y) : x = y := by
 obtain ⟨a, b⟩ := x
 obtain ⟨c, d⟩ := y
 simp only [siteD, D.agg.injEq, List.cons.injEq, D.raw.injEq, true_and, and_true] at h
 rw [bs_inj h.1, u32_inj h.2]
theorem site_fits (s : Site) : (siteD s).fits SSite = true := rfl
theorem site_pure (s : Site) (rows : Rows) : RdIn rows (rdOf siteD) (siteD s) s := RdIn.agg rfl (rdOf_eq siteD_inj s)
theorem shr_n (m b : Nat) (kd : IntKind) (hb : b ≤ 64) (k : D → Prop) : aBin .shr (it (m : Int)) (.int kd (b : Int)) k = k (.raw (it ((m / 2 ^ b : Nat) : Int))) := by
 have e : (m : Int).fdiv (2 ^ (min (b : Int).toNat IntKind.i64.bits)) = ((m / 2 ^ b : Nat) : Int) := by
  have : min (b : Int).toNat IntKind.i64.bits = b := by show min (b : Int).toNat 64 = b; omega
  rw [this, Int.fdiv_eq_ediv_of_nonneg _ (Int.le_of_lt (Int.pow_pos (by decide)))]
  rw [show ((2 : Int) ^ b) = ((2 ^ b : Nat) : Int) by simp]
  omega
 simp only [aBin, it]
 rw [e]
 simp
def fTwo : Fn := fn1 rdI (fun n => decide (0 ≤ n) && decide (n < 65536)) fun n => outBs (be2 n.toNat) false
theorem two_ok (C : Ctx) (hC : CtxOK C P) : Meets C.glob P 62 (Fn.run fTwo) := by
 refine fn_meets (m_ots_two C hC) fun ds rows r h => ?_
 obtain ⟨d, n, rfl, rfl, hd, hp, rfl⟩ := fn1_some h
 cases rdI_some hd
 simp only [Bool.and_eq_true, decide_eq_true_eq] at hp
 refine ⟨rfl, afun_mk rfl ?_⟩
 clear h hd
 obtain ⟨m, rfl⟩ := Int.eq_ofNat_of_zero_le hp.1
 have hm : m < 65536 := by omega
 unfold a_ots_two r_ots_two
 have e8 : ∀ k, aBin .shr (it (m : Int)) (u64 8#64) k = k (.raw (it ((m / 256 : Nat) : Int))) := fun k => shr_n m 8 .u64 (by decide) k
 have e1 : BitVec.ofInt 8 ((m / 256 : Nat) : Int) = BitVec.ofNat 8 (m / 256) := BitVec.ofInt_natCast _ _
 have e2 : BitVec.ofInt 8 (m : Int) = BitVec.ofNat 8 m := BitVec.ofInt_natCast _ _
 simp only [↓amD, amU, simprocAttr, zipEnv, e8, e1, e2]
 exact .own _ 0 0 2 true false _ rfl rfl (fun h => by cases h)
theorem kTwo (rows : Rows) (k : D → Rows → Prop) (n : Nat) (h : n < 65536) : kCall fTwo rows k [.raw (it (n : Int))] = k (.sl L8 (0 + rows.length) [] 0 2 false) (rows ++ [some ⟨L8, bs (be2 n)⟩]) := by
 refine (kCall_rd1 (RdIn.int _) (by simp; omega) rfl k).trans ?_
 simp [outBs, shift, shiftRows, Sh.pure, be2]
def fFour : Fn := fn1 rd32 (fun _ => true) fun q => outBs (wordB q) false
theorem four_ok (C : Ctx) (hC : CtxOK C P) : Meets C.glob P 60 (Fn.run fFour) := by
 refine fn_meets (m_ots_four C hC) fun ds rows r h => ?_
 obtain ⟨d, n, rfl, rfl, hd, hp, rfl⟩ := fn1_some h
 cases rd32_some hd
 refine ⟨rfl, afun_mk rfl ?_⟩
 clear h hd
 unfold a_ots_four r_ots_four
 simp only [↓amD, amU, simprocAttr, zipEnv]
 exact .own _ 0 0 4 true false _ rfl rfl (fun h => by cases h)
theorem kFour (rows : Rows) (k : D → Rows → Prop) (q : BitVec 32) : kCall fFour rows k [.raw (u32 q)] = k (.sl L8 (0 + rows.length) [] 0 4 false) (rows ++ [some ⟨L8, bs (wordB q)⟩]) := by
 refine (kCall_rd1 (RdIn.raw (rd32_eq q)) rfl rfl k).trans ?_
 simp [outBs, shift, shiftRows, Sh.pure, wordB]
def stZ : St := ⟨List.replicate 8 0#32, List.replicate 64 0#8, 0#64⟩
theorem stZ_eq : D.agg S9 [.agg (.ar 8 L32) (List.replicate 8 (.raw (u32 0#32))), .agg (.ar 64 L8) (List.replicate 64 (.raw (u8 0#8))), .raw (u64 0#64)] = stD stZ := rfl
def frontS (s : Site) : St := feed st0 (s.id ++ wordB s.q)
theorem frontS_ok (s : Site) : (frontS s).ok = true := feed_ok _ _ st0_ok
noncomputable def fFront : Fn := fn1 (rdOf siteD) (fun s => decide (s.id.length = 16)) fun s => (stD (frontS s), [])
theorem front_ok (C : Ctx) (hC : CtxOK C P) (h1 : C.fn 68 = some fNew) (h2 : C.fn 64 = some fFeed) (h3 : C.fn 60 = some fFour) : Meets C.glob P 63 (Fn.run fFront) := by
 refine fn_meets (m_ots_front C hC) fun ds rows r h => ?_
 obtain ⟨d, s, rfl, rfl, hd, hp, rfl⟩ := fn1_some h
 cases rdOf_some hd
 simp only [decide_eq_true_eq] at hp
 refine ⟨rfl, afun_mk rfl ?_⟩
 clear h hd
 unfold a_ots_front r_ots_front
 simp only [stZ_eq]
 have hg0 : (siteD s).get [0] = some (.agg (.ar 16 L8) (bs s.id)) := rfl
 have hg1 : (siteD s).get [1] = some (.raw (u32 s.q)) := rfl
 simp only [↓amD, amU, simprocAttr, zipEnv, amR, site_fits, st_fits, h1, h2, kNew]
 refine Eq.mpr (kFeed _ _ _ _ s.id (BsIn.atAll (n := 16) rfl (by simp only [↓amD, amU, simprocAttr, zipEnv, hg0]) hp) st0_ok) ?_
 have hok1 := feed_ok s.id st0 st0_ok
 have hfr : feed (feed st0 s.id) (wordB s.q) = frontS s := (feed_app _ _ _).symm
 simp only [↓amD, amU, simprocAttr, zipEnv, amR, hg1, h3, kFour, h2]
 refine Eq.mpr (kFeed _ _ _ _ (wordB s.q) (BsIn.own rfl _ rfl) hok1) ?_
 rw [hfr]
 simp only [↓amD, amU, simprocAttr, zipEnv, amR, st_fits]
 exact .val _ rfl
theorem kFront (rows : Rows) (k : D → Rows → Prop) (s : Site) (h : s.id.length = 16) : kCall fFront rows k [siteD s] = k (stD (frontS s)) rows := by
 refine (kCall_rd1 (site_pure s rows) (by simp [h]) rfl k).trans ?_
 simp [stD, shift, shiftRows, Sh.pure]
theorem numq2 (i : Nat) (h : i < 65536) : numL 2 (BitVec.ofNat 64 i) = be2 i := by
 simp only [numL, List.nil_append, List.cons_append, be2, List.cons.injEq, and_true]
 constructor <;> apply BitVec.eq_of_toNat_eq <;> simp [BitVec.toNat_umod, BitVec.toNat_udiv, BitVec.toNat_setWidth] <;> try omega
def inI (i n : Int) : Bool := decide (0 ≤ i) && decide (i < n)
theorem inI_eq {i n : Int} : inI i n = true ↔ 0 ≤ i ∧ i < n := by simp [inI]
noncomputable def fStep : Fn := gn4 (rdOf siteD) rdI rdI (rdOf d32D) (fun s i j x => decide (s.id.length = 16) && inI i 65536 && inI j 256 && decide (x.length = 32)) fun s i j x => (d32D (stepS s.id s.q i.toNat j.toNat x), [])
theorem step_ok (C : Ctx) (hC : CtxOK C P) (h1 : C.fn 63 = some fFront) (h2 : C.fn 62 = some fTwo) (h3 : C.fn 64 = some fFeed) (h4 : C.fn 65 = some fStSum) : Meets C.glob P 66 (Fn.run fStep) := by
 refine fn_meets (m_ots_Step C hC) fun ds rows r h => ?_
 obtain ⟨d0, d1, d2, d3, s, i, j, x, rfl, rfl, g0, g1, g2, g3, hp, rfl⟩ := gn4_some h
 cases rdOf_some g0
 cases rdI_some g1
 cases rdI_some g2
 cases rdOf_some g3
 simp only [Bool.and_eq_true, decide_eq_true_eq, inI_eq] at hp
 obtain ⟨⟨⟨hid, hi⟩, hj⟩, hx⟩ := hp
 refine ⟨rfl, afun_mk rfl ?_⟩
 clear h g0 g1 g2 g3
 obtain ⟨i, rfl⟩ := Int.eq_ofNat_of_zero_le hi.1
 obtain ⟨j, rfl⟩ := Int.eq_ofNat_of_zero_le hj.1
 have hi' : i < 65536 := by omega
 have hj' : j < 256 := by omega
 unfold a_ots_Step r_ots_Step
 simp only [z32_eq]
 have ej : BitVec.ofInt 8 (j : Int) = BitVec.ofNat 8 j := BitVec.ofInt_natCast _ _
 have kT := fun rows k => kTwo rows k i hi'
 simp only [↓amD, amU, simprocAttr, zipEnv, amR, d32D, site_fits, h1, kFront _ _ s hid, h2, kT, h3]
 refine Eq.mpr (kFeed _ _ _ _ (be2 i) (BsIn.own rfl _ rfl) (frontS_ok s)) ?_
 simp only [↓amD, amU, simprocAttr, zipEnv, amR, ej, h3]
 have o1 := feed_ok (be2 i) _ (frontS_ok s)
 refine Eq.mpr (kFeed _ _ _ _ [BitVec.ofNat 8 j] (BsIn.own rfl _ rfl) o1) ?_
 simp only [↓amD, amU, simprocAttr, zipEnv, amR, h3]
 have o2 := feed_ok [BitVec.ofNat 8 j] _ o1
 refine Eq.mpr (kFeed _ _ _ _ x (BsIn.atAll (n := 32) rfl rfl hx) o2) ?_
 have o3 := feed_ok x _ o2
 simp only [↓amD, amU, simprocAttr, zipEnv, amR, h4, kStSum _ _ _ o3]
 have e : sumSt (feed (feed (feed (frontS s) (be2 i)) [BitVec.ofNat 8 j]) x) = stepS s.id s.q i j x := by
  rw [stepS, sumS, frontS, ← feed_app, ← feed_app, ← feed_app]
  simp only [List.append_assoc]
 rw [e]
 exact .val _ rfl
theorem kStep (rows : Rows) (k : D → Rows → Prop) (s : Site) (i j : Nat) (x : List (BitVec 8)) (hid : s.id.length = 16) (hi : i < 65536) (hj : j < 256) (hx : x.length = 32) :
  kCall fStep rows k [siteD s, .raw (it (i : Int)), .raw (it (j : Int)), .agg (.ar 32 L8) (bs x)] = k (.agg (.ar 32 L8) (bs (stepS s.id s.q i j x))) rows := by
 refine (kCall_g4 (site_pure s rows) (RdIn.int _) (RdIn.int _) (rdIn_d32 x) (by simp [hid, hx, inI]; omega) rfl k).trans ?_
 simp [d32D, shift, shiftRows, Sh.pure]
noncomputable def fSecret : Fn := fn3 (rdOf siteD) rdI (rdOf d32D) (fun s i x => decide (s.id.length = 16) && inI i 65536 && decide (x.length = 32)) fun s i x => (d32D (secS s.id s.q i.toNat x), [])
theorem secret_ok (C : Ctx) (hC : CtxOK C P) (h1 : C.fn 66 = some fStep) : Meets C.glob P 56 (Fn.run fSecret) := by
 refine fn_meets (m_ots_Secret C hC) fun ds rows r h => ?_
 obtain ⟨d0, d1, d2, s, i, x, rfl, rfl, g0, g1, g2, hp, rfl⟩ := fn3_some h
 cases rdOf_some g0
 cases rdI_some g1
 cases rdOf_some g2
 simp only [Bool.and_eq_true, decide_eq_true_eq, inI_eq] at hp
 obtain ⟨⟨hid, hi⟩, hx⟩ := hp
 refine ⟨rfl, afun_mk rfl ?_⟩
 clear h g0 g1 g2
 obtain ⟨i, rfl⟩ := Int.eq_ofNat_of_zero_le hi.1
 have hi' : i < 65536 := by omega
 unfold a_ots_Secret r_ots_Secret
 simp only [z32_eq]
 have kS := fun rows k => kStep rows k s i 255 x hid hi' (by decide) hx
 rw [show ((255 : Nat) : Int) = 255 from rfl] at kS
 simp only [↓amD, amU, simprocAttr, zipEnv, amR, d32D, site_fits, h1, kS]
 exact .val _ rfl
theorem kSecret (rows : Rows) (k : D → Rows → Prop) (s : Site) (i : Nat) (x : List (BitVec 8)) (hid : s.id.length = 16) (hi : i < 65536) (hx : x.length = 32) :
  kCall fSecret rows k [siteD s, .raw (it (i : Int)), .agg (.ar 32 L8) (bs x)] = k (.agg (.ar 32 L8) (bs (secS s.id s.q i x))) rows := by
 refine (kCall_rd3 (site_pure s rows) (RdIn.int _) (rdIn_d32 x) (by simp [hid, hx, inI]; omega) rfl k).trans ?_
 simp [d32D, shift, shiftRows, Sh.pure]
noncomputable def fChain : Fn := gn5 (rdOf siteD) rdI rdI rdI (rdOf d32D) (fun s i a b x => decide (s.id.length = 16) && inI i 65536 && inI a 257 && inI b 257 && decide (x.length = 32)) fun s i a b x => (d32D (chS s.id s.q i.toNat (b.toNat - a.toNat) a.toNat x), [])
theorem chain_ok (C : Ctx) (hC : CtxOK C P) (h1 : C.fn 66 = some fStep) : Meets C.glob P 51 (Fn.run fChain) := by
 refine fn_meets (m_ots_Chain C hC) fun ds rows r h => ?_
 obtain ⟨d0, d1, d2, d3, d4, s, i, a, b, x, rfl, rfl, g0, g1, g2, g3, g4, hp, rfl⟩ := gn5_some h
 cases rdOf_some g0
 cases rdI_some g1
 cases rdI_some g2
 cases rdI_some g3
 cases rdOf_some g4
 simp only [Bool.and_eq_true, decide_eq_true_eq, inI_eq] at hp
 obtain ⟨⟨⟨⟨hid, hi⟩, ha⟩, hb⟩, hx⟩ := hp
 refine ⟨rfl, afun_mk rfl ?_⟩
 clear h g0 g1 g2 g3 g4
 obtain ⟨i, rfl⟩ := Int.eq_ofNat_of_zero_le hi.1
 obtain ⟨a, rfl⟩ := Int.eq_ofNat_of_zero_le ha.1
 obtain ⟨b, rfl⟩ := Int.eq_ofNat_of_zero_le hb.1
 have hi' : i < 65536 := by omega
 unfold a_ots_Chain r_ots_Chain
 simp only [z32_eq]
 simp only [↓amD, amU, simprocAttr, zipEnv, amR, d32D, site_fits, h1]
 have em : max (a : Int) 0 = (a : Int) := by omega
 have eb : min (b : Int) 256 = (b : Int) := by omega
 simp only [em]
 refine kLoop_up (b - a) (fun j env rows => has env [(11, .raw (it ((a + j : Nat) : Int))), (10, .ptr (.ar 32 L8) 2 [0]), (9, .ptr (.ar 32 L8) 1 [0]), (5, .ptr SSite 0 [0]), (1, .raw (it (i : Int))), (3, .raw (it (b : Int)))] ∧
  rows = [some ⟨SSite, [siteD s]⟩, some ⟨.ar 32 L8, [.agg (.ar 32 L8) (bs (chS s.id s.q i j a x))]⟩, some ⟨.ar 32 L8, [.agg (.ar 32 L8) (bs z32)]⟩]) ?_ ?_ ⟨?_, rfl⟩
 ·rintro j hj env rows ⟨hh, rfl⟩ R hR
  simp only [has] at hh
  have e0 : (((a + j : Nat) : Int) < (b : Int)) = True := eq_true (by omega)
  have e1 : wz (((a + j : Nat) : Int) + 1) = ((a + (j + 1) : Nat) : Int) := by rw [wz_id (by omega)]; omega
  have kS := fun rows k => kStep rows k s i (a + j) _ hid hi' (by omega) (chS_len s.id s.q i j a x hx)
  simp only [↓amD, amU, simprocAttr, zipEnv, amR, hh, eb, e0, e1, site_fits, h1, kS, ← chS_succ]
  exact hR _ _ ⟨by simp only [has, ↓amD, amU, simprocAttr, zipEnv, hh], rfl⟩
 ·rintro env rows ⟨hh, rfl⟩ R
  simp only [has] at hh
  have e0 : (((a + (b - a) : Nat) : Int) < (b : Int)) = False := eq_false (by omega)
  simp only [↓amD, amU, simprocAttr, zipEnv, amR, hh, eb, e0]
  exact .val _ rfl
 ·simp only [has, ↓amD, amU, simprocAttr, zipEnv]
  simp
theorem kChain (rows : Rows) (k : D → Rows → Prop) (s : Site) (i a b : Nat) (x : List (BitVec 8)) (hid : s.id.length = 16) (hi : i < 65536) (ha : a ≤ 256) (hb : b ≤ 256) (hx : x.length = 32) :
  kCall fChain rows k [siteD s, .raw (it (i : Int)), .raw (it (a : Int)), .raw (it (b : Int)), .agg (.ar 32 L8) (bs x)] = k (.agg (.ar 32 L8) (bs (chS s.id s.q i (b - a) a x))) rows := by
 refine (kCall_g5 (site_pure s rows) (RdIn.int _) (RdIn.int _) (RdIn.int _) (rdIn_d32 x) (by simp [hid, hx, inI]; omega) rfl k).trans ?_
 simp [d32D, shift, shiftRows, Sh.pure]
def mashS (id : List (BitVec 8)) (q : BitVec 32) (c msg : List (BitVec 8)) : List (BitVec 8) := sumS (id ++ wordB q ++ be2 33153 ++ c ++ msg)
noncomputable def fMash : Fn := fn3 (rdOf siteD) (rdOf d32D) rdBs (fun s c _ => decide (s.id.length = 16) && decide (c.length = 32)) fun s c m => (d32D (mashS s.id s.q c m), [])
theorem mash_ok (C : Ctx) (hC : CtxOK C P) (h1 : C.fn 63 = some fFront) (h2 : C.fn 62 = some fTwo) (h3 : C.fn 64 = some fFeed) (h4 : C.fn 65 = some fStSum) : Meets C.glob P 50 (Fn.run fMash) := by
 refine fn_meets (m_ots_Mash C hC) fun ds rows r h => ?_
 obtain ⟨d0, d1, d2, s, c, m, rfl, rfl, g0, g1, g2, hp, rfl⟩ := fn3_some h
 cases rdOf_some g0
 cases rdOf_some g1
 have gm := rdBs_some g2
 simp only [Bool.and_eq_true, decide_eq_true_eq] at hp
 obtain ⟨hid, hc⟩ := hp
 refine ⟨rfl, afun_mk rfl ?_⟩
 clear h g0 g1 g2
 unfold a_ots_Mash r_ots_Mash
 simp only [z32_eq]
 have kT := fun rows k => kTwo rows k 33153 (by decide)
 rw [show ((33153 : Nat) : Int) = 33153 from rfl] at kT
 simp only [↓amD, amU, simprocAttr, zipEnv, amR, d32D, site_fits, h1, kFront _ _ s hid, h2, kT, h3]
 refine Eq.mpr (kFeed _ _ _ _ (be2 33153) (BsIn.own rfl _ rfl) (frontS_ok s)) ?_
 simp only [↓amD, amU, simprocAttr, zipEnv, amR, h3]
 have o1 := feed_ok (be2 33153) _ (frontS_ok s)
 refine Eq.mpr (kFeed _ _ _ _ c (BsIn.atAll (n := 32) rfl rfl hc) o1) ?_
 simp only [↓amD, amU, simprocAttr, zipEnv, amR, h3]
 have o2 := feed_ok c _ o1
 refine Eq.mpr (kFeed _ _ _ _ m gm.to o2) ?_
 have o3 := feed_ok m _ o2
 simp only [↓amD, amU, simprocAttr, zipEnv, amR, h4, kStSum _ _ _ o3]
 have e : sumSt (feed (feed (feed (frontS s) (be2 33153)) c) m) = mashS s.id s.q c m := by
  rw [mashS, sumS, frontS, ← feed_app, ← feed_app, ← feed_app]
  simp only [List.append_assoc]
 rw [e]
 exact .val _ rfl
theorem kMash (rows : Rows) (k : D → Rows → Prop) (s : Site) (c m : List (BitVec 8)) (d : D) (hd : BsIn rows d m) (hid : s.id.length = 16) (hc : c.length = 32) :
  kCall fMash rows k [siteD s, .agg (.ar 32 L8) (bs c), d] = k (.agg (.ar 32 L8) (bs (mashS s.id s.q c m))) rows := by
 refine (kCall_rd3 (site_pure s rows) (rdIn_d32 c) (.bs hd) (by simp [hid, hc]) rfl k).trans ?_
 simp [d32D, shift, shiftRows, Sh.pure]
noncomputable def fRMash : Fn := gn4 (rdOf id16D) rd32 (rdOf d32D) rdBs (fun id q c m => decide (id.length = 16) && decide (c.length = 32) && decide (m.length ≤ 1000000)) fun id q c m => (d32D (mashS id q c m), [])
theorem rmash_ok (C : Ctx) (hC : CtxOK C P) (h1 : C.fn 55 = some fNumS) (h2 : C.fn 13 = some fJoin) (h3 : C.fn 54 = some fRSum) : Meets C.glob P 33 (Fn.run fRMash) := by
 refine fn_meets (m_ref05_Mash C hC) fun ds rows r h => ?_
 obtain ⟨d0, d1, d2, d3, id, q, c, m, rfl, rfl, g0, g1, g2, g3, hp, rfl⟩ := gn4_some h
 cases rdOf_some g0
 cases rd32_some g1
 cases rdOf_some g2
 have gm := rdBs_some g3
 simp only [Bool.and_eq_true, decide_eq_true_eq] at hp
 obtain ⟨⟨hid, hc⟩, hm⟩ := hp
 refine ⟨rfl, afun_mk rfl ?_⟩
 clear h g0 g1 g2 g3
 unfold a_ref05_Mash r_ref05_Mash
 simp only [z32_eq]
 have k4 := fun rows k => kNumN rows k (q.setWidth 64) 4 (by decide) (by decide)
 have k2 := fun rows k => kNumN rows k 33153#64 2 (by decide) (by decide)
 rw [show (4 : Int).toNat = 4 from rfl, numq4] at k4
 rw [show (2 : Int).toNat = 2 from rfl, show numL 2 33153#64 = be2 33153 from numq2 33153 (by decide)] at k2
 have hfit : d3.fits .ref = true := by rcases gm with ⟨rfl, _⟩ | ⟨e, rfl⟩ <;> rfl
 simp only [↓amD, amU, simprocAttr, zipEnv, amR, id16D, d32D, h1, h2, k4, k2, hfit]
 refine Eq.mpr (kJoin _ _ _ 5 _ _ [id, wordB q, be2 33153, c, m] rfl rfl (.cons (BsIn.atAll (n := 16) rfl rfl hid) (.cons (BsIn.own rfl _ rfl) (.cons (BsIn.own rfl _ rfl) (.cons (BsIn.atAll (n := 32) rfl rfl hc) (.cons gm.to .nil))))) (by simp) (by simp [hid, hc, wordB, be2]; omega)) ?_
 have hl : ([id, wordB q, be2 33153, c, m].flatten).length ≤ 1000054 := by simp [hid, hc, wordB, be2]; omega
 have e : sumS [id, wordB q, be2 33153, c, m].flatten = mashS id q c m := by rw [mashS]; congr 1; simp
 generalize [id, wordB q, be2 33153, c, m].flatten = T at hl e ⊢
 simp only [↓amD, amU, simprocAttr, zipEnv, amR, h3]
 refine Eq.mpr (kRSum _ _ _ T (BsIn.own rfl _ rfl) (by omega)) ?_
 rw [e]
 simp only [↓amD, amU, simprocAttr, zipEnv, amR]
 exact .val _ rfl
theorem RdIn.dl {rows : Rows} {r n : Nat} {ex : Bool} {l : List (List (BitVec 8))} (hl : live rows r = some ⟨.ar 32 L8, l.map d32D⟩) (hn : l.length = n) : RdIn rows (rdLst (.ar 32 L8) d32D) (.sl (.ar 32 L8) r [] 0 n ex) l := by
 refine ⟨⟨.lst (.ar 32 L8) (l.map d32D) ex, ?_, rdLst_eq d32D_inj l ex⟩, fun h => by simp [hasRef] at h⟩
 have : elems rows (.sl (.ar 32 L8) r [] 0 n ex) = some (l.map d32D) := by
  simp only [elems, hl]; simp [List.take_of_length_le, hn]
 simp only [view]
 rw [this]
 simp [Sh.pure, hn]
noncomputable def fFold : Fn := fn2 (rdOf siteD) (rdLst (.ar 32 L8) d32D) (fun s l => decide (s.id.length = 16) && all32 l && decide (l.length ≤ 1000000)) fun s l => (d32D (foldS s.id s.q l), [])
theorem fold_ok (C : Ctx) (hC : CtxOK C P) (h1 : C.fn 63 = some fFront) (h2 : C.fn 62 = some fTwo) (h3 : C.fn 64 = some fFeed) (h4 : C.fn 65 = some fStSum) : Meets C.glob P 53 (Fn.run fFold) := by
 refine fn_meetsN (m_ots_Fold C hC) fun ds rows r h => ?_
 obtain ⟨d0, d1, s, l, rfl, rfl, g0, g1, hp, rfl⟩ := fn2_some h
 cases rdOf_some g0
 obtain ⟨ex, hx⟩ := rdLst_nrm g1
 simp only [Bool.and_eq_true, decide_eq_true_eq, all32_eq] at hp
 obtain ⟨⟨hid, h32⟩, hll⟩ := hp
 refine ⟨rfl, _, .cons (.refl _) (.cons hx .nil), afun_mk rfl ?_⟩
 clear h g0 g1 hx
 unfold a_ots_Fold r_ots_Fold
 simp only [z32_eq, stZ_eq]
 have kT := fun rows k => kTwo rows k 32896 (by decide)
 rw [show ((32896 : Nat) : Int) = 32896 from rfl] at kT
 simp only [↓amD, amU, simprocAttr, zipEnv, amR, d32D, site_fits, st_fits, h1, kFront _ _ s hid, h2, kT, h3]
 refine Eq.mpr (kFeed _ _ _ _ (be2 32896) (BsIn.own rfl _ rfl) (frontS_ok s)) ?_
 have o1 := feed_ok (be2 32896) _ (frontS_ok s)
 simp only [↓amD, amU, simprocAttr, zipEnv, amR, st_fits, List.length_map]
 have hok : ∀ i, (feed (feed (frontS s) (be2 32896)) (l.take i).flatten).ok = true := fun i => feed_ok _ _ o1
 have e : sumSt (feed (feed (frontS s) (be2 32896)) (l.take l.length).flatten) = foldS s.id s.q l := by
  rw [List.take_length, foldS, sumS, frontS, ← feed_app, ← feed_app]
  simp only [List.append_assoc]
 have hst : feed (feed (frontS s) (be2 32896)) (l.take 0).flatten = feed (frontS s) (be2 32896) := by rw [List.take_zero]; rfl
 rw [← hst]
 have hsucc : ∀ i (h : i < l.length), feed (feed (feed (frontS s) (be2 32896)) (l.take i).flatten) l[i] = feed (feed (frontS s) (be2 32896)) (l.take (i + 1)).flatten := fun i h => by
  rw [← feed_app, List.take_succ_eq_append_getElem h, List.flatten_append]; simp
 generalize feed (frontS s) (be2 32896) = B at *
 refine kLoop_up l.length (fun i env rows => has env [(14, .raw (it (i : Int))), (13, .raw (it (l.length : Int))), (12, .lst (.ar 32 L8) (l.map d32D) ex), (5, .ptr S9 3 [0]), (4, .ptr (.ar 32 L8) 1 [0])] ∧
  live rows 3 = some ⟨S9, [stD (feed B (l.take i).flatten)]⟩ ∧ live rows 1 = some ⟨.ar 32 L8, [.agg (.ar 32 L8) (bs z32)]⟩) ?_ ?_ ⟨?_, rfl, rfl⟩
 ·rintro i hi env rows ⟨hh, r3, r1⟩ R hR
  simp only [has] at hh
  have e0 : ((i : Int) < (l.length : Int)) = True := eq_true (by omega)
  have b0 : ∀ n : Nat, ((0 : Int) ≤ (n : Int)) = True := fun n => eq_true (by omega)
  have e1 := wz_succ i (by omega)
  have hx := h32 _ (List.getElem_mem hi)
  have g : (l.map d32D)[i]? = some (.agg (.ar 32 L8) (bs l[i])) := by simp [d32D, hi]
  have hs := hsucc i hi
  generalize l[i] = xi at *
  have r3A := fun L => live_app r3 L
  simp only [↓amD, amU, simprocAttr, zipEnv, amR, hh, e0, e1, b0, List.length_map, g, r3A, h3]
  refine Eq.mpr (kFeed _ _ _ _ xi (BsIn.atAll (n := 32) (by rw [lv_app0]; rfl) rfl hx) (hok i)) ?_
  rw [hs]
  simp only [↓amD, amU, simprocAttr, zipEnv, amR, hh, e1, r3A, st_fits]
  exact hR _ _ ⟨by simp only [has, ↓amD, amU, simprocAttr, zipEnv, hh], live_set_eq (r3A _), live_set_o (live_app r1 _) (by decide)⟩
 ·rintro env rows ⟨hh, r3, r1⟩ R
  simp only [has] at hh
  have e0 : ((l.length : Int) < (l.length : Int)) = False := eq_false (by omega)
  have w1 := fun x => live_set_eq (y := x) r1
  simp only [↓amD, amU, simprocAttr, zipEnv, amR, hh, e0, r3, r1, h4, kStSum _ _ _ (hok _), e, w1]
  exact .val _ rfl
 ·simp only [has, ↓amD, amU, simprocAttr, zipEnv]
theorem kFold (rows : Rows) (k : D → Rows → Prop) (s : Site) (d : D) (l : List (List (BitVec 8))) (hd : RdIn rows (rdLst (.ar 32 L8) d32D) d l) (hid : s.id.length = 16) (h32 : ∀ x ∈ l, x.length = 32) (hll : l.length ≤ 1000000) :
  kCall fFold rows k [siteD s, d] = k (.agg (.ar 32 L8) (bs (foldS s.id s.q l))) rows := by
 refine (kCall_rd2 (site_pure s rows) hd (by simp [hid, all32_eq.2 h32, hll]) rfl k).trans ?_
 simp [d32D, shift, shiftRows, Sh.pure]
end Job
end Go.Am
