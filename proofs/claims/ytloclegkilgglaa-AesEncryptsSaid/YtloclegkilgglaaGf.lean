/- the field of 256; blocks, mixed and back -/
import Derived.Test.YtloclegkilgglaaR1
namespace Go.Am
namespace Job
set_option linter.unusedVariables false
set_option linter.unusedSimpArgs false
set_option maxRecDepth 10000
def sel (c : Bool) (t : BitVec 8) : BitVec 8 := bif c then t else 0#8
theorem sel_xor (c d : Bool) (t : BitVec 8) : sel (c ^^ d) t = sel c t ^^^ sel d t := by
  cases c <;> cases d <;> simp [sel]
theorem sel_lin (c : Bool) (s t : BitVec 8) : sel c (s ^^^ t) = sel c s ^^^ sel c t := by
  cases c <;> simp [sel]
def xt (a : BitVec 8) : BitVec 8 := a <<< 1 ^^^ sel (a.getLsbD 7) 0x1b#8
theorem xt_lin (a b : BitVec 8) : xt (a ^^^ b) = xt a ^^^ xt b := by
  unfold xt
  rw [BitVec.getLsbD_xor, sel_xor, BitVec.shiftLeft_xor_distrib]
  generalize sel (a.getLsbD 7) 0x1b#8 = x
  generalize sel (b.getLsbD 7) 0x1b#8 = y
  generalize a <<< 1 = z
  generalize b <<< 1 = w
  rw [BitVec.xor_assoc, BitVec.xor_assoc]
  congr 1
  rw [← BitVec.xor_assoc, BitVec.xor_comm w x, BitVec.xor_assoc]
def gmN : Nat → BitVec 8 → BitVec 8 → Nat → BitVec 8
  | 0, _, _, _ => 0#8
  | n + 1, a, b, i => sel (b.getLsbD i) a ^^^ gmN n (xt a) b (i + 1)
def gm (a b : BitVec 8) : BitVec 8 := gmN 8 a b 0
theorem x4 (a b c d : BitVec 8) : (a ^^^ b) ^^^ (c ^^^ d) = (a ^^^ c) ^^^ (b ^^^ d) := by
  rw [BitVec.xor_assoc, BitVec.xor_assoc]
  congr 1
  rw [← BitVec.xor_assoc, BitVec.xor_comm b c, BitVec.xor_assoc]
theorem gmN_r : ∀ (n : Nat) (a b c : BitVec 8) (i : Nat), gmN n a (b ^^^ c) i = gmN n a b i ^^^ gmN n a c i
  | 0, _, _, _, _ => by simp [gmN]
  | n + 1, a, b, c, i => by
    simp only [gmN, gmN_r n, BitVec.getLsbD_xor, sel_xor]
    rw [x4]
theorem gmN_l : ∀ (n : Nat) (a a' b : BitVec 8) (i : Nat), gmN n (a ^^^ a') b i = gmN n a b i ^^^ gmN n a' b i
  | 0, _, _, _, _ => by simp [gmN]
  | n + 1, a, a', b, i => by
    simp only [gmN, xt_lin, gmN_l n, sel_lin]
    rw [x4]
theorem gm_r (a b c : BitVec 8) : gm a (b ^^^ c) = gm a b ^^^ gm a c := gmN_r 8 a b c 0
theorem gm_l (a a' b : BitVec 8) : gm (a ^^^ a') b = gm a b ^^^ gm a' b := gmN_l 8 a a' b 0
def Lin (f : BitVec 8 → BitVec 8) : Prop := ∀ a b, f (a ^^^ b) = f a ^^^ f b
theorem Lin.zero {f : BitVec 8 → BitVec 8} (h : Lin f) : f 0#8 = 0#8 := by
  have := h 0#8 0#8
  simpa using this
theorem Lin.sel {f : BitVec 8 → BitVec 8} (h : Lin f) (c : Bool) (t : BitVec 8) : f (Job.sel c t) = Job.sel c (f t) := by
  cases c
  · exact h.zero
  · rfl
theorem bits8 : ∀ b : BitVec 8, b = sel (b.getLsbD 0) 1#8 ^^^ sel (b.getLsbD 1) 2#8 ^^^ sel (b.getLsbD 2) 4#8 ^^^ sel (b.getLsbD 3) 8#8 ^^^ sel (b.getLsbD 4) 16#8 ^^^ sel (b.getLsbD 5) 32#8 ^^^ sel (b.getLsbD 6) 64#8 ^^^ sel (b.getLsbD 7) 128#8 := by
  decide +kernel
def basis : List (BitVec 8) := [1#8, 2#8, 4#8, 8#8, 16#8, 32#8, 64#8, 128#8]
theorem Lin.ext {f g : BitVec 8 → BitVec 8} (hf : Lin f) (hg : Lin g) (h : ∀ x ∈ basis, f x = g x) (b : BitVec 8) : f b = g b := by
  have key : ∀ {f : BitVec 8 → BitVec 8}, Lin f → f b = Job.sel (b.getLsbD 0) (f 1#8) ^^^ Job.sel (b.getLsbD 1) (f 2#8) ^^^ Job.sel (b.getLsbD 2) (f 4#8) ^^^ Job.sel (b.getLsbD 3) (f 8#8) ^^^ Job.sel (b.getLsbD 4) (f 16#8) ^^^ Job.sel (b.getLsbD 5) (f 32#8) ^^^ Job.sel (b.getLsbD 6) (f 64#8) ^^^ Job.sel (b.getLsbD 7) (f 128#8) := by
    intro f hf
    conv => lhs; rw [bits8 b]
    simp only [hf _ _, hf.sel]
  rw [key hf, key hg]
  rw [h 1#8 (by simp [basis]), h 2#8 (by simp [basis]), h 4#8 (by simp [basis]), h 8#8 (by simp [basis]), h 16#8 (by simp [basis]), h 32#8 (by simp [basis]), h 64#8 (by simp [basis]), h 128#8 (by simp [basis])]
theorem gm_comm (a b : BitVec 8) : gm a b = gm b a := by
  refine Lin.ext (f := fun a => gm a b) (g := fun a => gm b a) (fun x y => gm_l x y b) (fun x y => gm_r b x y) (fun x hx => ?_) a
  refine Lin.ext (f := fun b => gm x b) (g := fun b => gm b x) (fun u v => gm_r x u v) (fun u v => gm_l u v x) (fun y hy => ?_) b
  have : ∀ x ∈ basis, ∀ y ∈ basis, gm x y = gm y x := by decide +kernel
  exact this x hx y hy
theorem gm_assoc (a b c : BitVec 8) : gm (gm a b) c = gm a (gm b c) := by
  refine Lin.ext (f := fun a => gm (gm a b) c) (g := fun a => gm a (gm b c)) (fun x y => by simp only [gm_l]) (fun x y => by simp only [gm_l]) (fun x hx => ?_) a
  refine Lin.ext (f := fun b => gm (gm x b) c) (g := fun b => gm x (gm b c)) (fun u v => by simp only [gm_r, gm_l]) (fun u v => by simp only [gm_r, gm_l]) (fun y hy => ?_) b
  refine Lin.ext (f := fun c => gm (gm x y) c) (g := fun c => gm x (gm y c)) (fun u v => by simp only [gm_r]) (fun u v => by simp only [gm_r]) (fun z hz => ?_) c
  have : ∀ x ∈ basis, ∀ y ∈ basis, ∀ z ∈ basis, gm (gm x y) z = gm x (gm y z) := by decide +kernel
  exact this x hx y hy z hz
theorem gm_one (a : BitVec 8) : gm a 1#8 = a := by
  revert a; decide +kernel
/-- one row of a column's mixture -/
def mrow (f : List (BitVec 8)) (a b c d : BitVec 8) : BitVec 8 := gm a (f.getD 0 0#8) ^^^ gm b (f.getD 1 0#8) ^^^ gm c (f.getD 2 0#8) ^^^ gm d (f.getD 3 0#8)
def fE : List (BitVec 8) := [2#8, 3#8, 1#8, 1#8]
def fD : List (BitVec 8) := [14#8, 11#8, 13#8, 9#8]
theorem x16 (a0 a1 a2 a3 b0 b1 b2 b3 c0 c1 c2 c3 d0 d1 d2 d3 : BitVec 8) :
    (a0 ^^^ b0 ^^^ c0 ^^^ d0) ^^^ (b1 ^^^ c1 ^^^ d1 ^^^ a1) ^^^ (c2 ^^^ d2 ^^^ a2 ^^^ b2) ^^^ (d3 ^^^ a3 ^^^ b3 ^^^ c3) = (a0 ^^^ a1 ^^^ a2 ^^^ a3) ^^^ (b0 ^^^ b1 ^^^ b2 ^^^ b3) ^^^ (c0 ^^^ c1 ^^^ c2 ^^^ c3) ^^^ (d0 ^^^ d1 ^^^ d2 ^^^ d3) := by
  ac_rfl
theorem mrow_ED (a b c d : BitVec 8) : mrow fD (mrow fE a b c d) (mrow fE b c d a) (mrow fE c d a b) (mrow fE d a b c) = a := by
  simp only [mrow, gm_l, fE, fD, List.getD_cons_zero, List.getD_cons_succ]
  rw [x16]
  have ha : ∀ a, gm (gm a 2#8) 14#8 ^^^ gm (gm a 1#8) 11#8 ^^^ gm (gm a 1#8) 13#8 ^^^ gm (gm a 3#8) 9#8 = a := by decide +kernel
  have hb : ∀ a, gm (gm a 3#8) 14#8 ^^^ gm (gm a 2#8) 11#8 ^^^ gm (gm a 1#8) 13#8 ^^^ gm (gm a 1#8) 9#8 = 0#8 := by decide +kernel
  have hc : ∀ a, gm (gm a 1#8) 14#8 ^^^ gm (gm a 3#8) 11#8 ^^^ gm (gm a 2#8) 13#8 ^^^ gm (gm a 1#8) 9#8 = 0#8 := by decide +kernel
  have hd : ∀ a, gm (gm a 1#8) 14#8 ^^^ gm (gm a 1#8) 11#8 ^^^ gm (gm a 3#8) 13#8 ^^^ gm (gm a 2#8) 9#8 = 0#8 := by decide +kernel
  rw [ha, hb, hc, hd]
  simp
theorem mrow_DE (a b c d : BitVec 8) : mrow fE (mrow fD a b c d) (mrow fD b c d a) (mrow fD c d a b) (mrow fD d a b c) = a := by
  simp only [mrow, gm_l, fE, fD, List.getD_cons_zero, List.getD_cons_succ]
  rw [x16]
  have ha : ∀ a, gm (gm a 14#8) 2#8 ^^^ gm (gm a 9#8) 3#8 ^^^ gm (gm a 13#8) 1#8 ^^^ gm (gm a 11#8) 1#8 = a := by decide +kernel
  have hb : ∀ a, gm (gm a 11#8) 2#8 ^^^ gm (gm a 14#8) 3#8 ^^^ gm (gm a 9#8) 1#8 ^^^ gm (gm a 13#8) 1#8 = 0#8 := by decide +kernel
  have hc : ∀ a, gm (gm a 13#8) 2#8 ^^^ gm (gm a 11#8) 3#8 ^^^ gm (gm a 14#8) 1#8 ^^^ gm (gm a 9#8) 1#8 = 0#8 := by decide +kernel
  have hd : ∀ a, gm (gm a 9#8) 2#8 ^^^ gm (gm a 13#8) 3#8 ^^^ gm (gm a 11#8) 1#8 ^^^ gm (gm a 14#8) 1#8 = 0#8 := by decide +kernel
  rw [ha, hb, hc, hd]
  simp
def bx (t : List (BitVec 8)) (x : BitVec 8) : BitVec 8 := t.getD x.toNat 0#8
def movI (b t : List (BitVec 8)) (m i : Nat) : BitVec 8 := bx t (b.getD ((i + m * (i % 4)) % 16) 0#8)
def movS (b t : List (BitVec 8)) (m : Nat) : List (BitVec 8) := (List.range 16).map (movI b t m)
def mixI (b f : List (BitVec 8)) (i : Nat) : BitVec 8 := mrow f (b.getD (i - i % 4 + i % 4) 0#8) (b.getD (i - i % 4 + (i + 1) % 4) 0#8) (b.getD (i - i % 4 + (i + 2) % 4) 0#8) (b.getD (i - i % 4 + (i + 3) % 4) 0#8)
def mixS (b f : List (BitVec 8)) : List (BitVec 8) := (List.range 16).map (mixI b f)
theorem sixteen {v : List (BitVec 8)} (h : v.length = 16) : ∃ a b c d e f g i j k l m n o p q, v = [a, b, c, d, e, f, g, i, j, k, l, m, n, o, p, q] := by
  match v, h with
  | [a, b, c, d, e, f, g, i, j, k, l, m, n, o, p, q], _ => exact ⟨a, b, c, d, e, f, g, i, j, k, l, m, n, o, p, q, rfl⟩
theorem mov_len (b t : List (BitVec 8)) (m : Nat) : (movS b t m).length = 16 := by simp [movS]
theorem mix_len16 (b f : List (BitVec 8)) : (mixS b f).length = 16 := by simp [mixS]
theorem r16 : List.range 16 = [0, 1, 2, 3, 4, 5, 6, 7, 8, 9, 10, 11, 12, 13, 14, 15] := rfl
theorem mov_inv (b t u : List (BitVec 8)) (h : b.length = 16) (hu : ∀ x, bx u (bx t x) = x) (m m' : Nat) (hm : m = 4 ∧ m' = 12 ∨ m = 12 ∧ m' = 4) : movS (movS b t m) u m' = b := by
  obtain ⟨a, b', c, d, e, f, g, i, j, k, l, m1, n, o, p, q, rfl⟩ := sixteen h
  rcases hm with ⟨rfl, rfl⟩ | ⟨rfl, rfl⟩ <;>
  · simp only [movS, r16, List.map_cons, List.map_nil, movI, Nat.reduceMul, Nat.reduceAdd, Nat.reduceMod, List.getD_cons_zero, List.getD_cons_succ, hu]
theorem mix_ED (b : List (BitVec 8)) (h : b.length = 16) : mixS (mixS b fE) fD = b := by
  obtain ⟨a, b', c, d, e, f, g, i, j, k, l, m1, n, o, p, q, rfl⟩ := sixteen h
  simp only [mixS, r16, List.map_cons, List.map_nil, mixI, Nat.reduceSub, Nat.reduceAdd, Nat.reduceMod, List.getD_cons_zero, List.getD_cons_succ, mrow_ED]
theorem mix_DE (b : List (BitVec 8)) (h : b.length = 16) : mixS (mixS b fD) fE = b := by
  obtain ⟨a, b', c, d, e, f, g, i, j, k, l, m1, n, o, p, q, rfl⟩ := sixteen h
  simp only [mixS, r16, List.map_cons, List.map_nil, mixI, Nat.reduceSub, Nat.reduceAdd, Nat.reduceMod, List.getD_cons_zero, List.getD_cons_succ, mrow_DE]
def addS (k b : List (BitVec 8)) : List (BitVec 8) := List.zipWith (· ^^^ ·) b k
theorem add_len (k b : List (BitVec 8)) (hk : k.length = 16) (hb : b.length = 16) : (addS k b).length = 16 := by simp [addS, hk, hb]
theorem add_add (k b : List (BitVec 8)) (h : k.length = b.length) : addS k (addS k b) = b := by
  refine List.ext_getElem (by simp [addS]; omega) fun i h1 h2 => ?_
  simp [addS, BitVec.xor_assoc]
/-- encrypted, decrypted, by round keys -/
def encR (K : Nat → List (BitVec 8)) (t : List (BitVec 8)) (b : List (BitVec 8)) : Nat → List (BitVec 8)
  | 0 => addS (K 0) b
  | r + 1 => addS (K (r + 1)) (mixS (movS (encR K t b r) t 4) fE)
def encS (K : Nat → List (BitVec 8)) (t : List (BitVec 8)) (n : Nat) (b : List (BitVec 8)) : List (BitVec 8) := addS (K n) (movS (encR K t b (n - 1)) t 4)
/-- r: how many rounds are to do -/
def decR (K : Nat → List (BitVec 8)) (u : List (BitVec 8)) : Nat → List (BitVec 8) → List (BitVec 8)
  | 0, b => addS (K 0) b
  | r + 1, b => decR K u r (movS (mixS (addS (K (r + 1)) b) fD) u 12)
def decS (K : Nat → List (BitVec 8)) (u : List (BitVec 8)) (n : Nat) (b : List (BitVec 8)) : List (BitVec 8) := decR K u (n - 1) (movS (addS (K n) b) u 12)
theorem encR_len (K : Nat → List (BitVec 8)) (t b : List (BitVec 8)) (hK : ∀ r, (K r).length = 16) (hb : b.length = 16) : ∀ r, (encR K t b r).length = 16
  | 0 => add_len _ _ (hK 0) hb
  | r + 1 => add_len _ _ (hK _) (mix_len16 _ _)
theorem dec_enc (K : Nat → List (BitVec 8)) (t u : List (BitVec 8)) (hK : ∀ r, (K r).length = 16) (hu : ∀ x, bx u (bx t x) = x) (b : List (BitVec 8)) (hb : b.length = 16) : ∀ r, decR K u r (encR K t b r) = b
  | 0 => add_add _ _ (by rw [hK, hb])
  | r + 1 => by
    have hl := encR_len K t b hK hb r
    simp only [decR, encR]
    rw [add_add _ _ (by rw [hK, mix_len16]), mix_ED _ (mov_len _ _ _), mov_inv _ t u hl hu 4 12 (.inl ⟨rfl, rfl⟩), dec_enc K t u hK hu b hb r]
theorem decS_encS (K : Nat → List (BitVec 8)) (t u : List (BitVec 8)) (hK : ∀ r, (K r).length = 16) (hu : ∀ x, bx u (bx t x) = x) (n : Nat) (b : List (BitVec 8)) (hb : b.length = 16) : decS K u n (encS K t n b) = b := by
  have hl := encR_len K t b hK hb (n - 1)
  rw [decS, encS, add_add _ _ (by rw [hK, mov_len]), mov_inv _ t u hl hu 4 12 (.inl ⟨rfl, rfl⟩), dec_enc K t u hK hu b hb]
theorem decR_len (K : Nat → List (BitVec 8)) (u : List (BitVec 8)) (hK : ∀ r, (K r).length = 16) : ∀ (r : Nat) (b : List (BitVec 8)), b.length = 16 → (decR K u r b).length = 16
  | 0, b, hb => add_len _ _ (hK 0) hb
  | r + 1, b, hb => decR_len K u hK r _ (mov_len _ _ _)
theorem enc_dec (K : Nat → List (BitVec 8)) (t u : List (BitVec 8)) (hK : ∀ r, (K r).length = 16) (ht : ∀ x, bx t (bx u x) = x) : ∀ (r : Nat) (b : List (BitVec 8)), b.length = 16 → encR K t (decR K u r b) r = b
  | 0, b, hb => add_add _ _ (by rw [hK, hb])
  | r + 1, b, hb => by
    have hl := mov_len (mixS (addS (K (r + 1)) b) fD) u 12
    have ih := enc_dec K t u hK ht r _ hl
    simp only [decR, encR]
    rw [ih, mov_inv _ u t (mix_len16 _ _) ht 12 4 (.inr ⟨rfl, rfl⟩), mix_DE _ (add_len _ _ (hK _) hb), add_add _ _ (by rw [hK, hb])]
theorem encS_decS (K : Nat → List (BitVec 8)) (t u : List (BitVec 8)) (hK : ∀ r, (K r).length = 16) (ht : ∀ x, bx t (bx u x) = x) (n : Nat) (b : List (BitVec 8)) (hb : b.length = 16) : encS K t n (decS K u n b) = b := by
  have hl := add_len _ b (hK n) hb
  rw [encS, decS, enc_dec K t u hK ht _ _ (mov_len _ _ _), mov_inv _ u t hl ht 12 4 (.inr ⟨rfl, rfl⟩), add_add _ _ (by rw [hK, hb])]
end Job
end Go.Am
