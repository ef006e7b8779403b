import Derived.Test.YtpepmhbdblldeaaDoorPv16
namespace Go.Am
set_option linter.unusedSimpArgs false
set_option linter.unusedVariables false
attribute [local congr] bnd_congr kCond_congr kGd_congr kPick_congr kCall_congr kIdx_congr kSlice_congr kLoop_congr cond_congr' aBin_congr aBounds_congr aApp_congr aCopy_congr kFn_congr
namespace Job
open Go.Am.F
set_option maxRecDepth 10000
structure St where
 h : List (BitVec 32)
 rest : List (BitVec 8)
 n : BitVec 64
def stD (s : St) : D := .agg S10 [.agg (.ar 8 L32) (us s.h), .agg (.ar 64 L8) (bs s.rest), .raw (u64 s.n)]
theorem stD_inj (x y : St) (h : stD x = stD y) : x = y := by
 obtain ⟨a, b, c⟩ := x
 obtain ⟨a', b', c'⟩ := y
 simp only [stD, D.agg.injEq, List.cons.injEq, true_and, and_true, D.raw.injEq] at h
 obtain ⟨h1, h2, h3⟩ := h
 rw [us_inj h1, bs_inj h2, u64_inj.1 h3]
def St.ok (s : St) : Bool := decide (s.h.length = 8) && decide (s.rest.length = 64)
def zero64 : List (BitVec 8) := List.replicate 64 0#8
def feed1 (s : St) (b : BitVec 8) : St :=
 if s.n.toNat % 64 + 1 = 64 then ⟨pressS s.h (s.rest.set (s.n.toNat % 64) b), zero64, s.n + 1#64⟩ else ⟨s.h, s.rest.set (s.n.toNat % 64) b, s.n + 1#64⟩
def feed (s : St) (p : List (BitVec 8)) : St := p.foldl feed1 s
theorem feed_app (s : St) (p q : List (BitVec 8)) : feed s (p ++ q) = feed (feed s p) q := List.foldl_append
theorem feed1_ok (s : St) (b : BitVec 8) (h : s.ok = true) : (feed1 s b).ok = true := by
 simp only [St.ok, Bool.and_eq_true, decide_eq_true_eq] at h
 unfold feed1
 split
 ·simp [St.ok, press_len _ _ h.1, zero64]
 ·simp [St.ok, h.1, h.2]
theorem feed_ok (p : List (BitVec 8)) : ∀ (s : St), s.ok = true → (feed s p).ok = true := by
 induction p with
 | nil => exact fun s h => h
 | cons b p ih => exact fun s h => ih _ (feed1_ok s b h)
theorem feed_n (p : List (BitVec 8)) : ∀ (s : St), (feed s p).n = s.n + BitVec.ofNat 64 p.length := by
 induction p with
 | nil => intro s; simp [feed]
 | cons b p ih =>
  intro s
  have : (feed1 s b).n = s.n + 1#64 := by unfold feed1; split <;> rfl
  show (feed (feed1 s b) p).n = _
  rw [ih, this]
  apply BitVec.eq_of_toNat_eq
  simp only [BitVec.toNat_add, BitVec.toNat_ofNat, List.length_cons]
  omega
theorem at_add (n : BitVec 64) (j : Nat) (h : n.toNat % 64 + j < 64) : (n + BitVec.ofNat 64 j).toNat % 64 = n.toNat % 64 + j := by
 simp only [BitVec.toNat_add, BitVec.toNat_ofNat]
 omega
theorem splice_snoc (l x : List (BitVec 8)) (o : Nat) (b : BitVec 8) (h : o + x.length < l.length) : (splice l o x).set (o + x.length) b = splice l o (x ++ [b]) := by
 unfold splice
 have e1 : l.drop (o + x.length) = l.getD (o + x.length) 0#8 :: l.drop (o + x.length + 1) := by
  rw [List.drop_eq_getElem_cons h]; simp [List.getD, h]
 have e2 : (l.take o ++ x).length = o + x.length := by simp; omega
 rw [List.set_append_right _ _ (by omega), e2, Nat.sub_self, e1]
 simp [Nat.add_assoc]
theorem splice_nil (l : List (BitVec 8)) (o : Nat) : splice l o [] = l := by simp [splice]
theorem feed_part (s : St) (hs : s.rest.length = 64) : ∀ (j : Nat) (x : List (BitVec 8)), x.length = j → s.n.toNat % 64 + j < 64 → feed s x = ⟨s.h, splice s.rest (s.n.toNat % 64) x, s.n + BitVec.ofNat 64 j⟩
 | 0, x, hx, h => by
  have : x = [] := List.eq_nil_of_length_eq_zero hx
  subst this
  obtain ⟨a, b, c⟩ := s
  simp [feed, splice_nil]
 | j + 1, x, hx, h => by
  obtain ⟨y, b, rfl⟩ : ∃ y b, x = y ++ [b] := ⟨x.dropLast, x.getLast (by intro e; subst e; simp at hx), (List.dropLast_concat_getLast _).symm⟩
  have hy : y.length = j := by simpa using hx
  rw [feed_app, feed_part s hs j y hy (by omega)]
  have ha := at_add s.n j (by omega)
  show feed1 _ b = _
  unfold feed1
  simp only [ha]
  rw [if_neg (by omega)]
  have hl := splice_snoc s.rest y (s.n.toNat % 64) b (by omega)
  rw [hy] at hl
  rw [hl]
  congr 1
  apply BitVec.eq_of_toNat_eq
  simp only [BitVec.toNat_add, BitVec.toNat_ofNat]
  omega
theorem feed_full (s : St) (hs : s.rest.length = 64) (x : List (BitVec 8)) (h : s.n.toNat % 64 + x.length = 64) : feed s x = ⟨pressS s.h (splice s.rest (s.n.toNat % 64) x), zero64, s.n + BitVec.ofNat 64 x.length⟩ := by
 have hlt : s.n.toNat % 64 < 64 := Nat.mod_lt _ (by decide)
 obtain ⟨y, b, rfl⟩ : ∃ y b, x = y ++ [b] := ⟨x.dropLast, x.getLast (by intro e; subst e; simp at h; omega), (List.dropLast_concat_getLast _).symm⟩
 simp only [List.length_append, List.length_cons, List.length_nil] at h
 rw [feed_app, feed_part s hs y.length y rfl (by omega)]
 have ha := at_add s.n y.length (by omega)
 show feed1 _ b = _
 unfold feed1
 simp only [ha]
 rw [if_pos (by omega)]
 have hl := splice_snoc s.rest y (s.n.toNat % 64) b (by omega)
 rw [hl]
 congr 1
 apply BitVec.eq_of_toNat_eq
 simp only [BitVec.toNat_add, BitVec.toNat_ofNat, List.length_append, List.length_cons, List.length_nil]
 omega
theorem kPress (rows : Rows) (k : D → Rows → Prop) (h : List (BitVec 32)) (b : List (BitVec 8)) (hh : h.length = 8) (hb : b.length = 64) : kCall fPress rows k [.agg (.ar 8 L32) (us h), .agg (.ar 64 L8) (bs b)] = k (.agg (.ar 8 L32) (us (pressS h b))) rows := by
 refine (kCall_val (by simp [hasRefL, hasRef, Sh.pure]) (r := (h8D (pressS h b), [])) ?_).trans ?_
 ·exact fn2_eq (rdOf_eq h8D_inj h) (rdOf_eq b64D_inj b) (by simp [hh, hb])
 ·simp [shift, shiftRows, h8D, Sh.pure]
noncomputable def fFeed : Fn := fn2 (rdOf stD) rdBs (fun s _ => s.ok) fun s p => (stD (feed s p), [])
theorem feed_meets (C : Ctx) (hC : CtxOK C P) (hp : C.fn 82 = some fPress) : Meets C.glob P 70 (Fn.run fFeed) := by
 refine fn_meetsN (m_sha_State_Feed C hC) fun ds rows r h => ?_
 obtain ⟨d, e, s0, p0, rfl, rfl, hd, he, hok, rfl⟩ := fn2_some h
 cases rdOf_some hd
 obtain ⟨x0, hx⟩ := rdBs_nrm he
 refine ⟨rfl, _, .cons (.refl _) (.cons hx .nil), afun_mk rfl ?_⟩
 clear h hd he hx
 unfold a_sha_State_Feed r_sha_State_Feed
 simp only [stD, ↓amD, amU, simprocAttr, zipEnv]
 refine kLoop_inv (fun m env rows => ∃ (s : St) (q : List (BitVec 8)) (ex : Bool) (z : D), m = q.length ∧ s.ok = true ∧ feed s q = feed s0 p0 ∧ has env [(1, .lst L8 (bs q) ex), (2, .ptr S10 0 [0]), (4, .ptr S10 1 [0])] ∧
  rows = [some ⟨S10, [.agg S10 [.agg (.ar 8 L32) (us s.h), .agg (.ar 64 L8) (bs s.rest), .raw (u64 s.n)]]⟩, some ⟨S10, [z]⟩]) ?_ p0.length ⟨s0, p0, x0, _, rfl, hok, rfl, ?_, rfl⟩
 ·rintro m env rows ⟨s, q, ex, z, rfl, hs, hf, hh, rfl⟩ R hR
  simp only [has] at hh
  obtain ⟨h1, h2, h4, -⟩ := hh
  have hs' := hs
  simp only [St.ok, Bool.and_eq_true, decide_eq_true_eq] at hs'
  obtain ⟨hs1, hs2⟩ := hs'
  by_cases hq : 0 < q.length
  ·have e0 : ((0 : Int) < (q.length : Int)) = True := eq_true (by omega)
   have hlt : s.n.toNat % 64 < 64 := Nat.mod_lt _ (by decide)
   have m64 : (s.n % 64#64).toNat = s.n.toNat % 64 := by rw [BitVec.toNat_umod]; rfl
   generalize ha : s.n.toNat % 64 = at_ at *
   have e1 : wz (at_ : Int) = at_ := wz_id (by omega)
   have e2 : ((0 : Int) ≤ (at_ : Int)) = True := eq_true (by omega)
   have e3 : ((at_ : Int) ≤ 64) = True := eq_true (by omega)
   have en : (64#64 : BitVec 64) ≠ 0 := by decide
   obtain ⟨k, hk⟩ : ∃ k, min q.length (64 - at_) = k := ⟨_, rfl⟩
   simp only [↓amD, amU, simprocAttr, zipEnv, h1, h2, h4, e0, e1, e2, e3, m64, en, bs_len, decide_true]
   refine Eq.mpr (copy_arr (p := [1]) (u := .ar 64 L8) (l := s.rest) rfl rfl (by omega) rfl) ?_
   rw [hk]
   have hk1 : k ≤ q.length := by omega
   have hk2 : at_ + k ≤ 64 := by omega
   have hk3 : 0 < k := by omega
   have htl : (q.take k).length = k := by rw [List.length_take]; omega
   have hspl : (splice s.rest at_ (q.take k)).length = 64 := by
    rw [← bs_len, ← bs_splice, splice_len (by rw [bs_len, bs_len]; omega), bs_len, hs2]
   have hqq : q.take k ++ q.drop k = q := List.take_append_drop k q
   have f1 : ((0 : Int) ≤ (k : Int)) = True := eq_true (by omega)
   have f2 : ((k : Int) ≤ (q.length : Int)) = True := eq_true (by omega)
   have f3 : (q.drop k).take (q.length - k) = q.drop k := List.take_of_length_le (by rw [List.length_drop]; omega)
   have f4 : wz ((at_ : Int) + (k : Int)) = ((at_ + k : Nat) : Int) := by rw [wz_id (by omega)]; omega
   have f5 : BitVec.ofInt 64 (k : Int) = BitVec.ofNat 64 k := rfl
   by_cases hfull : at_ + k = 64
   ·have f6 : ((at_ + k : Nat) : Int) = 64 := by omega
    have hnew := feed_full s hs2 (q.take k) (by rw [ha, htl]; exact hfull)
    rw [ha, htl] at hnew
    have hfin : feed (feed s (q.take k)) (q.drop k) = feed s0 p0 := by rw [← feed_app, hqq, hf]
    have hok' := feed_ok (q.take k) s hs
    rw [hnew] at hfin hok'
    simp only [↓amD, amU, simprocAttr, zipEnv, h1, h2, h4, bs_len, bs_drop, bs_take, f1, f2, f3, f4, f5, f6, hp, kPress _ _ _ _ hs1 hspl, decide_true]
    refine hR _ _ _ ?_ ⟨_, q.drop k, exOf none q.length q.length q.length ex, z, rfl, hok', hfin, ?_, rfl⟩
    ·rw [List.length_drop]; omega
    ·simp only [has, ↓amD, amU, simprocAttr, zipEnv, h2, h4]
   ·have f6 : (((at_ + k : Nat) : Int) = 64) = False := eq_false (by omega)
    have hnew := feed_part s hs2 k (q.take k) htl (by rw [ha]; omega)
    rw [ha] at hnew
    have hfin : feed (feed s (q.take k)) (q.drop k) = feed s0 p0 := by rw [← feed_app, hqq, hf]
    have hok' := feed_ok (q.take k) s hs
    rw [hnew] at hfin hok'
    simp only [↓amD, amU, simprocAttr, zipEnv, h1, h2, h4, bs_len, bs_drop, bs_take, f1, f2, f3, f4, f5, f6, decide_false]
    refine hR _ _ _ ?_ ⟨_, q.drop k, exOf none q.length q.length q.length ex, z, rfl, hok', hfin, ?_, rfl⟩
    ·rw [List.length_drop]; omega
    ·simp only [has, ↓amD, amU, simprocAttr, zipEnv, h2, h4]
  ·have e0 : ((0 : Int) < (q.length : Int)) = False := eq_false (by omega)
   have hq0 : q = [] := List.eq_nil_of_length_eq_zero (by omega)
   subst hq0
   simp only [↓amD, amU, simprocAttr, zipEnv, h1, h2, h4, e0, bs_len, decide_false]
   rw [← hf]
   exact .val _ rfl
 ·simp only [has, ↓amD, amU, simprocAttr, zipEnv]
def rdNil : D → Option Unit
 | .raw (.slice none 0 0) => some ()
 | _ => none
theorem rdNil_some {d : D} {u : Unit} (h : rdNil d = some u) : d = .raw (.slice none 0 0) := by
 unfold rdNil at h
 split at h
 ·rfl
 ·cases h
theorem copy_row {rows : Rows} {r off len : Nat} {ex : Bool} {l src : List (BitVec 8)} {k : D → Rows → Prop} (hl : live rows r = some ⟨L8, bs l⟩) (hn : off + len ≤ l.length) :
  aCopy rows L8 (.sl L8 r [] off len ex) (bs src) k = k (.raw (it ((min src.length len : Nat) : Int))) (rows.set r (some ⟨L8, bs (splice l off (src.take (min src.length len)))⟩)) := by
 unfold aCopy
 simp only [hl, bnd, bs_len, bs_take, bs_splice, hn, true_and]
 rfl
def fBJoin : Fn := fn2 rdBss rdNil (fun ls _ => Nat.ble ls.length most && Nat.ble ls.flatten.length most) fun ls _ => outBs ls.flatten false
theorem take_flat (ls : List (List (BitVec 8))) (i : Nat) : ((ls.take i).flatten).length ≤ ls.flatten.length := by
 have : ls = ls.take i ++ ls.drop i := (List.take_append_drop _ _).symm
 calc ((ls.take i).flatten).length ≤ ((ls.take i ++ ls.drop i).flatten).length := by simp only [List.flatten_append, List.length_append]; omega
  _ = ls.flatten.length := by rw [← this]
theorem take_flat_succ (ls : List (List (BitVec 8))) (i : Nat) (h : i < ls.length) : (ls.take (i + 1)).flatten = (ls.take i).flatten ++ ls[i] := by
 rw [List.take_succ_eq_append_getElem h, List.flatten_append, List.flatten_cons, List.flatten_nil, List.append_nil]
theorem splice_at (acc junk x : List (BitVec 8)) (h : x.length ≤ junk.length) : splice (acc ++ junk) acc.length x = (acc ++ x) ++ junk.drop x.length := by
 unfold splice
 have h1 : (acc ++ junk).take acc.length = acc := by simp
 have h2 : (acc ++ junk).drop (acc.length + x.length) = junk.drop x.length := by
  rw [List.drop_append, List.drop_eq_nil_of_le (by omega), List.nil_append]; congr 1; omega
 rw [h1, h2]
theorem bjoin_ok (C : Ctx) (hC : CtxOK C P) : Meets C.glob P 71 (Fn.run fBJoin) := by
 refine fn_meets (m_bytes_Join C hC) fun ds rows r h => ?_
 obtain ⟨d, e0, ls, u, rfl, rfl, hd, he, hp, rfl⟩ := fn2_some h
 obtain ⟨l, e, rfl, hl⟩ := rdBss_some hd
 cases rdNil_some he
 simp only [Bool.and_eq_true, Nat.ble_eq] at hp
 obtain ⟨hp1, hp2⟩ := hp
 unfold most at hp1 hp2
 obtain ⟨hlen, hget⟩ := mapO_get hl
 clear h hd he
 refine ⟨rfl, afun_mk rfl ?_⟩
 have hbs : ∀ i (hi : i < ls.length), ∃ x, l[i]? = some x ∧ IsBs x ls[i] := fun i hi => by
  have hi2 : i < l.length := by omega
  have hli : l[i]? = some l[i] := List.getElem?_eq_getElem hi2
  exact ⟨_, hli, rdBs_some (hget i _ _ hli (List.getElem?_eq_getElem hi))⟩
 have hsrc : ∀ x y rows, IsBs x y → srcOf rows (.leaf (.int .u8)) x = some (bs y) := by
  intro x y rows hb
  rcases hb with ⟨h, h2⟩ | ⟨e, h⟩
  ·rw [h, h2]; rfl
  ·rw [h]; simp [srcOf, Am.sshape, Am.elems]
 have hfit : ∀ x y, IsBs x y → D.fits x .ref = true := fun x y hb => by rcases hb with ⟨h, _⟩ | ⟨e, h⟩ <;> rw [h] <;> rfl
 unfold a_bytes_Join r_bytes_Join
 by_cases h0 : ls.length = 0
 ·have hls : ls = [] := List.eq_nil_of_length_eq_zero h0
  have hl0 : l = [] := List.eq_nil_of_length_eq_zero (by omega)
  subst hls hl0
  simp only [↓amD, amU, simprocAttr, zipEnv]
  exact .own _ 0 0 _ true false _ rfl rfl (fun h => by cases h)
 ·by_cases h1 : ls.length = 1
  ·obtain ⟨y, rfl⟩ : ∃ y, ls = [y] := by
    match ls, h1 with
    | [y], _ => exact ⟨y, rfl⟩
   obtain ⟨x, hx, hb⟩ := hbs 0 (by simp)
   have hb' : IsBs x y := hb
   have hll : l.length = 1 := by rw [← hlen]; rfl
   have hlx : l[0]? = some x := hx
   simp only [↓amD, amU, simprocAttr, zipEnv, hll, hlx, hfit _ _ hb', hsrc _ _ _ hb', hb'.slen, bs_len, decide_true, decide_false]
   have hyl : y.length ≤ 1099511627776 := by simpa using hp2
   refine ⟨by omega, hyl, ?_⟩
   have e1 : [y].flatten = y := by simp
   rw [e1]
   exact .own _ 0 0 _ false false _ rfl rfl (fun h => by cases h)
  ·have hl2 : 2 ≤ l.length := by omega
   have c0 : ((l.length : Int) = 0) = False := eq_false (by omega)
   have c1 : ((l.length : Int) = 1) = False := eq_false (by omega)
   simp only [↓amD, amU, simprocAttr, zipEnv, c0, c1, decide_false]
   refine kLoop_up l.length (fun i env rows => has env [(0, .lst .ref l e), (1, .raw (.slice none 0 0)), (42, .lst .ref l e), (43, .raw (it l.length)), (44, .raw (it (i : Int))), (5, .raw (it (((ls.take i).flatten).length : Int)))] ∧ rows = []) ?_ ?_ ⟨?_, rfl⟩
   ·rintro i hi env rows ⟨hh, rfl⟩ R hR
    simp only [has] at hh
    obtain ⟨q0, q1, q42, q43, q44, q5, -⟩ := hh
    obtain ⟨x, hx, hb⟩ := hbs i (by omega)
    have hltI : ((i : Int) < (l.length : Int)) = True := eq_true (by omega)
    have hw := wz_succ i (by omega)
    have h0i : ((0 : Int) ≤ (i : Int)) = True := eq_true (by omega)
    have s1 := take_flat ls (i + 1)
    have s2 : ((ls.take (i + 1)).flatten).length = ((ls.take i).flatten).length + ls[i].length := by rw [take_flat_succ ls i (by omega), List.length_append]
    have w1 : wz (9223372036854775807 - (((ls.take i).flatten).length : Int)) = 9223372036854775807 - (((ls.take i).flatten).length : Int) := wz_id (by omega)
    have w2 : ((9223372036854775807 - (((ls.take i).flatten).length : Int)) < (ls[i].length : Int)) = False := eq_false (by omega)
    have w3 : wz ((((ls.take i).flatten).length : Int) + (ls[i].length : Int)) = (((ls.take (i + 1)).flatten).length : Int) := by rw [wz_id (by omega)]; omega
    simp only [↓amD, amU, simprocAttr, zipEnv, q0, q1, q42, q43, q44, q5, hltI, hw, h0i, hx, hfit _ _ hb, hb.slen, w1, w2, w3, decide_true, decide_false]
    exact hR _ _ ⟨by simp only [has, ↓amD, amU, simprocAttr, zipEnv, q0, q1, q42, q43], rfl⟩
   ·rintro env rows ⟨hh, rfl⟩ R
    simp only [has] at hh
    obtain ⟨q0, q1, q42, q43, q44, q5, -⟩ := hh
    have hall : (ls.take l.length).flatten = ls.flatten := by rw [← hlen, List.take_length]
    rw [hall] at q5
    obtain ⟨N, hN⟩ : ∃ N, ls.flatten.length = N := ⟨_, rfl⟩
    rw [hN] at q5
    have nl : ((l.length : Int) < (l.length : Int)) = False := eq_false (by omega)
    have n1 : ((0 : Int) ≤ (N : Int)) = True := eq_true (by omega)
    have n2 : ((N : Int) ≤ 1099511627776) = True := eq_true (by omega)
    have n3 : ((N : Int) ≤ (N : Int)) = True := eq_true (by omega)
    have n4 : ∀ q : List (BitVec 8), (q.map fun b => D.raw (u8 b)) = bs q := fun q => rfl
    simp only [↓amD, amU, simprocAttr, zipEnv, q0, q1, q42, q43, q44, q5, nl, n1, n2, n3, n4, decide_false, Nat.sub_zero]
    intro junk hj
    obtain ⟨x, hx, hb⟩ := hbs 0 (by omega)
    have hx0 : l[0]? = some x := hx
    have p0 : ((0 : Int) < (l.length : Int)) = True := eq_true (by omega)
    have p1 : ((1 : Int) ≤ (l.length : Int)) = True := eq_true (by omega)
    simp only [↓amD, amU, simprocAttr, zipEnv, q0, q1, q42, q43, q44, q5, nl, n1, n2, n3, n4, p0, p1, hx0, hfit _ _ hb, hsrc _ _ _ hb, hb.slen, bs_len, decide_true]
    have hl0 : ls[0].length ≤ N := by
     have := take_flat ls 1
     rw [take_flat_succ ls 0 (by omega)] at this
     simp only [List.take_zero, List.flatten_nil, List.nil_append] at this
     omega
    refine Eq.mpr (copy_row (l := junk) (src := ls[0]) rfl (by omega)) ?_
    have t0 : ls[0].take (min ls[0].length N) = ls[0] := List.take_of_length_le (by omega)
    have t1 : splice junk 0 ls[0] = (ls.take 1).flatten ++ junk.drop ls[0].length := by
     have := splice_at [] junk ls[0] (by omega)
     simp only [List.nil_append, List.length_nil] at this
     rw [this, take_flat_succ ls 0 (by omega)]; simp
    have t2 : min ls[0].length N = ((ls.take 1).flatten).length := by rw [take_flat_succ ls 0 (by omega)]; simp; omega
    have t3 : ((l.drop 1).take (l.length - 1)).length = l.length - 1 := by simp
    rw [t0, t1, t2]
    simp only [↓amD, amU, simprocAttr, zipEnv, q0, q1, q42, q43, q44, q5, p1, n3, t3, decide_true]
    generalize hexx : exOf (some (N : Int)) N N N false = exx
    generalize hexy : exOf none l.length l.length l.length e = exy
    refine kLoop_up (l.length - 1) (fun i env rows => has env [(1, .raw (.slice none 0 0)), (70, .lst .ref ((l.drop 1).take (l.length - 1)) exy), (71, .raw (it ((l.length - 1 : Nat) : Int))), (72, .raw (it (i : Int))), (8, .sl L8 0 [] 0 N exx), (9, .raw (it (((ls.take (i + 1)).flatten).length : Int)))] ∧
     ∃ q : List (BitVec 8), rows = [some ⟨L8, bs ((ls.take (i + 1)).flatten ++ q)⟩] ∧ ((ls.take (i + 1)).flatten).length + q.length = N) ?_ ?_ ⟨?_, _, rfl, ?_⟩
    ·rintro i hi env rows ⟨hh, q, rfl, hq⟩ R hR
     simp only [has] at hh
     obtain ⟨q1, q70, q71, q72, q8, q9, -⟩ := hh
     obtain ⟨x, hx, hb⟩ := hbs (i + 1) (by omega)
     have hx1 : ((l.drop 1).take (l.length - 1))[i]? = some x := by
      rw [List.getElem?_take, if_pos (by omega), List.getElem?_drop, Nat.add_comm]; exact hx
     have s1 := take_flat ls (i + 1 + 1)
     have s0 := take_flat_succ ls (i + 1) (by omega)
     have s2 : ((ls.take (i + 1 + 1)).flatten).length = ((ls.take (i + 1)).flatten).length + ls[i + 1].length := by rw [s0, List.length_append]
     generalize hacc : (ls.take (i + 1)).flatten = acc at *
     have hltI : ((i : Int) < ((l.length - 1 : Nat) : Int)) = True := eq_true (by omega)
     have hw := wz_succ i (by omega)
     have h0i : ((0 : Int) ≤ (i : Int)) = True := eq_true (by omega)
     have b0 : ((0 : Int) ≤ (acc.length : Int)) = True := eq_true (by omega)
     have b1 : ((acc.length : Int) ≤ (N : Int)) = True := eq_true (by omega)
     have b2 : wz ((acc.length : Int) + 0) = acc.length := by rw [Int.add_zero]; exact wz_id (by omega)
     simp only [↓amD, amU, simprocAttr, zipEnv, q1, q70, q71, q72, q8, q9, hltI, hw, h0i, hx1, t3, hfit _ _ hb, b0, b1, n3, decide_true]
     refine Eq.mpr (copy_row (l := acc ++ q) (src := []) rfl (by rw [List.length_append]; omega)) ?_
     have u0 : splice (acc ++ q) acc.length (([] : List (BitVec 8)).take (min ([] : List (BitVec 8)).length (N - acc.length))) = acc ++ q := by rw [List.take_nil, splice_nil]
     have u1 : (min ([] : List (BitVec 8)).length (N - acc.length)) = 0 := by simp
     rw [u0, u1]
     simp only [↓amD, amU, simprocAttr, zipEnv, q1, q70, q71, q72, q8, q9, hw, h0i, hsrc _ _ _ hb, hb.slen, bs_len, b0, b1, b2, n3, decide_true]
     refine Eq.mpr (copy_row (l := acc ++ q) (src := ls[i + 1]) rfl (by rw [List.length_append]; omega)) ?_
     have u2 : ls[i + 1].take (min ls[i + 1].length (N - acc.length)) = ls[i + 1] := List.take_of_length_le (by omega)
     have u3 : min ls[i + 1].length (N - acc.length) = ls[i + 1].length := by omega
     have u4 : wz ((acc.length : Int) + (ls[i + 1].length : Int)) = (((ls.take (i + 1 + 1)).flatten).length : Int) := by rw [wz_id (by omega)]; omega
     rw [u2, u3, splice_at _ _ _ (by omega)]
     simp only [↓amD, amU, simprocAttr, zipEnv, q1, q70, q71, q72, q8, q9, hw, u4]
     exact hR _ _ ⟨by simp only [has, ↓amD, amU, simprocAttr, zipEnv, q1, q70, q71, q8], q.drop ls[i + 1].length, by rw [s0], by rw [List.length_drop]; omega⟩
    ·rintro env rows ⟨hh, q, rfl, hq⟩ R
     simp only [has] at hh
     obtain ⟨q1, q70, q71, q72, q8, q9, -⟩ := hh
     have e1 : l.length - 1 + 1 = ls.length := by omega
     rw [e1, List.take_length] at hq ⊢
     have hq0 : q = [] := List.eq_nil_of_length_eq_zero (by omega)
     have nl2 : (((l.length - 1 : Nat) : Int) < ((l.length - 1 : Nat) : Int)) = False := eq_false (by omega)
     subst hq0
     simp only [↓amD, amU, simprocAttr, zipEnv, q1, q70, q71, q72, q8, q9, nl2, decide_false, List.append_nil]
     rw [← hN]
     exact .own _ 0 0 _ exx false _ rfl rfl (fun h => by cases h)
    ·simp only [has, ↓amD, amU, simprocAttr, zipEnv, q1]
    ·rw [List.length_drop, ← t2]; omega
   ·simp only [has, ↓amD, amU, simprocAttr, zipEnv, List.flatten_nil]
def st0 : St := ⟨firstL, zero64, 0#64⟩
def sumSt (s : St) : List (BitVec 8) := digS (feed s (padS s.n)).h
def sumS (p : List (BitVec 8)) : List (BitVec 8) := sumSt (feed st0 p)
theorem st0_ok : st0.ok = true := rfl
def fNew : Fn
 | [], [] => some (stD st0, [])
 | _, _ => none
theorem new_ok (C : Ctx) (hC : CtxOK C P) (hg : C.glob 1 = some (h8D firstL)) : Meets C.glob P 69 (Fn.run fNew) := by
 refine fn_meets (m_sha_New C hC) fun ds rows r h => ?_
 unfold fNew at h
 split at h
 ·cases h
  refine ⟨rfl, afun_mk rfl ?_⟩
  unfold a_sha_New r_sha_New
  simp only [↓amD, amU, simprocAttr, zipEnv, hg, h8D]
  exact .val _ rfl
 ·cases h
theorem kNew (rows : Rows) (k : D → Rows → Prop) : kCall fNew rows k [] = k (stD st0) rows := by
 refine (kCall_val rfl (r := (stD st0, [])) rfl).trans ?_
 simp [shift, shiftRows, stD, Sh.pure]
theorem st_ok {s : St} (h : s.ok = true) : s.h.length = 8 ∧ s.rest.length = 64 := by
 simpa [St.ok] using h
theorem kFeed (rows : Rows) (k : D → Rows → Prop) (s : St) (d : D) (p : List (BitVec 8)) (h : BsIn rows d p) (hs : s.ok = true) : kCall fFeed rows k [stD s, d] = k (stD (feed s p)) rows := by
 obtain ⟨⟨d', hd', hb⟩, hn⟩ := h
 have e1 : ∀ d2, rdBs d2 = some p → fFeed [stD s, d2] [] = some (stD (feed s p), []) := fun d2 h2 => fn2_eq (rdOf_eq stD_inj s) h2 hs
 have hr : hasRef (stD s) = false := by simp [stD, hasRef, Sh.pure]
 have hv : view rows 9 (stD s) = some (stD s) := by simp [stD, view, Sh.pure]
 unfold kCall
 have h1 : hasRefL [stD s, d] = hasRef d := by simp [hasRefL, hr]
 rw [h1]
 have hsh : shift rows.length (stD (feed s p)) = stD (feed s p) := by simp [stD, shift, Sh.pure]
 have hno : noLst (stD (feed s p)) = true := by simp [stD, noLst, Sh.pure]
 cases hh : hasRef d with
 | true =>
  simp only [forall_const, mapO, hv, hd', bnd, e1 _ hb.rd, hno, noLstRows, Bool.and_self, true_and, hsh, shiftRows, List.append_nil]
  simp
 | false =>
  simp only [forall_const, bnd, e1 _ (hn hh).rd, hsh, shiftRows, List.append_nil]
  simp
noncomputable def fStSum : Fn := fn1 (rdOf stD) (fun s => s.ok) fun s => (d32D (sumSt s), [])
theorem stsum_ok (C : Ctx) (hC : CtxOK C P) (h1 : C.fn 85 = some fPad) (h2 : C.fn 70 = some fFeed) (h3 : C.fn 84 = some fDigest) : Meets C.glob P 72 (Fn.run fStSum) := by
 refine fn_meets (m_sha_State_Sum C hC) fun ds rows r h => ?_
 obtain ⟨d, s, rfl, rfl, hd, hok, rfl⟩ := fn1_some h
 cases rdOf_some hd
 refine ⟨rfl, afun_mk rfl ?_⟩
 clear h hd
 have hok' := feed_ok (padS s.n) s hok
 have e := st_ok hok'
 unfold a_sha_State_Sum r_sha_State_Sum
 have hst : stD s = .agg S10 [.agg (.ar 8 L32) (us s.h), .agg (.ar 64 L8) (bs s.rest), .raw (u64 s.n)] := rfl
 rw [hst]
 simp only [↓amD, amU, simprocAttr, zipEnv, h1, h2, h3, kPad]
 rw [← hst]
 refine Eq.mpr (kFeed _ _ _ _ (padS s.n) (BsIn.own rfl _ rfl) hok) ?_
 simp only [stD, ↓amD, amU, simprocAttr, zipEnv, h1, h2, h3]
 rw [kDigest _ _ _ e.1]
 simp only [↓amD, amU, simprocAttr, zipEnv]
 exact .val _ rfl
theorem kStSum (rows : Rows) (k : D → Rows → Prop) (s : St) (h : s.ok = true) : kCall fStSum rows k [stD s] = k (.agg (.ar 32 L8) (bs (sumSt s))) rows := by
 refine (kCall_val (by simp [hasRefL, hasRef, stD, Sh.pure]) (r := (d32D (sumSt s), [])) ?_).trans ?_
 ·exact fn1_eq (rdOf_eq stD_inj s) h
 ·simp [shift, shiftRows, d32D, Sh.pure]
def fSum : Fn := fn1 rdBss (fun ls => Nat.ble ls.length most && Nat.ble ls.flatten.length most) fun ls => (d32D (sumS ls.flatten), [])
theorem sum_ok (C : Ctx) (hC : CtxOK C P) (h1 : C.fn 69 = some fNew) (h2 : C.fn 70 = some fFeed) (h3 : C.fn 71 = some fBJoin) (h4 : C.fn 72 = some fStSum) : Meets C.glob P 37 (Fn.run fSum) := by
 refine fn_meets (m_sha_Sum C hC) fun ds rows r h => ?_
 obtain ⟨d, ls, rfl, rfl, hd, hp, rfl⟩ := fn1_some h
 obtain ⟨l, e, rfl, hl⟩ := rdBss_some hd
 refine ⟨rfl, afun_mk rfl ?_⟩
 have hj : ∀ (rows : Rows) k, kCall fBJoin rows k [.lst .ref l e, .raw (.slice none 0 0)] = k (.sl L8 (0 + rows.length) [] 0 ls.flatten.length false) (rows ++ [some ⟨L8, bs ls.flatten⟩]) := fun rows k => by
  have hnr : hasRefL [.lst .ref l e, .raw (.slice none 0 0)] = false := by
   have : ∀ (l : List D) (ls : List (List (BitVec 8))), mapO rdBs l = some ls → hasRefL l = false := by
    intro l
    induction l with
    | nil => intro _ _; rfl
    | cons x l ih =>
     intro ls h
     simp only [mapO] at h
     split at h
     ·rename_i y hy
      split at h
      ·rename_i ys hys
       have hx : hasRef x = false := by
        rcases rdBs_some hy with ⟨h, _⟩ | ⟨e, h⟩ <;> rw [h] <;> rfl
       simp [hasRefL, hx, ih _ hys]
      ·cases h
     ·cases h
   simp [hasRefL, hasRef, Sh.pure, this l ls hl]
  refine (kCall_val hnr (r := outBs ls.flatten false) ?_).trans ?_
  ·exact fn2_eq hd rfl hp
  ·simp [outBs, shift, shiftRows, Sh.pure]
 clear h
 have hok := feed_ok ls.flatten st0 st0_ok
 unfold a_sha_Sum r_sha_Sum
 simp only [↓amD, amU, simprocAttr, zipEnv, h1, h2, h3, h4, kNew, hj]
 refine Eq.mpr (kFeed _ _ _ _ ls.flatten (BsIn.own rfl _ rfl) st0_ok) ?_
 simp only [↓amD, amU, simprocAttr, zipEnv, h4]
 rw [kStSum _ _ _ hok]
 simp only [↓amD, amU, simprocAttr, zipEnv]
 exact .val _ rfl
theorem num8 (m : BitVec 64) : numL 8 m = be8 m 8 := by
 have d1 : ∀ x : BitVec 64, x / 256#64 = x >>> 8 := fun x => by
  apply BitVec.eq_of_toNat_eq
  rw [BitVec.toNat_udiv, BitVec.toNat_ushiftRight, Nat.shiftRight_eq_div_pow]; rfl
 have d2 : ∀ x : BitVec 64, (x % 256#64).setWidth 8 = x.setWidth 8 := fun x => by
  apply BitVec.eq_of_toNat_eq
  rw [BitVec.toNat_setWidth, BitVec.toNat_setWidth, BitVec.toNat_umod]
  simp
 have d3 : ∀ (x : BitVec 64) (i j : Nat), (x >>> i) >>> j = x >>> (i + j) := fun x i j => (BitVec.shiftRight_add x i j).symm
 simp only [numL, d1, d2, d3, be8, List.range_succ, List.range_zero, List.nil_append, List.map_append, List.map_cons, List.map_nil, List.cons_append, Nat.reduceAdd, Nat.reduceMul, Nat.reduceSub, BitVec.ushiftRight_zero]
theorem shl3 (n : BitVec 64) : 8#64 * n = n <<< 3 := by
 apply BitVec.eq_of_toNat_eq
 rw [BitVec.toNat_mul, BitVec.toNat_shiftLeft, Nat.shiftLeft_eq]; simp; omega
theorem zerosN_of (L : Nat) (h : L < 18446744073709551616) : zerosN (BitVec.ofNat 64 L) = (119 - L % 64) % 64 := by
 unfold zerosN
 have : (BitVec.ofNat 64 L).toNat = L := by simp; omega
 rw [BitVec.toNat_umod, BitVec.toNat_sub, BitVec.toNat_umod, this]
 simp; omega
def textS (p : List (BitVec 8)) : List (BitVec 8) := p ++ padS (BitVec.ofNat 64 p.length)
def blkH (p : List (BitVec 8)) (j : Nat) : List (BitVec 32) := (feed st0 ((textS p).take (64 * j))).h
theorem text_len (p : List (BitVec 8)) (h : p.length < 18446744073709551616) : (textS p).length % 64 = 0 ∧ (textS p).length ≤ p.length + 72 := by
 have hz := zerosN_of p.length h
 rw [textS, List.length_append, padS_len, hz]
 omega
theorem feed_blk (t : List (BitVec 8)) : ∀ (j : Nat), 64 * j ≤ t.length → (feed st0 (t.take (64 * j))).rest = zero64 ∧ (feed st0 (t.take (64 * j))).n = BitVec.ofNat 64 (64 * j) ∧ (feed st0 (t.take (64 * j))).h.length = 8
 | 0, _ => ⟨rfl, rfl, rfl⟩
 | j + 1, h => by
  obtain ⟨h1, h2, h3⟩ := feed_blk t j (by omega)
  have e : t.take (64 * (j + 1)) = t.take (64 * j) ++ (t.drop (64 * j)).take 64 := by
   rw [show 64 * (j + 1) = 64 * j + 64 by omega, List.take_add]
  have hx : ((t.drop (64 * j)).take 64).length = 64 := by rw [List.length_take, List.length_drop]; omega
  have ha : (feed st0 (t.take (64 * j))).n.toNat % 64 = 0 := by rw [h2, BitVec.toNat_ofNat]; omega
  have hf := feed_full (feed st0 (t.take (64 * j))) (by rw [h1]; rfl) ((t.drop (64 * j)).take 64) (by rw [ha, hx])
  rw [e, feed_app, hf]
  refine ⟨rfl, ?_, ?_⟩
  ·show (feed st0 (t.take (64 * j))).n + _ = _
   rw [h2, hx]
   apply BitVec.eq_of_toNat_eq
   simp only [BitVec.toNat_add, BitVec.toNat_ofNat]; omega
  ·exact press_len _ _ h3
theorem blkH_succ (p : List (BitVec 8)) (j : Nat) (h : 64 * (j + 1) ≤ (textS p).length) : blkH p (j + 1) = pressS (blkH p j) (((textS p).drop (64 * j)).take 64) := by
 unfold blkH
 generalize textS p = t at *
 obtain ⟨h1, h2, h3⟩ := feed_blk t j (by omega)
 have e : t.take (64 * (j + 1)) = t.take (64 * j) ++ (t.drop (64 * j)).take 64 := by
  rw [show 64 * (j + 1) = 64 * j + 64 by omega, List.take_add]
 have hx : ((t.drop (64 * j)).take 64).length = 64 := by rw [List.length_take, List.length_drop]; omega
 have ha : (feed st0 (t.take (64 * j))).n.toNat % 64 = 0 := by rw [h2, BitVec.toNat_ofNat]; omega
 have hf := feed_full (feed st0 (t.take (64 * j))) (by rw [h1]; rfl) ((t.drop (64 * j)).take 64) (by rw [ha, hx])
 rw [e, feed_app, hf, ha, h1]
 have hs : splice zero64 0 ((t.drop (64 * j)).take 64) = (t.drop (64 * j)).take 64 := by
  unfold splice
  have hz : zero64.drop (0 + ((t.drop (64 * j)).take 64).length) = [] := List.drop_eq_nil_of_le (by rw [hx]; exact Nat.le_refl _)
  rw [List.take_zero, List.nil_append, hz, List.append_nil]
 rw [hs]
theorem blkH_len (p : List (BitVec 8)) (j : Nat) (h : 64 * j ≤ (textS p).length) : (blkH p j).length = 8 := (feed_blk _ j h).2.2
theorem sumS_eq (p : List (BitVec 8)) : sumS p = digS (blkH p ((textS p).length / 64)) ∨ ¬ (textS p).length % 64 = 0 := by
 by_cases h : (textS p).length % 64 = 0
 ·left
  have e : 64 * ((textS p).length / 64) = (textS p).length := by omega
  have hn : (feed st0 p).n = BitVec.ofNat 64 p.length := by rw [feed_n]; show 0#64 + _ = _; rw [BitVec.zero_add]
  rw [blkH, e, List.take_length, textS, feed_app, sumS, sumSt, hn]
 ·exact .inr h
theorem kPressR (rows : Rows) (k : D → Rows → Prop) (h : List (BitVec 32)) (d : D) (b : List (BitVec 8)) (hd : BsIn rows d b) (hh : h.length = 8) (hb : b.length = 64) : kCall fPressR rows k [.agg (.ar 8 L32) (us h), d] = k (.agg (.ar 8 L32) (us (pressS h b))) rows := by
 obtain ⟨⟨d', hd', hbd⟩, hn⟩ := hd
 have e1 : ∀ d2, rdBs d2 = some b → fPressR [.agg (.ar 8 L32) (us h), d2] [] = some (h8D (pressS h b), []) := fun d2 h2 => fn2_eq (rdOf_eq h8D_inj h) h2 (by simp [hh, hb])
 have hr : hasRef (.agg (.ar 8 L32) (us h)) = false := by simp [hasRef, Sh.pure]
 have hv : view rows 9 (.agg (.ar 8 L32) (us h)) = some (.agg (.ar 8 L32) (us h)) := by simp [view, Sh.pure]
 unfold kCall
 have h1 : hasRefL [.agg (.ar 8 L32) (us h), d] = hasRef d := by simp [hasRefL, hr]
 rw [h1]
 have hsh : shift rows.length (h8D (pressS h b)) = h8D (pressS h b) := by simp [h8D, shift, Sh.pure]
 have hno : noLst (h8D (pressS h b)) = true := by simp [h8D, noLst, Sh.pure]
 cases hh : hasRef d with
 | true =>
  simp only [forall_const, mapO, hv, hd', bnd, e1 _ hbd.rd, hno, noLstRows, Bool.and_self, true_and, hsh, shiftRows, List.append_nil]
  simp [h8D]
 | false =>
  simp only [forall_const, bnd, e1 _ (hn hh).rd, hsh, shiftRows, List.append_nil]
  simp [h8D]
theorem fill8_set {l : List (BitVec 8)} {n : Nat} (h : l.length < n) (x : BitVec 8) : (fill8 l n).set l.length x = fill8 (l ++ [x]) n := by
 obtain ⟨k, hk⟩ : ∃ k, n - l.length = k + 1 := ⟨n - l.length - 1, by omega⟩
 have h2 : n - (l ++ [x]).length = k := by simp; omega
 rw [fill8, fill8, hk, h2, List.replicate_succ, List.set_append_right _ _ (Nat.le_refl _)]
 simp
theorem kNum8 (rows : Rows) (k : D → Rows → Prop) (n : BitVec 64) : kCall fNumS rows k [.raw (u64 n), .raw (it 8)] = k (.sl L8 (0 + rows.length) [] 0 8 false) (rows ++ [some ⟨L8, bs (numL 8 n)⟩]) := by
 refine (kCall_val rfl (r := outBs (numL 8 n) false) ?_).trans ?_
 ·rw [fNumS, fn2_eq (rd64_eq _) (rdI_eq 8) (by decide)]; rfl
 ·simp [outBs, shift, shiftRows, Sh.pure, numL_len]
def fRSum : Fn := fn1 rdBs (fun p => Nat.ble p.length 1099511627000) fun p => (d32D (sumS p), [])
theorem rsum_ok (C : Ctx) (hC : CtxOK C P) (h9 : C.fn 9 = some fCut) (h21 : C.fn 43 = some fPressR) (h24 : C.fn 42 = some fNumS) : Meets C.glob P 18 (Fn.run fRSum) := by
 refine fn_meetsN (m_ref01_Sum C hC) fun ds rows r h => ?_
 obtain ⟨d, p, rfl, rfl, hd, hp, rfl⟩ := fn1_some h
 obtain ⟨x0, hx⟩ := rdBs_nrm hd
 simp only [Nat.ble_eq] at hp
 refine ⟨rfl, _, .cons hx .nil, afun_mk rfl ?_⟩
 clear h hd hx
 unfold a_ref01_Sum r_ref01_Sum
 have hcut := fun rows k => kCut rows k (.lst L8 (bs p) x0) p (p.length : Int) (.inr ⟨x0, rfl⟩) (by omega) (by rw [List.length_take]; omega)
 have ht : p.take (p.length : Int).toNat = p := by rw [Int.toNat_natCast, List.take_length]
 simp only [ht] at hcut
 simp only [↓amD, amU, simprocAttr, zipEnv, amR, h9, bs_len, hcut, List.nil_append]
 have htl : (bs p).take p.length = bs p := bs_take_len p
 have hof : BitVec.ofInt 64 (p.length : Int) = BitVec.ofNat 64 p.length := rfl
 simp only [htl, hof]
 refine ⟨bs_len p, by omega, by omega, ?_⟩
 obtain ⟨z, hz⟩ : ∃ z, zerosN (BitVec.ofNat 64 p.length) = z := ⟨_, rfl⟩
 have hz1 : z = (119 - p.length % 64) % 64 := by rw [← hz]; exact zerosN_of _ (by omega)
 have ne0 : ∀ {rows : Rows} {x : D} {l : List (BitVec 8)} {y : D}, Own L8 x rows (bs l) → live rows 0 = some ⟨.ar 32 L8, [y]⟩ → ∀ ex, x ≠ .sl L8 0 [] 0 (bs l).length ex := by
  intro rows x l y how hl ex he
  rcases how with ⟨_, h⟩ | ⟨r, ex', h, hr⟩
  ·rw [h] at he; cases he
  ·rw [h] at he
   injection he with _ hr0
   subst hr0
   rw [hl] at hr
   cases hr
 have tm : ∀ n : Nat, ((n : Int).tmod 64) = ((n % 64 : Nat) : Int) := fun n => by rw [Int.tmod_eq_emod_of_nonneg (by omega)]; omega
 have how0 : ∀ R : Rows, live R 3 = some ⟨L8, bs p ++ [.raw (u8 128#8)]⟩ → Own L8 (.sl L8 3 [] 0 (p.length + 1) false) R (bs (p ++ [128#8] ++ List.replicate 0 0#8)) := fun R h => by
  refine .inr ⟨3, false, by rw [bs_len]; simp, ?_⟩
  rw [List.replicate_zero, List.append_nil, bs_snoc]; exact h
 refine kLoop_up z (fun i env rows => ∃ x y, has env [(0, x), (3, .raw (u64 (BitVec.ofNat 64 p.length))), (2, .ptr (.ar 32 L8) 0 [0])] ∧ live rows 0 = some ⟨.ar 32 L8, [y]⟩ ∧ Own L8 x rows (bs (p ++ [128#8] ++ List.replicate i 0#8))) ?_ ?_ ⟨_, _, ?_, rfl, how0 _ rfl⟩
 ·rintro i hi env rows ⟨x, y, hh, r0, how⟩ R hR
  simp only [has] at hh
  obtain ⟨q0, q3, q2, -⟩ := hh
  have hl : (p ++ [128#8] ++ List.replicate i 0#8).length = p.length + 1 + i := by simp; omega
  have hl2 : (bs (p ++ [128#8] ++ List.replicate i 0#8)).length = p.length + 1 + i := by rw [bs_len, hl]
  have c1 : (((p.length + 1 + i : Nat) : Int).tmod 64 = 56) = False := eq_false (by rw [tm]; omega)
  simp only [↓amD, amU, simprocAttr, zipEnv, q0, q3, q2, how.slen, hl2, c1, decide_false]
  refine app_own how.push (by rw [hl2]; simp only [List.length_cons, List.length_nil]; unfold most; omega) (by rw [hl2]; simp only [List.length_cons, List.length_nil]; unfold most; omega) ?_
  intro x' rows' how' hk _ _
  simp only [↓amD, amU, simprocAttr, zipEnv, q0, q3, q2]
  refine hR _ _ ⟨x', y, by simp only [has, ↓amD, amU, simprocAttr, zipEnv, q3, q2], hk 0 _ (live_push r0) (fun ex => ne0 how r0 ex), ?_⟩
  rw [List.replicate_succ', ← List.append_assoc, bs_snoc]
  exact how'
 ·rintro env rows ⟨x, y, hh, r0, how⟩ R
  simp only [has] at hh
  obtain ⟨q0, q3, q2, -⟩ := hh
  have hl : (p ++ [128#8] ++ List.replicate z 0#8).length = p.length + 1 + z := by simp; omega
  have hl2 : (bs (p ++ [128#8] ++ List.replicate z 0#8)).length = p.length + 1 + z := by rw [bs_len, hl]
  have c1 : (((p.length + 1 + z : Nat) : Int).tmod 64 = 56) = True := eq_true (by rw [tm]; omega)
  have b8 : (bs (be8 (BitVec.ofNat 64 p.length <<< 3) 8)).take 8 = bs (be8 (BitVec.ofNat 64 p.length <<< 3) 8) := by rw [bs_take]; congr 1
  have b9 : (bs (be8 (BitVec.ofNat 64 p.length <<< 3) 8)).length = 8 := by rw [bs_len, be8_len]
  generalize hT : p ++ [128#8] ++ List.replicate z 0#8 = T at *
  generalize hK : p.length + 1 + z = K at hl hl2 c1
  simp only [↓amD, amU, simprocAttr, zipEnv, amR, q0, q3, q2, how.slen, hl2, c1, h24, kNum8, shl3, num8, b8, b9, decide_true]
  refine app_own how.push (by rw [hl2, b9]; unfold most; omega) (by rw [hl2, b9]; unfold most; omega) ?_
  intro x' rows' how' hk _ hx'
  have r0' := hk 0 _ (live_push r0) (fun ex => ne0 how r0 ex)
  have htx : bs T ++ bs (be8 (BitVec.ofNat 64 p.length <<< 3) 8) = bs (textS p) := by
   rw [bs_app, ← hT]; simp only [textS, padS, hz, List.append_assoc]
  rw [htx] at how' hx'
  obtain ⟨rt, ext, hx'⟩ := hx'
  rw [bs_len] at hx'
  have hlt : live rows' rt = some ⟨L8, bs (textS p)⟩ := by
   rcases how' with ⟨_, h⟩ | ⟨r2, ex2, h, h2⟩
   ·rw [h] at hx'; cases hx'
   ·rw [bs_len] at h; rw [h] at hx'; cases hx'; exact h2
  subst hx'
  obtain ⟨hm0, hm1⟩ := text_len p (by omega)
  obtain ⟨m, hm⟩ : ∃ m, (textS p).length = 64 * m := ⟨(textS p).length / 64, by omega⟩
  simp only [↓amD, amU, simprocAttr, zipEnv, amR, q0, q3, q2]
  have hr4 : rt ≠ rows'.length := by have := live_lt hlt; omega
  have hr40 : 0 ≠ rows'.length := by have := live_lt r0'; omega
  refine kLoop_up m (fun j env rows => has env [(0, .sl L8 rt [] 0 (textS p).length ext), (2, .ptr (.ar 32 L8) 0 [0]), (4, .ptr (.ar 8 L32) rows'.length [0]), (5, .raw (it ((64 * j : Nat) : Int)))] ∧ live rows 0 = some ⟨.ar 32 L8, [y]⟩ ∧ live rows rt = some ⟨L8, bs (textS p)⟩ ∧
   live rows rows'.length = some ⟨.ar 8 L32, [.agg (.ar 8 L32) (us (blkH p j))]⟩) ?_ ?_ ⟨?_, live_push r0', live_push hlt, ?_⟩
  ·rintro j hj env rows ⟨hh, r0, rt_, r4⟩ R hR
   simp only [has] at hh
   obtain ⟨q0, q2, q4, q5, -⟩ := hh
   have e0 : (((64 * j : Nat) : Int) < ((textS p).length : Int)) = True := eq_true (by omega)
   have e1 : ((0 : Int) ≤ ((64 * j : Nat) : Int)) = True := eq_true (by omega)
   have e2 : wz (((64 * j : Nat) : Int) + 64) = ((64 * (j + 1) : Nat) : Int) := by rw [wz_id (by omega)]; omega
   have e3 : (((64 * j : Nat) : Int) ≤ ((64 * (j + 1) : Nat) : Int)) = True := eq_true (by omega)
   have e4 : (((64 * (j + 1) : Nat) : Int) ≤ ((textS p).length : Int)) = True := eq_true (by omega)
   have e5 : 64 * (j + 1) - 64 * j = 64 := by omega
   have hbl := blkH_len p j (by omega)
   have s4 : ∀ x, live (rows.set rows'.length (some x)) rows'.length = some x := fun x => live_set_same r4
   simp only [↓amD, amU, simprocAttr, zipEnv, q0, q2, q4, q5, h21, e0, e1, e2, e3, e4, e5, r4, decide_true]
   refine Eq.mpr (kPressR _ _ _ _ _ (BsIn.sub rt_ (by omega)) hbl (by rw [List.length_take, List.length_drop]; omega)) ?_
   rw [← blkH_succ p j (by omega)]
   simp only [↓amD, amU, simprocAttr, zipEnv, q0, q2, q4, q5, e2, r4]
   exact hR _ _ ⟨by simp only [has, ↓amD, amU, simprocAttr, zipEnv, q0, q2, q4], (live_set_ne hr40.symm).trans r0, (live_set_ne hr4.symm).trans rt_, s4 _⟩
  ·rintro env rows ⟨hh, r0, rt_, r4⟩ R
   simp only [has] at hh
   obtain ⟨q0, q2, q4, q5, -⟩ := hh
   have e0 : (((64 * m : Nat) : Int) < ((textS p).length : Int)) = False := eq_false (by omega)
   simp only [↓amD, amU, simprocAttr, zipEnv, amR, q0, q2, q4, q5, e0, live_app r4, decide_false]
   have hS : sumS p = digS (blkH p m) := by
    rcases sumS_eq p with h | h
    ·rw [h, hm]; congr 2; omega
    ·exact absurd hm0 h
   have hbl := blkH_len p m (by omega)
   generalize blkH p m = w at *
   have hr60 : 0 ≠ rows.length := by have := live_lt r0; omega
   refine kLoop_up 8 (fun i env R0 => has env [(2, .ptr (.ar 32 L8) 0 [0]), (46, .agg (.ar 8 L32) (us w)), (6, .ptr (.ar 32 L8) rows.length [0]), (47, .raw (it (i : Int)))] ∧ live R0 0 = some ⟨.ar 32 L8, [y]⟩ ∧
    live R0 rows.length = some ⟨.ar 32 L8, [.agg (.ar 32 L8) (bs (fill8 (digS (w.take i)) 32))]⟩) ?_ ?_ ⟨?_, live_push r0, ?_⟩
   ·rintro i hi env R0 ⟨hh, r0, r6⟩ R hR
    simp only [has] at hh
    obtain ⟨q2, q46, q6, q47, -⟩ := hh
    have e0 : ((i : Int) < 8) = True := eq_true (by omega)
    have e9 : ((0 : Int) ≤ (i : Int)) = True := eq_true (by omega)
    have e11 := wz_succ i (by omega)
    have eg : (us w)[i]? = some (.raw (u32 (w.getD i 0#32))) := us_get (by omega)
    have hl : (digS (w.take i)).length = 4 * i := by rw [digS_len, List.length_take]; omega
    simp only [↓amD, amU, simprocAttr, zipEnv, amR, q2, q46, q6, q47, h24, e0, e9, eg, kNum, decide_true]
    refine kLoop_up 4 (fun j env R1 => has env [(2, .ptr (.ar 32 L8) 0 [0]), (46, .agg (.ar 8 L32) (us w)), (6, .ptr (.ar 32 L8) rows.length [0]), (47, .raw (it (i : Int))), (7, .raw (it (i : Int))), (53, .sl L8 R0.length [] 0 4 false), (54, .raw (it 4)), (55, .raw (it (j : Int)))] ∧ live R1 0 = some ⟨.ar 32 L8, [y]⟩ ∧
     live R1 rows.length = some ⟨.ar 32 L8, [.agg (.ar 32 L8) (bs (fill8 (digS (w.take i) ++ (wordB (w.getD i 0#32)).take j) 32))]⟩ ∧ live R1 R0.length = some ⟨L8, bs (wordB (w.getD i 0#32))⟩) ?_ ?_ ⟨?_, live_push r0, ?_, ?_⟩
    ·rintro j hj env R1 ⟨hh, r0', r6', rn⟩ R hR
     simp only [has] at hh
     obtain ⟨q2, q46, q6, q47, q7, q53, q54, q55, -⟩ := hh
     have f0 : ((j : Int) < 4) = True := eq_true (by omega)
     have f1 : ((0 : Int) ≤ (j : Int)) = True := eq_true (by omega)
     have f2 : wz (4 * (i : Int)) = ((4 * i : Nat) : Int) := by rw [wz_id (by omega)]; omega
     have f3 : wz (((4 * i : Nat) : Int) + (j : Int)) = ((4 * i + j : Nat) : Int) := by rw [wz_id (by omega)]; omega
     have f4 : ((0 : Int) ≤ ((4 * i + j : Nat) : Int)) = True := eq_true (by omega)
     have f5 : (((4 * i + j : Nat) : Int) < 32) = True := eq_true (by omega)
     have f6 := wz_succ j (by omega)
     have g1 : (bs (wordB (w.getD i 0#32)))[j]? = some (.raw (u8 ((wordB (w.getD i 0#32)).getD j 0#8))) := bs_get (by rw [wordB_len]; omega)
     have hl3 : (digS (w.take i) ++ (wordB (w.getD i 0#32)).take j).length = 4 * i + j := by rw [List.length_append, hl, List.length_take, wordB_len]; omega
     have g2 : (bs (fill8 (digS (w.take i) ++ (wordB (w.getD i 0#32)).take j) 32))[4 * i + j]? = some (.raw (u8 ((fill8 (digS (w.take i) ++ (wordB (w.getD i 0#32)).take j) 32).getD (4 * i + j) 0#8))) := bs_get (by rw [fill8_len (by omega)]; omega)
     have g3 : (fill8 (digS (w.take i) ++ (wordB (w.getD i 0#32)).take j) 32).set (4 * i + j) ((wordB (w.getD i 0#32)).getD j 0#8) = fill8 (digS (w.take i) ++ (wordB (w.getD i 0#32)).take (j + 1)) 32 := by
      have := fill8_set (l := digS (w.take i) ++ (wordB (w.getD i 0#32)).take j) (n := 32) (by omega) ((wordB (w.getD i 0#32)).getD j 0#8)
      rw [hl3] at this
      rw [this, take_succ_getD (z := 0#8) (by rw [wordB_len]; omega), List.append_assoc]
     simp only [↓amD, amU, simprocAttr, zipEnv, q2, q46, q6, q47, q7, q53, q54, q55, f0, f1, f2, f3, f4, f5, f6, rn, r6', g1, g2, bs_set, g3, decide_true]
     have hne : rows.length ≠ R0.length := by have := live_lt r6; omega
     exact hR _ _ ⟨by simp only [has, ↓amD, amU, simprocAttr, zipEnv, q2, q46, q6, q47, q7, q53, q54], (live_set_ne hr60.symm).trans r0', live_set_same r6', (live_set_ne hne).trans rn⟩
    ·rintro env R1 ⟨hh, r0', r6', rn⟩ R2
     simp only [has] at hh
     obtain ⟨q2, q46, q6, q47, q7, q53, q54, q55, -⟩ := hh
     simp only [↓amD, amU, simprocAttr, zipEnv, q2, q46, q6, q47, q7, q53, q54, q55, e11]
     have hd : digS (w.take (i + 1)) = digS (w.take i) ++ (wordB (w.getD i 0#32)).take 4 := by
      rw [take_snoc (by omega), digS_app]
      simp [digS, List.take_of_length_le (Nat.le_of_eq (wordB_len _))]
     exact hR _ _ ⟨by simp only [has, ↓amD, amU, simprocAttr, zipEnv, q2, q46, q6], r0', by rw [hd]; exact r6'⟩
    ·simp only [has, ↓amD, amU, simprocAttr, zipEnv, q2, q46, q6, q47]
    ·rw [List.take_zero, List.append_nil]; exact live_push r6
    ·exact live_len
   ·rintro env R0 ⟨hh, r0, r6⟩ R
    simp only [has] at hh
    obtain ⟨q2, q46, q6, q47, -⟩ := hh
    have s0 : ∀ x, live (R0.set 0 (some x)) 0 = some x := fun x => live_set_same r0
    have hf : fill8 (digS (w.take 8)) 32 = sumS p := by rw [hS, List.take_of_length_le (by omega), fill8_full (by rw [digS_len]; omega)]
    rw [hf] at r6
    simp only [↓amD, amU, simprocAttr, zipEnv, q2, q46, q6, q47, r6, r0, s0]
    exact .val _ rfl
   ·simp only [has, ↓amD, amU, simprocAttr, zipEnv, q2]
   ·rw [live_len]; rfl
  ·simp only [has, ↓amD, amU, simprocAttr, zipEnv, q2]
  ·rw [live_len]; rfl
 ·simp only [has, ↓amD, amU, simprocAttr, zipEnv]
theorem view8 {rows : Rows} {x : D} {y : List (BitVec 8)} (h : BsIn rows x y) : ∃ x', view rows 8 x = some x' ∧ IsBs x' y := by
 obtain ⟨⟨d', h1, h2⟩, -⟩ := h
 have key : view rows 8 x = some d' := by
  cases x with
  | raw v => exact h1
  | sl s r p off len e =>
   simp only [view] at h1 ⊢
   cases he : elems rows (.sl s r p off len e) with
   | none => rw [he] at h1; cases h1
   | some l =>
    rw [he] at h1
    simp only at h1 ⊢
    cases hl : (!(l.length == len)) with
    | true => rw [hl] at h1; cases h1
    | false =>
     rw [hl] at h1
     cases hp : s.pure with
     | true => rw [hp] at h1; exact h1
     | false =>
      rw [hp] at h1
      simp only [cond_false] at h1
      split at h1
      ·cases h1
       rcases h2 with ⟨h, _⟩ | ⟨e2, h⟩
       ·cases h
       ·injection h with hs; subst hs; cases hp
      ·cases h1
  | lst s l e =>
   simp only [view] at h1 ⊢
   cases hp : s.pure with
   | true => rw [hp] at h1; exact h1
   | false =>
    rw [hp] at h1
    simp only [cond_false] at h1
    split at h1
    ·cases h1
     rcases h2 with ⟨h, _⟩ | ⟨e2, h⟩
     ·cases h
     ·injection h with hs; subst hs; cases hp
    ·cases h1
  | ptr s r p =>
   simp only [view] at h1
   split at h1
   ·split at h1
    ·cases hp : s.pure <;> rw [hp] at h1
     ·simp only [cond_false] at h1
      split at h1
      ·cases h1; rcases h2 with ⟨h, _⟩ | ⟨e2, h⟩ <;> cases h
      ·cases h1
     ·cases h1; rcases h2 with ⟨h, _⟩ | ⟨e2, h⟩ <;> cases h
    ·cases h1
   ·cases h1
  | agg s l =>
   simp only [view] at h1
   cases hp : s.pure <;> rw [hp] at h1
   ·simp only [cond_false] at h1
    split at h1
    ·cases h1; rcases h2 with ⟨h, _⟩ | ⟨e2, h⟩ <;> cases h
    ·cases h1
   ·cases h1; rcases h2 with ⟨h, _⟩ | ⟨e2, h⟩ <;> cases h
  | aptr => simp [view] at h1
  | cptr d => exact h1
  | tup => simp [view] at h1
  | om => exact h1
  | mp r =>
   simp only [view] at h1 ⊢
   exact h1
 exact ⟨d', key, h2⟩
theorem view_parts {rows : Rows} : ∀ {l : List D} {ls : List (List (BitVec 8))}, All2 (fun x y => BsIn rows x y) l ls → ∃ l', mapO (view rows 8) l = some l' ∧ mapO rdBs l' = some ls := by
 intro l
 induction l with
 | nil =>
  intro ls h
  have : ls = [] := List.eq_nil_of_length_eq_zero h.len.symm
  subst this
  exact ⟨[], rfl, rfl⟩
 | cons x l ih =>
  intro ls h
  match ls, h.len with
  | y :: ls, _ =>
   obtain ⟨x', h1, h2⟩ := view8 h.head
   obtain ⟨l', h3, h4⟩ := ih h.tail
   exact ⟨x' :: l', by simp only [mapO, h1, h3], by simp only [mapO, h2.rd, h4]⟩
theorem kCall_parts {pre : List (List (BitVec 8)) → Bool} {out : List (List (BitVec 8)) → D × Rows} {rows : Rows} {k : D → Rows → Prop} {r n : Nat} {ex : Bool} {l : List D} {ls : List (List (BitVec 8))} (hl : live rows r = some ⟨.ref, l⟩) (hn : l.length = n)
  (hv : All2 (fun x y => BsIn rows x y) l ls) (hp : pre ls = true) (hr : (noLst (out ls).1 && noLstRows (out ls).2) = true) : kCall (fn1 rdBss pre out) rows k [.sl .ref r [] 0 n ex] = k (shift rows.length (out ls).1) (rows ++ shiftRows rows.length (out ls).2) := by
 obtain ⟨l', h1, h2⟩ := view_parts hv
 have he : elems rows (.sl .ref r [] 0 n ex) = some l := by simp [elems, hl, ← hn]
 have hvw : view rows 9 (.sl .ref r [] 0 n ex) = some (.lst .ref l' ex) := by
  simp only [view, he, hn, beq_self_eq_true, Bool.not_true, cond_false, Sh.pure, h1]
 refine view_nonref1 (fun d2 hd2 => ?_) ⟨_, hvw⟩ (fun hh => by simp [hasRef] at hh) hr
 rw [hvw] at hd2
 cases hd2
 exact fn1_eq (by simpa [rdBss] using h2) hp
theorem kSum (rows : Rows) (k : D → Rows → Prop) (r n : Nat) (ex : Bool) (l : List D) (ls : List (List (BitVec 8))) (hl : live rows r = some ⟨.ref, l⟩) (hn : l.length = n)
  (hv : All2 (fun x y => BsIn rows x y) l ls) (hp : ls.length ≤ 1099511627776) (hp2 : ls.flatten.length ≤ 1099511627776) : kCall fSum rows k [.sl .ref r [] 0 n ex] = k (.agg (.ar 32 L8) (bs (sumS ls.flatten))) rows := by
 refine (kCall_parts hl hn hv (by simp only [Bool.and_eq_true, Nat.ble_eq]; exact ⟨hp, hp2⟩) (by simp [d32D, noLst, noLstRows, Sh.pure])).trans ?_
 simp [d32D, shift, shiftRows, Sh.pure]
theorem kJoin (rows : Rows) (k : D → Rows → Prop) (r n : Nat) (ex : Bool) (l : List D) (ls : List (List (BitVec 8))) (hl : live rows r = some ⟨.ref, l⟩) (hn : l.length = n)
  (hv : All2 (fun x y => BsIn rows x y) l ls) (hp : ls.length ≤ 1099511627776) (hp2 : ls.flatten.length ≤ 1099511627776) : kCall fJoin rows k [.sl .ref r [] 0 n ex] = k (.sl L8 (0 + rows.length) [] 0 ls.flatten.length false) (rows ++ [some ⟨L8, bs ls.flatten⟩]) := by
 refine (kCall_parts hl hn hv (by simp only [Bool.and_eq_true, Nat.ble_eq]; exact ⟨hp, hp2⟩) (by simp [outBs, noLst, noLstRows, Sh.pure])).trans ?_
 simp [outBs, shift, shiftRows, Sh.pure]
theorem kRSum (rows : Rows) (k : D → Rows → Prop) (d : D) (p : List (BitVec 8)) (h : BsIn rows d p) (hp : p.length ≤ 1099511627000) : kCall fRSum rows k [d] = k (.agg (.ar 32 L8) (bs (sumS p))) rows := by
 refine (kCall_bs1 h (by simpa using hp) (by simp [d32D, noLst, noLstRows, Sh.pure])).trans ?_
 simp [d32D, shift, shiftRows, Sh.pure]
theorem st_fits (s : St) : D.fits (stD s) S10 = true := by simp [stD, D.fits]
theorem sumSt_len (s : St) (h : s.ok = true) : (sumSt s).length = 32 := by
 rw [sumSt, digS_len, (st_ok (feed_ok _ _ h)).1]
theorem sumS_len (p : List (BitVec 8)) : (sumS p).length = 32 := sumSt_len _ (feed_ok _ _ st0_ok)
theorem app_ownA {s : Sh} {d : D} {rows : Rows} {els news : List D} {bytes : Nat} {k : D → Rows → Prop} (h : Own s d rows els) (hb : (els.length + news.length) * bytes ≤ most) (hb2 : els.length + news.length ≤ most)
  (hk : ∀ rows', live rows' rows.length = some ⟨s, els ++ news⟩ → (∀ r x, live rows r = some x → (∀ ex n, d ≠ .sl s r [] 0 n ex) → live rows' r = some x) → rows'.length = rows.length + 1 → k (.sl s rows.length [] 0 (els.length + news.length) false) rows') : aApp rows s bytes d news k := by
 unfold aApp
 rw [h.elems, h.slen]
 refine ⟨h.sshape, rfl, hb, hb2, ?_⟩
 rcases h with ⟨rfl, rfl⟩ | ⟨r, ex, rfl, hl⟩
 ·simp only [isNil, Bool.true_or, cond_true, kill]
  exact hk _ live_len (fun r x hx _ => live_push hx) (by simp)
 ·simp only [isNil, owned, Bool.false_or, cond_true, kill]
  have h1 : (rows.set r none).length = rows.length := by simp
  refine hk _ (by rw [← h1]; exact live_len) (fun r' x hx hne => ?_) (by simp)
  have hr : r ≠ r' := fun e => hne ex _ (by rw [e])
  refine live_push ?_
  unfold live at hx ⊢
  rw [List.getElem?_set_ne hr]; exact hx
theorem live_set_eq {rows : Rows} {r : Nat} {x y : Row} (h : live rows r = some x) : live (rows.set r (some y)) r = some y := by
 have := live_lt h
 simp [live, this]
theorem live_set_o {rows : Rows} {r q : Nat} {x y : Row} (h : live rows r = some x) (hn : q ≠ r) : live (rows.set q (some y)) r = some x := by
 unfold live at h ⊢
 rw [List.getElem?_set_ne hn]; exact h
theorem own_neA {s s' : Sh} {d : D} {rows : Rows} {els els' : List D} {r : Nat} (h : Own s d rows els) (hl : live rows r = some ⟨s', els'⟩) (hs : s' ≠ s) : ∀ ex n, d ≠ .sl s r [] 0 n ex := by
 intro ex n e
 rcases h with ⟨-, rfl⟩ | ⟨r2, ex2, rfl, hl2⟩
 ·cases e
 ·injection e with _ e
  subst e
  rw [hl2] at hl
  injection hl with hl
  injection hl with h1 h2
  exact hs h1.symm
def fClone : Fn := fn1 rdBs (fun a => Nat.ble a.length most) fun a => outBs a false
theorem clone_ok (C : Ctx) (hC : CtxOK C P) : Meets C.glob P 81 (Fn.run fClone) := by
 refine fn_meetsN (m_bytes_Clone C hC) fun ds rows r h => ?_
 obtain ⟨d, a, rfl, rfl, hd, hp, rfl⟩ := fn1_some h
 obtain ⟨x, hx⟩ := rdBs_nrm hd
 refine ⟨rfl, _, .cons hx .nil, afun_mk rfl ?_⟩
 simp only [Nat.ble_eq] at hp
 clear h hx hd
 unfold a_bytes_Clone r_bytes_Clone
 simp only [↓amD, amU, simprocAttr, zipEnv, bs_len]
 unfold most at hp
 refine ⟨fun h0 => ?_, by omega, by omega, .own L8 1 0 a.length false false _ rfl rfl id⟩
 cases a with
 | nil => exact .nil0 L8
 | cons b l => simp at h0
theorem kClone (rows : Rows) (k : D → Rows → Prop) (d : D) (p : List (BitVec 8)) (h : BsIn rows d p) (hp : p.length ≤ 1099511627776) : kCall fClone rows k [d] = k (.sl L8 (0 + rows.length) [] 0 p.length false) (rows ++ [some ⟨L8, bs p⟩]) := by
 refine (kCall_bs1 h (by simpa [most] using hp) rfl).trans ?_
 rfl
end Job
end Go.Am
namespace Go.Am
set_option linter.unusedSimpArgs false
set_option linter.unusedVariables false
namespace Job
def RdIn {α : Type} (rows : Rows) (rd : D → Option α) (d : D) (a : α) : Prop := (∃ d', view rows 9 d = some d' ∧ rd d' = some a) ∧ (hasRef d = false → rd d = some a)
theorem RdIn.raw {α : Type} {rows : Rows} {rd : D → Option α} {v : Value} {a : α} (h : rd (.raw v) = some a) : RdIn rows rd (.raw v) a := ⟨⟨_, rfl, h⟩, fun _ => h⟩
theorem RdIn.int {rows : Rows} (n : Int) : RdIn rows rdI (.raw (it n)) n := .raw (rdI_eq n)
theorem RdIn.agg {α : Type} {rows : Rows} {rd : D → Option α} {s : Sh} {l : List D} {a : α} (hs : s.pure = true) (h : rd (.agg s l) = some a) : RdIn rows rd (.agg s l) a := ⟨⟨.agg s l, by simp [view, hs], h⟩, fun _ => h⟩
theorem RdIn.bs {rows : Rows} {d : D} {l : List (BitVec 8)} (h : BsIn rows d l) : RdIn rows rdBs d l := by
 obtain ⟨⟨d', hd', hb⟩, hn⟩ := h
 exact ⟨⟨d', hd', hb.rd⟩, fun hh => (hn hh).rd⟩
theorem RdIn.parts {rows : Rows} {r n : Nat} {ex : Bool} {l : List D} {ls : List (List (BitVec 8))} (hl : live rows r = some ⟨.ref, l⟩) (hn : l.length = n)
  (hv : All2 (fun x y => BsIn rows x y) l ls) : RdIn rows rdBss (.sl .ref r [] 0 n ex) ls := by
 obtain ⟨l', h1, h2⟩ := view_parts hv
 have he : elems rows (.sl .ref r [] 0 n ex) = some l := by simp [elems, hl, ← hn]
 have hvw : view rows 9 (.sl .ref r [] 0 n ex) = some (.lst .ref l' ex) := by
  simp only [view, he, hn, beq_self_eq_true, Bool.not_true, cond_false, Sh.pure, h1]
 exact ⟨⟨_, hvw, by simpa [rdBss] using h2⟩, fun h => by simp [hasRef] at h⟩
theorem kCall_rd {A : Fn} {rows : Rows} {k : D → Rows → Prop} {ds ds' : List D} {r : D × Rows} (hv : mapO (view rows 9) ds = some ds') (hA : A ds' [] = some r) (hn : hasRefL ds = false → A ds [] = some r) (hr : (noLst r.1 && noLstRows r.2) = true) :
  kCall A rows k ds = k (shift rows.length r.1) (rows ++ shiftRows rows.length r.2) := by
 unfold kCall
 cases hh : hasRefL ds with
 | true => simp [bnd, hv, hA, hr]
 | false => simp [bnd, hn hh]
theorem kCall_rd1 {α : Type} {rd : D → Option α} {pre : α → Bool} {out : α → D × Rows} {rows : Rows} {d : D} {a : α} (h : RdIn rows rd d a) (hp : pre a = true) (hr : (noLst (out a).1 && noLstRows (out a).2) = true) (k : D → Rows → Prop) :
  kCall (fn1 rd pre out) rows k [d] = k (shift rows.length (out a).1) (rows ++ shiftRows rows.length (out a).2) := by
 obtain ⟨⟨x, hx, hx'⟩, hn⟩ := h
 refine kCall_rd (ds' := [x]) (by simp only [mapO, hx]) (fn1_eq hx' hp) (fun hh => ?_) hr
 simp only [hasRefL, Bool.or_eq_false_iff, and_true] at hh
 exact fn1_eq (hn hh) hp
theorem kCall_rd2 {α β : Type} {rd : D → Option α} {rd' : D → Option β} {pre : α → β → Bool} {out : α → β → D × Rows} {rows : Rows} {d e : D} {a : α} {b : β} (h : RdIn rows rd d a) (h' : RdIn rows rd' e b) (hp : pre a b = true)
  (hr : (noLst (out a b).1 && noLstRows (out a b).2) = true) (k : D → Rows → Prop) :
  kCall (fn2 rd rd' pre out) rows k [d, e] = k (shift rows.length (out a b).1) (rows ++ shiftRows rows.length (out a b).2) := by
 obtain ⟨⟨x, hx, hx'⟩, hn⟩ := h
 obtain ⟨⟨y, hy, hy'⟩, hm⟩ := h'
 refine kCall_rd (ds' := [x, y]) (by simp only [mapO, hx, hy]) (fn2_eq hx' hy' hp) (fun hh => ?_) hr
 simp only [hasRefL, Bool.or_eq_false_iff, and_true] at hh
 exact fn2_eq (hn hh.1) (hm hh.2) hp
theorem kCall_rd3 {α β γ : Type} {rd : D → Option α} {rd' : D → Option β} {rd2 : D → Option γ} {pre : α → β → γ → Bool} {out : α → β → γ → D × Rows} {rows : Rows} {d e f : D} {a : α} {b : β} {c : γ} (h : RdIn rows rd d a) (h' : RdIn rows rd' e b) (h2 : RdIn rows rd2 f c) (hp : pre a b c = true)
  (hr : (noLst (out a b c).1 && noLstRows (out a b c).2) = true) (k : D → Rows → Prop) :
  kCall (fn3 rd rd' rd2 pre out) rows k [d, e, f] = k (shift rows.length (out a b c).1) (rows ++ shiftRows rows.length (out a b c).2) := by
 obtain ⟨⟨x, hx, hx'⟩, hn⟩ := h
 obtain ⟨⟨y, hy, hy'⟩, hm⟩ := h'
 obtain ⟨⟨z, hz, hz'⟩, ho⟩ := h2
 refine kCall_rd (ds' := [x, y, z]) (by simp only [mapO, hx, hy, hz]) (by simp only [fn3_ev, hx', hy', hz', Option.bind_some, hp, cond_true]) (fun hh => ?_) hr
 simp only [hasRefL, Bool.or_eq_false_iff, and_true] at hh
 simp only [fn3_ev, hn hh.1, hm hh.2.1, ho hh.2.2, Option.bind_some, hp, cond_true]
end Job
end Go.Am
namespace Go.Am
set_option linter.unusedSimpArgs false
set_option linter.unusedVariables false
attribute [local congr] bnd_congr kCond_congr kGd_congr kPick_congr kCall_congr kIdx_congr kSlice_congr kLoop_congr cond_congr' aBin_congr aBounds_congr aApp_congr aCopy_congr kFn_congr
namespace Job
open Go.Am.F
set_option maxRecDepth 10000
theorem flat_len {l : List (List (BitVec 8))} (h : ∀ x ∈ l, x.length = 32) : l.flatten.length = 32 * l.length := by
 induction l with
 | nil => rfl
 | cons x l ih => rw [List.flatten_cons, List.length_append, ih (fun y hy => h y (by simp [hy])), h x (by simp), List.length_cons]; omega
theorem BsIn.at {rows : Rows} {r n i off len : Nat} {q : List Nat} {e : Bool} {row : Row} {l : List (BitVec 8)} (h : live rows r = some row) (hg : rowGet row.els (i :: q) = some (.agg (.ar n L8) (bs l))) (hle : off + len ≤ l.length) : BsIn rows (.sl L8 r (i :: q) off len e) ((l.drop off).take len) := by
 refine ⟨⟨.lst L8 (bs ((l.drop off).take len)) e, ?_, .inr ⟨e, rfl⟩⟩, fun h => by simp [hasRef] at h⟩
 have h2 : Am.elems rows (.sl L8 r (i :: q) off len e) = some (bs ((l.drop off).take len)) := by
  simp only [elems, h, hg]
  simp [bs]
 simp only [Am.view]
 rw [h2]
 have hl : (bs ((l.drop off).take len)).length = len := by simp [bs]; omega
 simp [Sh.pure, hl]
theorem elems_arr {rows : Rows} {r n i len : Nat} {q : List Nat} {e : Bool} {row : Row} {l : List (BitVec 8)} (h : live rows r = some row) (hg : rowGet row.els (i :: q) = some (.agg (.ar n L8) (bs l))) (hl : l.length = len) : Am.elems rows (.sl L8 r (i :: q) 0 len e) = some (bs l) := by
 simp only [elems, h, hg]
 simp [bs, ← hl, List.take_of_length_le]
theorem BsIn.atAll {rows : Rows} {r n i len : Nat} {q : List Nat} {e : Bool} {row : Row} {l : List (BitVec 8)} (h : live rows r = some row) (hg : rowGet row.els (i :: q) = some (.agg (.ar n L8) (bs l))) (hl : l.length = len) : BsIn rows (.sl L8 r (i :: q) 0 len e) l := by
 have := BsIn.at (off := 0) (len := len) (e := e) h hg (by omega)
 rwa [List.drop_zero, List.take_of_length_le (by omega)] at this
def z32 : List (BitVec 8) := List.replicate 32 0#8
theorem z32_eq : List.replicate 32 (D.raw (u8 0#8)) = bs z32 := rfl
theorem kNumN (rows : Rows) (k : D → Rows → Prop) (v : BitVec 64) (n : Int) (h0 : 0 ≤ n) (h1 : n ≤ 8) : kCall fNumS rows k [.raw (u64 v), .raw (it n)] = k (.sl L8 (0 + rows.length) [] 0 n.toNat false) (rows ++ [some ⟨L8, bs (numL n.toNat v)⟩]) := by
 refine (kCall_rd2 (RdIn.raw (rd64_eq v)) (RdIn.int n) (by simp; omega) rfl k).trans ?_
 simp [outBs, shift, shiftRows, Sh.pure, numL_len]
theorem numq4 (q : BitVec 32) : numL 4 (q.setWidth 64) = wordB q := by
 have hq := q.isLt
 simp only [numL, List.nil_append, List.cons_append, wordB, List.cons.injEq, and_true]
 have e : ∀ (x : BitVec 64) (y : BitVec 8), x.toNat % 256 = y.toNat → x.setWidth 8 = y := fun x y h => by
  apply BitVec.eq_of_toNat_eq
  rw [BitVec.toNat_setWidth]; exact h
 refine ⟨e _ _ ?_, e _ _ ?_, e _ _ ?_, e _ _ ?_⟩ <;> simp [BitVec.toNat_umod, BitVec.toNat_udiv, BitVec.toNat_setWidth, BitVec.toNat_ushiftRight, Nat.shiftRight_eq_div_pow] <;> try omega
theorem inj_id (x y : List (BitVec 8)) (h : D.agg (.ar 16 L8) (bs x) = .agg (.ar 16 L8) (bs y)) : x = y := by
 injection h with _ h; exact bs_inj h
def id16D (l : List (BitVec 8)) : D := .agg (.ar 16 L8) (bs l)
theorem rdIn_id {rows : Rows} (x : List (BitVec 8)) : RdIn rows (rdOf id16D) (.agg (.ar 16 L8) (bs x)) x := RdIn.agg rfl (rdOf_eq inj_id x)
def all32 (l : List (List (BitVec 8))) : Bool := l.all fun x => decide (x.length = 32)
theorem all32_eq {l : List (List (BitVec 8))} : all32 l = true ↔ ∀ x ∈ l, x.length = 32 := by simp [all32]
theorem rdIn_d32 {rows : Rows} (x : List (BitVec 8)) : RdIn rows (rdOf d32D) (.agg (.ar 32 L8) (bs x)) x := RdIn.agg rfl (rdOf_eq d32D_inj x)
theorem d32_eqA : ∀ (a b : List (BitVec 8)), a.length = b.length → eqL (bs a) (bs b) = some (decide (a = b))
 | [], [], _ => rfl
 | x :: a, y :: b, h => by
  have e1 : eqD (.raw (u8 x)) (.raw (u8 y)) = some (decide (x = y)) := by
   simp only [eqD, eqLeaf, u8]
   by_cases h : x = y
   ·subst h; simp
   ·have : ¬ (x.toNat : Int) = (y.toNat : Int) := fun e => h (BitVec.eq_of_toNat_eq (by omega))
    simp [h, this]
  show eqL (.raw (u8 x) :: bs a) (.raw (u8 y) :: bs b) = _
  rw [eL_c, e1, d32_eqA a b (by simpa using h)]
  by_cases h1 : x = y <;> by_cases h2 : a = b <;> simp [h1, h2]
theorem eqA_d32 (a b : List (BitVec 8)) (ha : a.length = 32) (hb : b.length = 32) : eqA (.ar 32 L8) (.agg (.ar 32 L8) (bs a)) (.agg (.ar 32 L8) (bs b)) = some (decide (a = b)) := by
 have := d32_eqA a b (by omega)
 simp [eqA, this]
end Job
end Go.Am
namespace Go.Am
set_option linter.unusedSimpArgs false
set_option linter.unusedVariables false
namespace Job
def numB (l : List (BitVec 8)) : Nat := l.foldl (fun n b => n * 256 + b.toNat) 0
theorem numB_four (a b c d : BitVec 8) : numB [a, b, c, d] = (numS [a, b, c, d]).toNat := by
 have ha := a.isLt
 have hb := b.isLt
 have hc := c.isLt
 have hd := d.isLt
 have e : ∀ (x : BitVec 8) (k : Nat), k ≤ 24 → (x.setWidth 32 <<< k).toNat = x.toNat * 2 ^ k := by
  intro x k hk
  have hx := x.isLt
  rw [BitVec.toNat_shiftLeft, BitVec.toNat_setWidth, Nat.shiftLeft_eq, Nat.mod_eq_of_lt (a := x.toNat) (by omega)]
  apply Nat.mod_eq_of_lt
  calc x.toNat * 2 ^ k < 2 ^ 8 * 2 ^ k := Nat.mul_lt_mul_of_pos_right hx (Nat.pow_pos (by decide))
   _ ≤ 2 ^ 8 * 2 ^ 24 := Nat.mul_le_mul_left _ (Nat.pow_le_pow_right (by decide) hk)
   _ = 2 ^ 32 := by decide
 have e8 : ∀ (x : BitVec 8), (x.setWidth 32).toNat = x.toNat := fun x => by
  have := x.isLt
  rw [BitVec.toNat_setWidth, Nat.mod_eq_of_lt (by omega)]
 have o : ∀ (x y k : Nat), y < 2 ^ k → (x * 2 ^ k) ||| y = x * 2 ^ k + y := fun x y k h => by
  rw [Nat.mul_comm, ← Nat.two_pow_add_eq_or_of_lt h]
 show numB [a, b, c, d] = (a.setWidth 32 <<< 24 ||| b.setWidth 32 <<< 16 ||| c.setWidth 32 <<< 8 ||| d.setWidth 32).toNat
 rw [BitVec.toNat_or, BitVec.toNat_or, BitVec.toNat_or, e a 24 (by decide), e b 16 (by decide), e c 8 (by decide), e8 d, o _ (b.toNat * 2 ^ 16) 24 (by omega)]
 rw [show a.toNat * 2 ^ 24 + b.toNat * 2 ^ 16 = (a.toNat * 256 + b.toNat) * 2 ^ 16 by omega, o _ (c.toNat * 2 ^ 8) 16 (by omega)]
 rw [show (a.toNat * 256 + b.toNat) * 2 ^ 16 + c.toNat * 2 ^ 8 = ((a.toNat * 256 + b.toNat) * 256 + c.toNat) * 2 ^ 8 by omega, o _ d.toNat 8 (by omega)]
 simp only [numB, List.foldl_cons, List.foldl_nil]
 omega
theorem numB_wordB (x : BitVec 32) : numB (wordB x) = x.toNat := by
 have hx := x.isLt
 simp only [wordB, numB, List.foldl_cons, List.foldl_nil, BitVec.toNat_setWidth, BitVec.toNat_ushiftRight, Nat.shiftRight_eq_div_pow]
 omega
def be2 (n : Nat) : List (BitVec 8) := [BitVec.ofNat 8 (n / 256), BitVec.ofNat 8 n]
def stepS (id : List (BitVec 8)) (q : BitVec 32) (i j : Nat) (x : List (BitVec 8)) : List (BitVec 8) := sumS (id ++ wordB q ++ be2 i ++ [BitVec.ofNat 8 j] ++ x)
theorem stepS_len (id : List (BitVec 8)) (q : BitVec 32) (i j : Nat) (x : List (BitVec 8)) : (stepS id q i j x).length = 32 := sumS_len _
def chS (id : List (BitVec 8)) (q : BitVec 32) (i : Nat) : Nat → Nat → List (BitVec 8) → List (BitVec 8)
 | 0, _, x => x
 | n + 1, a, x => chS id q i n (a + 1) (stepS id q i a x)
theorem chS_len (id : List (BitVec 8)) (q : BitVec 32) (i : Nat) : ∀ (n a : Nat) (x : List (BitVec 8)), x.length = 32 → (chS id q i n a x).length = 32
 | 0, _, x, h => h
 | n + 1, a, x, _ => chS_len id q i n (a + 1) _ (stepS_len _ _ _ _ _)
theorem chS_add (id : List (BitVec 8)) (q : BitVec 32) (i m : Nat) : ∀ (n a : Nat) (x : List (BitVec 8)), chS id q i (n + m) a x = chS id q i m (a + n) (chS id q i n a x)
 | 0, a, x => by rw [Nat.zero_add]; rfl
 | n + 1, a, x => by
  rw [show n + 1 + m = (n + m) + 1 by omega]
  show chS id q i (n + m) (a + 1) (stepS id q i a x) = chS id q i m (a + (n + 1)) (chS id q i n (a + 1) (stepS id q i a x))
  rw [chS_add id q i m n (a + 1), show a + 1 + n = a + (n + 1) by omega]
theorem chS_succ (id : List (BitVec 8)) (q : BitVec 32) (i n a : Nat) (x : List (BitVec 8)) : chS id q i (n + 1) a x = stepS id q i (a + n) (chS id q i n a x) := chS_add id q i 1 n a x
def secS (id : List (BitVec 8)) (q : BitVec 32) (i : Nat) (seed : List (BitVec 8)) : List (BitVec 8) := stepS id q i 255 seed
def foldS (id : List (BitVec 8)) (q : BitVec 32) (l : List (List (BitVec 8))) : List (BitVec 8) := sumS (id ++ wordB q ++ be2 32896 ++ l.flatten)
def endsS (id : List (BitVec 8)) (q : BitVec 32) (seed : List (BitVec 8)) (e n : Nat) : List (List (BitVec 8)) := (List.range n).map fun i => chS id q i e 0 (secS id q i seed)
theorem ends_len (id : List (BitVec 8)) (q : BitVec 32) (seed : List (BitVec 8)) (e n : Nat) : ∀ x ∈ endsS id q seed e n, x.length = 32 := by
 intro x hx
 obtain ⟨i, -, rfl⟩ := List.mem_map.1 hx
 exact chS_len _ _ _ _ _ _ (stepS_len _ _ _ _ _)
end Job
end Go.Am
