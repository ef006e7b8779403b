import Derived.Test.YtpepmhbdblldeaaDoorPa22
namespace Go.Am
set_option linter.unusedSimpArgs false
set_option linter.unusedVariables false
attribute [local congr] bnd_congr kCond_congr kGd_congr kPick_congr kCall_congr kIdx_congr kSlice_congr kLoop_congr cond_congr' aBin_congr aBounds_congr aApp_congr aCopy_congr kFn_congr
namespace Job
open Go.Am.F
set_option maxRecDepth 10000
structure OnC (C CH CL : Ctx) : Prop where
 par : C.fn 40 = some fParams
 spl : C.fn 58 = some fSplit
 dig : C.fn 49 = some fDigits
 mas : C.fn 50 = some fMash
 val : C.fn 41 = some fValP
 sit : C.fn 32 = some fSiteP
 chn : C.fn 52 = some fChain
 txt : C.fn 62 = some fText
 kpu : C.fn 65 = some (fKd (be2 32896))
 kms : C.fn 68 = some (fKd (be2 33153))
 kno : C.fn 20 = some fKnows
 tw0 : C.fn 61 = none
 tw1 : C.fnr 61 = none
 tw2 : C.fnq 61 = some twoQ
 ch0 : C.fn 66 = none
 ch1 : C.fnr 66 = some (afun CH 4 r_proof_signer_chain a_proof_signer_chain)
 chC : ChC CH
 la0 : C.fn 67 = none
 la1 : C.fnr 67 = some (afun CL 2 r_lms_Signer_Last a_lms_Signer_Last)
structure OnB (rows rs : Rows) (r rp : Nat) (e : Bool) (V : SgV) (q : BitVec 32) (one msg : List (BitVec 8)) : Prop where
 k : KeptL rows rs
 r0 : live rs rows.length = some ⟨SPs, [psD r rp e V]⟩
 r1 : live rs (rows.length + 1) = some ⟨SFd, [fd0]⟩
 r2 : live rs (rows.length + 2) = some ⟨SSite, [siteD ⟨V.id, q⟩]⟩
 r4 : live rs (rows.length + 4) = some ⟨.ar 32 L8, (chunks one (pT V.o.toNat)).map d32D⟩
 r5 : live rs (rows.length + 5) = some ⟨.ar 32 L8, [.agg (.ar 32 L8) (bs (sigC one))]⟩
 r6 : live rs (rows.length + 6) = some ⟨LI, (digitsS V.o.toNat (mashS V.id q (sigC one) msg)).map natD⟩
 ln : rows.length + 7 ≤ rs.length
theorem OnB.mono {rows rs rs' : Rows} {r rp : Nat} {e : Bool} {V : SgV} {q : BitVec 32} {one msg : List (BitVec 8)} (h : OnB rows rs r rp e V q one msg) (hf : ∀ p x, p < rows.length + 7 → live rs p = some x → live rs' p = some x) (hl : rs.length ≤ rs'.length) : OnB rows rs' r rp e V q one msg :=
 ⟨fun p x hp => hf p x (by have := live_lt hp; omega) (h.k p x hp), hf _ _ (by omega) h.r0, hf _ _ (by omega) h.r1, hf _ _ (by omega) h.r2, hf _ _ (by omega) h.r4, hf _ _ (by omega) h.r5, hf _ _ (by omega) h.r6, Nat.le_trans h.ln hl⟩
theorem SlB.setO {rows : Rows} {d : D} {A : List (BitVec 8)} (h : SlB rows d A) {p : Nat} {s' : Sh} {l : List D} (hp : live rows p = some ⟨s', l⟩) (hs : s' ≠ L8) (x : Option Row) : SlB (rows.set p x) d A := by
 rcases h with h | ⟨r, e, h1, h2⟩
 ·exact .inl h
 ·exact .inr ⟨r, e, h1, by rw [live_set_ne (ne_sh hp h2 hs)]; exact h2⟩
theorem FdIn.setO {rows : Rows} {d : D} {k : Int} {A B : List (BitVec 8)} {pl : Plc} {y : List (BitVec 8)} (h : FdIn rows d k A B pl y) {p : Nat} {s' : Sh} {l : List D} (hp : live rows p = some ⟨s', l⟩) (hs : s' ≠ L8) (x : Option Row) : FdIn (rows.set p x) d k A B pl y := by
 obtain ⟨d0, d1, h1, h2, h3⟩ := h.ex
 exact ⟨⟨d0, d1, h1, h2.setO hp hs x, h3.setO hp hs x⟩, h.x, h.a, h.b⟩
def HiS (b : Nat) (d : D) : Prop := ∀ q ex n, d = .sl (.ar 32 L8) q [] 0 n ex → b ≤ q
theorem ends_get {id : List (BitVec 8)} {q : BitVec 32} {seed : List (BitVec 8)} {E M i : Nat} (h : i < M) : (endsS id q seed E M).take (i + 1) = (endsS id q seed E M).take i ++ [chS id q i E 0 (secS id q i seed)] := by
 rw [List.take_succ_eq_append_getElem (by simp [endsS, h])]
 simp [endsS]
theorem cls_get {s : Site} {p m : List (BitVec 8)} {M i : Nat} (h : i < M) : ((List.range M).map (clE s p m)).take (i + 1) = ((List.range M).map (clE s p m)).take i ++ [clE s p m i] := by
 rw [List.take_succ_eq_append_getElem (by simp [h])]
 simp
set_option maxHeartbeats 4000000 in
theorem once_run (C CH CL : Ctx) (H : OnC C CH CL) {rows : Rows} {r rp : Nat} {V : SgV} {ml : Msgs} {e : Bool} (hP : PsIn rows r rp V ml) {q : BitVec 32} (hq : q.toNat < 2) {r1 n1 : Nat} {e1 : Bool} {dm : D} {one msg : List (BitVec 8)}
  (h1 : live rows r1 = some ⟨L8, bs one⟩) (hn1 : n1 = one.length) (hm : MsgIn rows dm msg) (h1l : one.length ≤ 1000000) (hml : msg.length ≤ 1000) (ho : sigT one = V.o) (hE : splitE one = 0) (hcl : claimS ⟨V.id, q⟩ one msg = pubS V.o.toNat ⟨V.id, q⟩ V.seed) (hn : msg ∉ ml.map (·.1)) {O : Prop} (hO : O → (∀ i : Nat, i < pT V.o.toNat → vaS V ⟨q, i, (((digitsS V.o.toNat (mashS V.id q (sigC one) msg)).getD i 0 : Nat) : Int)⟩ = chunk one i) ∧ ml.length ≤ q.toNat) {K : D → Rows → Prop}
  (hk : ∀ rows' d k A B p x, KeptL rows rows' → FdIn rows' d k A B p x → Good V ml k A B p x → (k = 1 → ¬ O) → K d rows') :
  afun C 4 r_proof_signer_once a_proof_signer_once [psD r rp e V, .raw (u32 q), .sl L8 r1 [] 0 n1 e1, dm] rows K := by
 refine afun_mk rfl ?_
 unfold a_proof_signer_once r_proof_signer_once
 have hid : V.id.length = 16 := hP.s.w.id
 have hw := (parT_ok hP.s.okO).1
 have hpw : 2 ^ wT V.o.toNat ≤ 256 := pow_le hw
 have hw8 : wT V.o.toNat ≤ 8 := by rcases w4_eq.1 hw with h | h | h | h <;> (have h' : wT V.o.toNat = _ := h; omega)
 have hpt : pT V.o.toNat ≤ 265 := (parT_ok hP.s.okO).2.2.1
 have hpw0 : 0 < 2 ^ wT V.o.toNat := Nat.two_pow_pos _
 have hokO := hP.s.okO
 have kS := fun more k => kSiteP (rows := rows ++ more) (hP.push more |>.ps e) (hP.ok e) k q
 have hz : D.agg SSite [.agg (.ar 16 L8) (List.replicate 16 (.raw (u8 0#8))), .raw (u32 0#32)] = siteD ⟨List.replicate 16 0#8, 0#32⟩ := rfl
 have hzp : D.agg SPar [.raw (it 0), .raw (it 0), .raw (it 0)] = parD ⟨0, 0, 0⟩ := rfl
 have gw : (parD (parT V.o.toNat)).get [0] = some (.raw (it (wT V.o.toNat : Int))) := rfl
 have hsh := shl_it 1 (wT V.o.toNat) (by decide) (by omega)
 rw [Nat.one_mul, show ((1 : Nat) : Int) = 1 from rfl] at hsh
 have hend : wz (((2 ^ wT V.o.toNat : Nat) : Int) - 1) = ((2 ^ wT V.o.toNat - 1 : Nat) : Int) := by rw [wz_id (by omega)]; omega
 have kSp := fun more k => kSplit (rows ++ more) k (.sl L8 r1 [] 0 n1 e1) one (BsIn.own (live_app h1 more) _ hn1) (by omega) hE
 rw [ho] at kSp
 have hl36 : one.length = 36 + 32 * pT V.o.toNat := by have := (split_0 hE).2.2; rw [ho] at this; exact this
 have hcl32 : (sigC one).length = 32 := by rw [sigC, List.length_take, List.length_drop]; omega
 have kM := fun more k => kMash (rows ++ more) k ⟨V.id, q⟩ (sigC one) msg dm (hm.keep fun _ _ hp => live_push hp).bs hid hcl32
 have kD := fun rows k => kDigits rows k V.o (mashS V.id q (sigC one) msg) (sumS_len _) hokO
 simp only [z32_eq, hz, hzp]
 simp only [psD] at kS ⊢
 simp only [↓amD, amU, simprocAttr, zipEnv, amR, H.sit, kS, site_fits, H.par, kParams, par_fits, gw, hsh, hend, H.spl, kSp, H.mas, kM, H.dig, kD]
 have hM1 := pT_pos hokO
 have b0 : ∀ n : Nat, ((0 : Int) ≤ (n : Int)) = True := fun n => eq_true (by omega)
 have kC := fun (i a : Nat) (x : List (BitVec 8)) (rows : Rows) (k : D → Rows → Prop) (hi : i < 65536) (ha : a ≤ 256) (hx : x.length = 32) => kChain rows k ⟨V.id, q⟩ i a (2 ^ wT V.o.toNat - 1) x hid hi ha (by omega) hx
 have hdl : (digitsS V.o.toNat (mashS V.id q (sigC one) msg)).length = pT V.o.toNat := by simp [digitsS, digsP]
 have hdg : ∀ i, (digitsS V.o.toNat (mashS V.id q (sigC one) msg)).getD i 0 ≤ 2 ^ wT V.o.toNat - 1 := digs_le hokO _
 have hclE : ∀ i, clE ⟨V.id, q⟩ one msg i = chS V.id q i (2 ^ wT V.o.toNat - 1 - (digitsS V.o.toNat (mashS V.id q (sigC one) msg)).getD i 0) ((digitsS V.o.toNat (mashS V.id q (sigC one) msg)).getD i 0) (chunk one i) := fun i => by rw [clE, ho]; rfl
 have hck : ∀ i, i < pT V.o.toNat → (chunk one i).length = 32 := fun i hi => by rw [chunk, List.length_take, List.length_drop]; omega
 refine kLoop_up (pT V.o.toNat) (fun i env rs => has env [(60, .raw (it (i : Int))), (59, .raw (it (pT V.o.toNat : Int))), (58, .sl LI (rows.length + 6) [] 0 (pT V.o.toNat) false), (17, .sl LI (rows.length + 6) [] 0 (pT V.o.toNat) false), (12, .raw (it ((2 ^ wT V.o.toNat - 1 : Nat) : Int))), (15, .sl (.ar 32 L8) (rows.length + 4) [] 0 (pT V.o.toNat) false), (14, .ptr (.ar 32 L8) (rows.length + 5) [0]), (9, .ptr SSite (rows.length + 2) [0]), (8, .ptr SFd (rows.length + 1) [0]), (4, .ptr SPs rows.length [0]), (1, .raw (u32 q)), (3, dm)] ∧
  OnB rows rs r rp e V q one msg ∧ ∃ d18 d19, look env 18 = some d18 ∧ look env 19 = some d19 ∧ Own (.ar 32 L8) d18 rs (((endsS V.id q V.seed (2 ^ wT V.o.toNat - 1) (pT V.o.toNat)).take i).map d32D) ∧ Own (.ar 32 L8) d19 rs ((((List.range (pT V.o.toNat)).map (clE ⟨V.id, q⟩ one msg)).take i).map d32D) ∧
   HiS (rows.length + 7) d18 ∧ HiS (rows.length + 7) d19 ∧ ∀ p ex n ex' n', d18 = .sl (.ar 32 L8) p [] 0 n ex → d19 ≠ .sl (.ar 32 L8) p [] 0 n' ex') ?_ ?_
  ⟨?_, ⟨KeptL.app _ _, by rw [lv_app0]; rfl, by rw [lv_appk]; rfl, by rw [lv_appk]; rfl, by rw [lv_appk]; rfl, by rw [lv_appk]; rfl, by rw [lv_appk]; rfl, by rw [List.length_append]; exact Nat.le_refl _⟩, .raw (.slice none 0 0), .raw (.slice none 0 0), by simp only [↓amD, amU, simprocAttr, zipEnv], by simp only [↓amD, amU, simprocAttr, zipEnv], by rw [List.take_zero]; exact .nil, by rw [List.take_zero]; exact .nil, (by intro _ _ _ h; cases h), (by intro _ _ _ h; cases h), (by intro _ _ _ _ _ h; cases h)⟩
 ·rintro i hi env rs ⟨hh, hB, d18, d19, h18, h19, hO1, hO2, hH1, hH2, hne⟩ R hR
  simp only [has] at hh
  have f0 : ((i : Int) < (pT V.o.toNat : Int)) = True := eq_true (by omega)
  have f1 := wz_succ i (by omega)
  have R0 := fun L' => live_app hB.r0 L'
  have R2 := fun L' => live_app hB.r2 L'
  have R4 := fun L' => live_app hB.r4 L'
  have R6 := fun L' => live_app hB.r6 L'
  have r0 := hB.r0
  have r2 := hB.r2
  have r4 := hB.r4
  have r6 := hB.r6
  have gd : ((digitsS V.o.toNat (mashS V.id q (sigC one) msg)).map natD)[i]? = some (.raw (it (((digitsS V.o.toNat (mashS V.id q (sigC one) msg)).getD i 0 : Nat) : Int))) := by simp [natD, List.getD, hdl, hi]
  have gc : ((chunks one (pT V.o.toNat)).map d32D)[i]? = some (.agg (.ar 32 L8) (bs (chunk one i))) := by simp [d32D, chunks, hi]
  have hdi := hdg i
  have hci := hck i hi
  have hcE := hclE i
  have hPk := hP.keep hB.k
  have kV := fun k => kValP (rows := rs) (hPk.ps e) (hP.ok e) k ⟨q, i, ((2 ^ wT V.o.toNat - 1 : Nat) : Int)⟩ (by simp; omega) (by simp; omega)
  have hva : valP V.id V.seed ⟨q, (i : Int), ((2 ^ wT V.o.toNat - 1 : Nat) : Int)⟩ = chS V.id q i (2 ^ wT V.o.toNat - 1) 0 (secS V.id q i V.seed) := by simp [valP]
  rw [hva] at kV
  have e1 := ends_get (id := V.id) (q := q) (seed := V.seed) (E := 2 ^ wT V.o.toNat - 1) hi
  have e2 := cls_get (s := ⟨V.id, q⟩) (p := one) (m := msg) hi
  rw [hcE] at e2
  have kCi := fun rows k => kC i ((digitsS V.o.toNat (mashS V.id q (sigC one) msg)).getD i 0) (chunk one i) rows k (by omega) (by omega) hci
  generalize (digitsS V.o.toNat (mashS V.id q (sigC one) msg)).getD i 0 = a at *
  have l1 : (((endsS V.id q V.seed (2 ^ wT V.o.toNat - 1) (pT V.o.toNat)).take i).map d32D).length = i := by simp [endsS]; omega
  have l2 : ((((List.range (pT V.o.toNat)).map (clE ⟨V.id, q⟩ one msg)).take i).map d32D).length = i := by simp; omega
  simp only [psD, plcD] at r0 R0 kV
  simp only [↓amD, amU, simprocAttr, zipEnv, amR, hh, f0, b0, r0, r6, R6, gd, H.val, kV, h18]
  refine app_ownA hO1.push (by rw [l1]; simp [most]; omega) (by rw [l1]; simp [most]; omega) fun rs1 g1 g2 g3 => ?_
  rw [List.length_append] at g1 g3
  simp only [List.length_cons, List.length_nil] at g1 g3
  have hB1 : OnB rows rs1 r rp e V q one msg := hB.mono (fun p x hp hx => g2 p x (live_push hx) (fun ex n h => by have := hH1 p ex n h; omega)) (by omega)
  have hO2' : Own (.ar 32 L8) d19 rs1 ((((List.range (pT V.o.toNat)).map (clE ⟨V.id, q⟩ one msg)).take i).map d32D) := by
   rcases hO2 with h | ⟨p, ex, h, hl⟩
   ·exact .inl h
   ·exact .inr ⟨p, ex, h, g2 p _ (live_push hl) (fun ex' n' h' => hne p ex' n' _ _ h' h)⟩
  have hlt : ∀ p ex n, d19 = .sl (.ar 32 L8) p [] 0 n ex → p < rs.length := by
   intro p ex n h
   rcases hO2 with ⟨_, h'⟩ | ⟨p', ex', h', hl⟩
   ·rw [h'] at h; cases h
   ·rw [h'] at h; cases h; exact live_lt hl
  have S2 := fun L' => live_app hB1.r2 L'
  have S4 := fun L' => live_app hB1.r4 L'
  have s2 := hB1.r2
  have s4 := hB1.r4
  simp only [l1] 
  simp only [↓amD, amU, simprocAttr, zipEnv, amR, hh, f0, b0, s2, s4, gc, H.chn, kCi, h19]
  refine app_ownA hO2'.push (by rw [l2]; simp [most]; omega) (by rw [l2]; simp [most]; omega) fun rs2 u1 u2 u3 => ?_
  rw [List.length_append] at u1 u3
  simp only [List.length_cons, List.length_nil] at u1 u3
  simp only [l2]
  simp only [↓amD, amU, simprocAttr, zipEnv, amR, hh, f1]
  refine hR _ _ ⟨by simp only [has, ↓amD, amU, simprocAttr, zipEnv, hh], hB1.mono (fun p x hp hx => u2 p x (live_push hx) (fun ex n h => by have := hH2 p ex n h; omega)) (by omega), .sl (.ar 32 L8) (rs.length + 1) [] 0 (i + 1) false, .sl (.ar 32 L8) (rs1.length + 1) [] 0 (i + 1) false, by simp only [↓amD, amU, simprocAttr, zipEnv], by simp only [↓amD, amU, simprocAttr, zipEnv], ?_, ?_, ?_, ?_, ?_⟩
  ·rw [e1, List.map_append]
   refine .inr ⟨rs.length + 1, false, ?_, ?_⟩
   ·rw [List.length_append, l1]; rfl
   ·exact u2 _ _ (live_push g1) (fun ex n h => by have := hlt _ ex n h; omega)
  ·rw [e2, List.map_append]
   refine .inr ⟨rs1.length + 1, false, ?_, u1⟩
   rw [List.length_append, l2]; rfl
  ·intro p ex n h
   cases h
   have := hB.ln
   omega
  ·intro p ex n h
   cases h
   have := hB.ln
   omega
  ·intro p ex n ex' n' h h'
   cases h
   injection h' with _ h'
   omega
 ·rintro env rs ⟨hh, hB, d18, d19, h18, h19, hO1, hO2, hH1, hH2, hne⟩ R
  simp only [has] at hh
  have f0 : ((pT V.o.toNat : Int) < (pT V.o.toNat : Int)) = False := eq_false (by omega)
  have l1 : (endsS V.id q V.seed (2 ^ wT V.o.toNat - 1) (pT V.o.toNat)).length = pT V.o.toNat := by simp [endsS]
  have l2 : ((List.range (pT V.o.toNat)).map (clE ⟨V.id, q⟩ one msg)).length = pT V.o.toNat := by simp
  have m1 : ∀ x ∈ endsS V.id q V.seed (2 ^ wT V.o.toNat - 1) (pT V.o.toNat), x.length = 32 := by
   intro x hx
   obtain ⟨i, _, rfl⟩ := List.mem_map.1 hx
   exact chS_len _ _ _ _ _ _ (stepS_len _ _ _ _ _)
  have m2 : ∀ x ∈ (List.range (pT V.o.toNat)).map (clE ⟨V.id, q⟩ one msg), x.length = 32 := by
   intro x hx
   obtain ⟨i, hi, rfl⟩ := List.mem_map.1 hx
   exact clE_len (hck i (by simpa using hi))
  rw [List.take_of_length_le (Nat.le_of_eq l1)] at hO1
  rw [List.take_of_length_le (Nat.le_of_eq l2)] at hO2
  have hsum : sumS (txS V.id q (be2 32896) (endsS V.id q V.seed (2 ^ wT V.o.toNat - 1) (pT V.o.toNat))) = sumS (txS V.id q (be2 32896) ((List.range (pT V.o.toNat)).map (clE ⟨V.id, q⟩ one msg))) := by
   rw [← fold_tx, ← fold_tx]
   have := hcl
   rw [claimS, ho, pubS] at this
   exact this.symm
  have hinj : txS V.id q (be2 32896) (endsS V.id q V.seed (2 ^ wT V.o.toNat - 1) (pT V.o.toNat)) = txS V.id q (be2 32896) ((List.range (pT V.o.toNat)).map (clE ⟨V.id, q⟩ one msg)) → ∀ i, i < pT V.o.toNat → chS V.id q i (2 ^ wT V.o.toNat - 1) 0 (secS V.id q i V.seed) = clE ⟨V.id, q⟩ one msg i := by
   intro h i hi
   have := flat_inj (by rw [l1, l2]) m1 m2 (txS_inj h)
   have := congrArg (fun l => l[i]?) this
   simpa [endsS, hi] using this
  have hOL : O → endsS V.id q V.seed (2 ^ wT V.o.toNat - 1) (pT V.o.toNat) = (List.range (pT V.o.toNat)).map (clE ⟨V.id, q⟩ one msg) := fun o => by
   refine List.map_congr_left fun i hi => ?_
   have hi' : i < pT V.o.toNat := by simpa using hi
   have h1 := (hO o).1 i hi'
   have h2 := hdg i
   rw [hclE i, ← h1, vaS, Int.toNat_natCast, Int.toNat_natCast]
   have h3 := chS_add V.id q i (2 ^ wT V.o.toNat - 1 - (digitsS V.o.toNat (mashS V.id q (sigC one) msg)).getD i 0) ((digitsS V.o.toNat (mashS V.id q (sigC one) msg)).getD i 0) 0 (secS V.id q i V.seed)
   rw [Nat.zero_add, Nat.add_sub_cancel' h2] at h3
   exact h3
  have tl : ∀ l : List (List (BitVec 8)), l.length = pT V.o.toNat → (∀ x ∈ l, x.length = 32) → (txS V.id q (be2 32896) l).length = 22 + 32 * pT V.o.toNat := fun l hl h32 => by
   rw [txS, List.length_append, flat_len h32, hl, List.length_append, List.length_append, hid]; rfl
  have t1 := tl _ l1 m1
  have t2 := tl _ l2 m2
  clear tl
  generalize endsS V.id q V.seed (2 ^ wT V.o.toNat - 1) (pT V.o.toNat) = L1 at *
  generalize (List.range (pT V.o.toNat)).map (clE ⟨V.id, q⟩ one msg) = L2 at *
  have R0 := fun L' => live_app hB.r0 L'
  have r0 := hB.r0
  have r1 := hB.r1
  have R1 := fun L' => live_app hB.r1 L'
  have hPk := hP.keep hB.k
  simp only [psD] at r0 R0
  simp only [↓amD, amU, simprocAttr, zipEnv, amR, hh, f0, r0, R0, H.kpu, kKd, H.txt, h18, h19]
  refine Eq.mpr (kText ((hPk.push _).ps e) (hP.ok e) (k := be2 32896) (l := L1) (BsIn.own (by rw [lv_app0]; rfl) _ rfl) (RdIn.dlOwn hO1.push) (by simp [be2]) m1 (by omega) _ q) ?_
  simp only [↓amD, amU, simprocAttr, zipEnv, amR, hh, r0, R0, H.kpu, kKd, H.txt, h19]
  refine Eq.mpr (kText ((hPk.push _).ps e) (hP.ok e) (k := be2 32896) (l := L2) (BsIn.own (by rw [lv_appk]; rfl) _ rfl) (RdIn.dlOwn hO2.push) (by simp [be2]) m2 (by omega) _ q) ?_
  simp only [↓amD, amU, simprocAttr, zipEnv, amR, hh, H.tw0, H.tw1, H.tw2]
  rw [two_at (by rw [lv_appk]; rfl) (by rw [lv_appk]; rfl) rfl rfl (by omega) (by omega)]
  have hlnB := hB.ln
  by_cases cT : txS V.id q (be2 32896) L1 = txS V.id q (be2 32896) L2
  rotate_left
  ·simp only [fdD, decide_eq_false cT, ↓amD, amU, simprocAttr, zipEnv, amR, hh, r1, R1, Bool.not_false, fun L' X => live_set_eq (y := X) (R1 L')]
   refine hk _ _ 1 _ _ ⟨0#32, 0, 0⟩ z32 ((hB.k.trans (KeptL.app _ _)).set (by omega) _) ⟨⟨_, _, rfl, .inr ⟨_, _, rfl, ?_⟩, .inr ⟨_, _, rfl, ?_⟩⟩, rfl, by omega, by omega⟩ (.col cT hsum) (fun _ o => cT (by rw [hOL o]))
   ·rw [live_set_ne (by omega), lv_appk]; rfl
   ·rw [live_set_ne (by omega), lv_appk]; rfl
  have hinj := hinj cT
  simp only [fdD, decide_eq_true cT, ↓amD, amU, simprocAttr, zipEnv, amR, hh, Bool.not_true]
  generalize hLL : [(some ⟨L8, bs (be2 32896)⟩ : Option Row), some ⟨L8, bs (txS V.id q (be2 32896) L1)⟩] = LL
  clear hLL
  have hB2 := fun LL : Rows => hB.mono (rs' := rs ++ LL) (fun p x _ hx => live_push hx) (by rw [List.length_append]; omega)
  refine kLoop_up (pT V.o.toNat) (fun i env rs => has env [(105, .raw (it (i : Int))), (104, .raw (it (pT V.o.toNat : Int))), (103, .sl LI (rows.length + 6) [] 0 (pT V.o.toNat) false), (12, .raw (it ((2 ^ wT V.o.toNat - 1 : Nat) : Int))), (15, .sl (.ar 32 L8) (rows.length + 4) [] 0 (pT V.o.toNat) false), (14, .ptr (.ar 32 L8) (rows.length + 5) [0]), (8, .ptr SFd (rows.length + 1) [0]), (4, .ptr SPs rows.length [0]), (1, .raw (u32 q)), (3, dm)] ∧
   OnB rows rs r rp e V q one msg ∧ ∀ j, j < i → isKn V ml ⟨q, (j : Int), (((digitsS V.o.toNat (mashS V.id q (sigC one) msg)).getD j 0 : Nat) : Int)⟩ = true) ?_ ?_ ⟨?_, hB2 _, fun j hj => by omega⟩
  ·clear hh r0 r1 R0 R1 hPk hB hO1 hO2 h18 h19
   rintro i hi env rs ⟨hh, hB, hkn⟩ R hR
   simp only [has] at hh
   have f0 : ((i : Int) < (pT V.o.toNat : Int)) = True := eq_true (by omega)
   have f1 := wz_succ i (by omega)
   have r0 := hB.r0
   have r1 := hB.r1
   have r4 := hB.r4
   have r6 := hB.r6
   have R0 := fun L' => live_app hB.r0 L'
   have R1 := fun L' => live_app hB.r1 L'
   have R4 := fun L' => live_app hB.r4 L'
   have gd : ((digitsS V.o.toNat (mashS V.id q (sigC one) msg)).map natD)[i]? = some (.raw (it (((digitsS V.o.toNat (mashS V.id q (sigC one) msg)).getD i 0 : Nat) : Int))) := by simp [natD, List.getD, hdl, hi]
   have gc : ((chunks one (pT V.o.toNat)).map d32D)[i]? = some (.agg (.ar 32 L8) (bs (chunk one i))) := by simp [d32D, chunks, hi]
   have hdi := hdg i
   have hci := hck i hi
   have hcE := (hinj i hi).trans (hclE i)
   have hPk := hP.keep hB.k
   have hks : ∀ b, isKn V ml ⟨q, (i : Int), (((digitsS V.o.toNat (mashS V.id q (sigC one) msg)).getD i 0 : Nat) : Int)⟩ = b → b = true → ∀ j, j < i + 1 → isKn V ml ⟨q, (j : Int), (((digitsS V.o.toNat (mashS V.id q (sigC one) msg)).getD j 0 : Nat) : Int)⟩ = true := by
    intro b hb hbt j hj
    by_cases e : j = i
    ·rw [e, hb, hbt]
    ·exact hkn j (by omega)
   have kKn := fun a more k => kKnowsV (rs ++ more) k (.ptr SSig r [0]) V ⟨q, i, a⟩ (hPk.push more).rd hP.s.w.ok hokO (hP.s.tmS _)
   simp only [hP.s.kn] at kKn
   simp only [psD] at r0 R0
   simp only [↓amD, amU, simprocAttr, zipEnv, amR, hh, f0, b0, r0, R0, r6, gd, H.kno, kKn]
   cases hb : isKn V ml ⟨q, (i : Int), (((digitsS V.o.toNat (mashS V.id q (sigC one) msg)).getD i 0 : Nat) : Int)⟩ with
   | true =>
    simp only [↓amD, amU, simprocAttr, zipEnv, amR, hh, f1, Bool.not_true]
    exact hR _ _ ⟨by simp only [has, ↓amD, amU, simprocAttr, zipEnv, hh], hB.mono (fun p x _ hx => live_push hx) (by rw [List.length_append]; omega), hks _ hb rfl⟩
   | false =>
    clear hks
    have hOa := fun o => (hO o).1 i hi
    generalize (digitsS V.o.toNat (mashS V.id q (sigC one) msg)).getD i 0 = a at *
    obtain ⟨m, hm⟩ : ∃ m, a + m = 2 ^ wT V.o.toNat - 1 := ⟨2 ^ wT V.o.toNat - 1 - a, by omega⟩
    simp only [↓amD, amU, simprocAttr, zipEnv, amR, hh, f0, b0, r0, R0, R4, gc, Bool.not_false, H.ch0, H.ch1]
    rw [← hm]
    refine chain_run CH H.chC (hPk.push _) hq hi hm hci ?_ hb hOa ?_
    ·rw [← hm, chS_add, Nat.zero_add, show a + m - a = m by omega] at hcE
     exact hcE
    ·intro rows' d k A B p x hK2 hF hG hN
     have hff := hF.fits
     have g1 := hK2 _ _ (R1 _)
     simp only [↓amD, amU, simprocAttr, zipEnv, amR, hh, hff, g1, fun X => live_set_eq (y := X) g1]
     exact hk _ _ k A B p x (((hB.k.trans (KeptL.app _ _)).trans hK2).set (by omega) _) (hF.setO g1 (by decide) _) hG hN
  ·clear hh r0 r1 R0 R1 hPk hB hO1 hO2 h18 h19
   rintro env rs ⟨hh, hB, hkn⟩ R
   simp only [has] at hh
   have f0 : ((pT V.o.toNat : Int) < (pT V.o.toNat : Int)) = False := eq_false (by omega)
   obtain ⟨hql, hne2, hs2⟩ := all_known hP.s hcl32 hn hkn
   have hcx : (ml.getD q.toNat ([], [])).2.length = 32 ∧ (ml.getD q.toNat ([], [])).1.length ≤ 60 := by
    refine hP.s.cl _ ?_
    simp only [List.getD, List.getElem?_eq_getElem hql, Option.getD_some]
    exact List.getElem_mem hql
   have hPk := hP.keep hB.k
   have r0 := hB.r0
   have R0 := fun L' => live_app hB.r0 L'
   simp only [psD] at r0 R0
   simp only [↓amD, amU, simprocAttr, zipEnv, amR, hh, f0, r0, R0, H.la0, H.la1]
   refine last_run CL hPk hql ?_
   generalize ml.getD q.toNat ([], []) = x at *
   obtain ⟨mx, cx⟩ := x
   simp only at hne2 hs2 hcx
   have r1 := hB.r1
   have R1 := fun L' => live_app hB.r1 L'
   have R5 := fun L' => live_app hB.r5 L'
   simp only [↓amD, amU, simprocAttr, zipEnv, amR, hh, r0, R0, R5, H.kms, kKd, H.txt]
   refine Eq.mpr (kText ((hPk.push _).ps e) (hP.ok e) (k := be2 33153) (l := [cx]) (BsIn.own (by rw [lv_appk]; rfl) _ rfl) (RdIn.dl (by rw [lv_appk]; rfl) rfl) (by simp [be2]) (by simp [hcx.1]) (by simp) _ q) ?_
   have tl : ∀ x : List (BitVec 8), x.length = 32 → (txS V.id q (be2 33153) [x]).length = 54 := fun x hx => by
    simp only [txS, List.length_append, hid, be2, List.flatten_cons, List.flatten_nil, List.append_nil, hx, List.length_cons, List.length_nil]; rfl
   have t1 := tl cx hcx.1
   have t2 := tl (sigC one) hcl32
   generalize hT1 : txS V.id q (be2 33153) [cx] = T1 at *
   have tk1 : List.take T1.length (bs T1) = bs T1 := bs_take_len T1
   have hlm : (T1 ++ mx).length ≤ 1000000 := by rw [List.length_append]; omega
   have hlm2 : (txS V.id q (be2 33153) [sigC one] ++ msg).length ≤ 1000000 := by rw [List.length_append]; omega
   have sl1 : T1.length + mx.length = (T1 ++ mx).length := by rw [List.length_append]
   have sl2 : (txS V.id q (be2 33153) [sigC one]).length + msg.length = (txS V.id q (be2 33153) [sigC one] ++ msg).length := by rw [List.length_append]
   have hm' := hm
   simp only [↓amD, amU, simprocAttr, zipEnv, amR, hh, r0, R0, R5, H.kms, kKd, H.txt, tk1, bs_len, bs_app]
   refine ⟨by omega, by omega, ?_⟩
   refine Eq.mpr (kText ((hPk.push _).ps e) (hP.ok e) (k := be2 33153) (l := [sigC one]) (BsIn.own (by rw [lv_appk]; rfl) _ rfl) (RdIn.dl (by rw [lv_appk]; rfl) rfl) (by simp [be2]) (by simp [hcl32]) (by simp) _ q) ?_
   generalize hT2 : txS V.id q (be2 33153) [sigC one] = T2 at *
   have tk2 : List.take T2.length (bs T2) = bs T2 := bs_take_len T2
   have tkm : List.take msg.length (bs msg) = bs msg := bs_take_len msg
   rcases hm with ⟨e2, rfl⟩ | ⟨r2, e2, rfl, hl2⟩
   rotate_left
   have Rm := fun L' => live_app (hB.k _ _ hl2) L'
   simp only [↓amD, amU, simprocAttr, zipEnv, amR, hh, r0, R0, R5, Rm, tk1, tk2, tkm, bs_len, bs_app]
   rotate_left
   simp only [↓amD, amU, simprocAttr, zipEnv, amR, hh, r0, R0, R5, tk1, tk2, tkm, bs_len, bs_app]
   all_goals
    refine ⟨by omega, by omega, ?_⟩
    simp only [↓amD, amU, simprocAttr, zipEnv, amR, H.tw0, H.tw1, H.tw2]
    rw [two_at (A := T1 ++ mx) (B := T2 ++ msg) (by rw [lv_appk]; rfl) (by rw [lv_appk]; rfl) sl1 sl2 (by omega) (by omega)]
    have hlnB := hB.ln
    simp only [fdD, ↓amD, amU, simprocAttr, zipEnv, amR, hh, r1, R1, fun L' X => live_set_eq (y := X) (R1 L')]
    refine hk _ _ 1 _ _ ⟨0#32, 0, 0⟩ z32 ((hB.k.trans (KeptL.app _ _)).set (by omega) _) ⟨⟨_, _, rfl, .inr ⟨rs.length + 7, false, by rw [sl1], ?_⟩, .inr ⟨rs.length + 10, false, by rw [sl2], ?_⟩⟩, rfl, hlm, hlm2⟩ (.col hne2 hs2) (fun _ o => by have := (hO o).2; omega)
    ·rw [live_set_ne (by omega), lv_appk]; rfl
    ·rw [live_set_ne (by omega), lv_appk]; rfl
  ·simp only [has, ↓amD, amU, simprocAttr, zipEnv, hh]
 ·simp only [has, ↓amD, amU, simprocAttr, zipEnv]
theorem ver_0 {V : SgV} {ml : Msgs} (h : PS V ml) {msg sg : List (BitVec 8)} (hv : verE (pubSg V) msg sg = 0) :
  partsE sg = 0 ∧ (lqS sg).toNat < 2 ∧ lhS sg = 1 ∧ loS sg = V.o ∧ (oneS sg).length = 36 + 32 * pT V.o.toNat ∧
   dI V.id (lqS sg + 1#32 <<< 1) (leafS V.id (lqS sg + 1#32 <<< 1) (pubS V.o.toNat ⟨V.id, lqS sg⟩ V.seed)) (pathG V (lqS sg).toNat) 1 = dI V.id (lqS sg + 1#32 <<< 1) (leafS V.id (lqS sg + 1#32 <<< 1) (claimS ⟨V.id, lqS sg⟩ (oneS sg) msg)) (pathS sg 1) 1 := by
 have hr := pub_read h.w
 have hre : rtE (pubSg V) sg = 0 := by
  unfold verE at hv
  split at hv
  ·assumption
  ·exact hv
 have hrt : rtS (pubSg V) msg sg = V.ns.getD 1 [] := by
  unfold verE at hv
  rw [if_pos hre, hr] at hv
  split at hv
  ·assumption
  ·exact absurd hv (by decide)
 unfold rtE at hre
 rw [hr] at hre
 simp only [ne_eq, not_true, if_false] at hre
 have hpe : partsE sg = 0 := by
  by_cases c : partsE sg = 0
  ·exact c
  ·rw [if_pos c] at hre; exact absurd hre c
 rw [if_neg (not_not_intro hpe)] at hre
 have hto : ltS sg = V.t ∧ loS sg = V.o := by
  by_cases c : ltS sg = V.t ∧ loS sg = V.o
  ·exact c
  ·rw [if_neg c] at hre; exact absurd hre (by decide)
 have hl1 : lhS sg = 1 := by rw [lhS, hto.1]; exact h.h1
 obtain ⟨_, _, _, hqs⟩ := partsE_0 hpe
 rw [hl1, Nat.shiftRight_eq_div_pow] at hqs
 have hq : (lqS sg).toNat < 2 := by omega
 have hon := oneS_len hpe
 rw [lpS, hto.2] at hon
 refine ⟨hpe, hq, hl1, hto.2, hon, ?_⟩
 have hcr := climb_root h.w (q := lqS sg) (by rw [h.two]; exact hq)
 rw [← hrt, rtS, hr, hl1, climbS, climbS, pathG_len, h.w.pn (by rw [h.two]; exact hq), h.h1, pathS_len] at hcr
 exact hcr
def OwnS (V : SgV) (ml : Msgs) (msg sg : List (BitVec 8)) : Prop := claimS ⟨V.id, lqS sg⟩ (oneS sg) msg = pubS V.o.toNat ⟨V.id, lqS sg⟩ V.seed ∧ pathG V (lqS sg).toNat = pathS sg 1 ∧
 (∀ i : Nat, i < pT V.o.toNat → vaS V ⟨lqS sg, i, (((digitsS V.o.toNat (mashS V.id (lqS sg) (sigC (oneS sg)) msg)).getD i 0 : Nat) : Int)⟩ = chunk (oneS sg) i) ∧ ml.length ≤ (lqS sg).toNat
structure ExC (C CF CC CO CH CL : Ctx) : Prop where
 of0 : C.fn 29 = none
 of1 : C.fnr 29 = some (afun CF 2 r_proof_of a_proof_of)
 ofC : OfC CF
 ver : C.fn 14 = some fVerify
 sid : C.fn 12 = some fSigned
 par : C.fn 30 = some fParts
 sit : C.fn 32 = some fSiteP
 clm : C.fn 31 = some fClaim
 pub : C.fn 33 = some fPublic
 cl0 : C.fn 34 = none
 cl1 : C.fnr 34 = some (afun CC 5 r_proof_signer_climb a_proof_signer_climb)
 clC : ClC CC
 on0 : C.fn 35 = none
 on1 : C.fnr 35 = some (afun CO 4 r_proof_signer_once a_proof_signer_once)
 onC : OnC CO CH CL
set_option maxHeartbeats 4000000 in
theorem extract_run (C CF CC CO CH CL : Ctx) (H : ExC C CF CC CO CH CL) {rows : Rows} {L : At4} {S : Sg} {ml : Msgs} (hS : Sgn rows L S) (hP : PS (S.v L) ml) {dm ds : D} {msg sg : List (BitVec 8)} (hm : MsgIn rows dm msg) (hs : MsgIn rows ds sg) (hml : msg.length ≤ 1000) (hsl : sg.length ≤ 1000000) {K : D → Rows → Prop}
  (hk1 : verE (pubSg (S.v L)) msg sg ≠ 0 → ∀ rows', KeptL rows rows' → K (.tup [fd0, .raw (it (verE (pubSg (S.v L)) msg sg))]) rows')
  (hk2 : verE (pubSg (S.v L)) msg sg = 0 → msg ∈ ml.map (·.1) → ∀ rows', KeptL rows rows' → K (.tup [fd0, .raw (it 7)]) rows')
  (hk3 : verE (pubSg (S.v L)) msg sg = 0 → msg ∉ ml.map (·.1) → ∀ rows' d k A B p x, KeptL rows rows' → FdIn rows' d k A B p x → Good (S.v L) ml k A B p x → (k = 1 → ¬ OwnS (S.v L) ml msg sg) → K (.tup [d, .raw (it 0)]) rows') :
  afun C 4 r_proof_Extract a_proof_Extract [.ptr SSig L.r [0], .agg (.ar 32 L8) (bs S.seed), dm, ds] rows K := by
 refine afun_mk rfl ?_
 unfold a_proof_Extract r_proof_Extract
 simp only [z32_eq]
 simp only [↓amD, amU, simprocAttr, zipEnv, amR, H.of0, H.of1]
 refine of_run CF H.ofC (hS.push _) hP ?_
 intro R1 rp e hK1 hP1
 have g0 := hK1 _ _ (by rw [lv_app0]; rfl : live (rows ++ _) rows.length = _)
 have g1 := hK1 _ _ (by rw [lv_appk]; rfl : live (rows ++ _) (rows.length + 1) = _)
 have hKr := (KeptL.app _ _).trans hK1
 have hm1 : ∀ L', MsgIn (R1 ++ L') dm msg := fun L' => hm.keep fun p l hp => live_push (hKr _ _ hp)
 have hs1 : ∀ L', MsgIn (R1 ++ L') ds sg := fun L' => hs.keep fun p l hp => live_push (hKr _ _ hp)
 have hw0 := hP.w
 have hpl := pubSg_len hw0.ok
 have hid : (S.v L).id.length = 16 := hP.w.id
 have hsd : (S.v L).seed.length = 32 := hP.w.sd
 have hseed : S.seed = (S.v L).seed := rfl
 rw [hseed] at g0 ⊢
 have hok := hP.okO
 have hv0 := fun h => ver_0 hP (msg := msg) (sg := sg) h
 have hps := fun L' => (hP1.push L').ps e
 have hpk := hP1.ok e
 have hrd := fun L' => (hP1.push L').rd
 have hp0 := fun L' => live_app hP1.p L'
 have hsm := hP.smS msg
 generalize S.v L = V at *
 have G0 := fun L' => live_app g0 L'
 have G1 := fun L' => live_app g1 L'
 have hlr := live_lt g1
 have kSd := fun L' k' => kSignedV (R1 ++ L') k' (.ptr SSig L.r [0]) _ V msg (hrd L') (hm1 L').bs hw0.ok hsm.1 (by omega)
 rw [hsm.2] at kSd
 have kSt := fun more k => kSiteP (rows := R1 ++ more) (hps more) hpk k (lqS sg)
 simp only [psD] at kSt hps ⊢
 simp only [↓amD, amU, simprocAttr, zipEnv, amR, g0, g1, G0, G1, H.ver]
 refine Eq.mpr (kVerify _ _ _ _ _ (pubSg V) msg sg (BsIn.own (hp0 _) _ hpl.symm) (hm1 _).bs (hs1 _).bs (by omega) (by omega) (by omega)) ?_
 by_cases cv : verE (pubSg V) msg sg = 0
 rotate_left
 ·have cv' : (verE (pubSg V) msg sg = 0) = False := eq_false cv
  simp only [↓amD, amU, simprocAttr, zipEnv, amR, cv', g1, G1, decide_false, Bool.not_false, fun L' X => live_set_eq (y := X) (G1 L')]
  exact hk1 cv _ ((hKr.trans (KeptL.app _ _)).set (by omega) _)
 rw [cv]
 obtain ⟨hpe, hq, hl1, hlo, hon, hroot⟩ := hv0 cv
 simp only [↓amD, amU, simprocAttr, zipEnv, amR, g1, G1, H.sid, kSd]
 by_cases cs : msg ∈ ml.map (·.1)
 ·rw [decide_eq_true cs]
  simp only [↓amD, amU, simprocAttr, zipEnv, amR, g1, G1, fun L' X => live_set_eq (y := X) (G1 L')]
  exact hk2 cv cs _ ((hKr.trans (KeptL.app _ _)).set (by omega) _)
 rw [decide_eq_false cs]
 simp only [↓amD, amU, simprocAttr, zipEnv, amR, g1, G1, H.par]
 refine Eq.mpr (kParts _ _ ds sg (hs1 _).bs (by omega) hpe) ?_
 have hlp : lpS sg = pT V.o.toNat := by rw [lpS, hlo]
 have hpath : (pathS sg 1).map d32D = [.agg (.ar 32 L8) (bs (pcS sg 0))] := rfl
 have hpc : (pcS sg 0).length = 32 := pathS_32 hpe _ (by rw [hl1]; exact .head _)
 have hpS : pathS sg 1 = [pcS sg 0] := rfl
 have hsE := split_one hpe
 have hsT : sigT (oneS sg) = V.o := by rw [← hlo]; exact one_T
 have hpt : pT V.o.toNat ≤ 265 := (parT_ok hok).2.2.1
 rw [hl1, hlp, hpath]
 rw [hpS] at hroot
 have kPu := fun rows k => kPublic rows k V.o ⟨V.id, lqS sg⟩ V.seed hid hsd hok
 simp only [↓amD, amU, simprocAttr, zipEnv, amR, g0, g1, G0, G1, H.sit, kSt, H.clm]
 refine Eq.mpr (kClaim _ _ ⟨V.id, lqS sg⟩ _ dm (oneS sg) msg (BsIn.own (by rw [lv_appk]; rfl) _ hon.symm) (hm1 _).bs hid (by omega) hsE) ?_
 simp only [↓amD, amU, simprocAttr, zipEnv, amR, g0, g1, G0, G1, H.sit, kSt, H.pub, kPu, H.cl0, H.cl1]
 refine climb_run CC H.clC (hP1.push _) hq (sumS_len _) (claimS_len _ _ _) hpc (by rw [show 1 + (R1.length + 1) = R1.length + 2 by omega, lv_appk]; rfl) hroot (O := OwnS V ml msg sg) (fun o => ⟨o.1.symm, o.2.1⟩) ?_ ?_
 ·intro R2 d k A B p x hK2 hF hG hN
  have hff := hF.fits
  have u1 := hK2 _ _ (G1 _)
  have U1 := fun L' => live_app u1 L'
  simp only [↓amD, amU, simprocAttr, zipEnv, amR, hff, u1, U1, fun L' X => live_set_eq (y := X) (U1 L')]
  exact hk3 cv cs _ d k A B p x (((hKr.trans (KeptL.app _ _)).trans (hK2.trans (KeptL.app _ _))).set (by omega) _) ((hF.keep (KeptL.app _ _)).setO (U1 _) (by decide) _) hG hN
 ·intro hoc R2 hK2
  have u0 := hK2 R1.length _ (by rw [lv_app0]; rfl)
  have u2 := hK2 (R1.length + 1) _ (by rw [lv_appk]; rfl)
  have u1 := hK2 _ _ (G1 _)
  have U0 := fun L' => live_app u0 L'
  have U1 := fun L' => live_app u1 L'
  have hK3 := (KeptL.app R1 _).trans hK2
  simp only [fd0, ↓amD, amU, simprocAttr, zipEnv, amR, u0, U0, u1, U1, H.on0, H.on1]
  refine once_run CO CH CL H.onC (hP1.keep (hK3.trans (KeptL.app _ _))) hq (live_app u2 _) hon.symm ((hm1 []).keep fun p l hp => live_push (hK3 _ _ (by simpa using hp))) (by omega) hml hsT hsE hoc.symm cs (O := OwnS V ml msg sg) (fun o => o.2.2) ?_
  intro R3 d k A B p x hK4 hF hG hN
  have hff := hF.fits
  have w1 := hK4 _ _ (U1 _)
  have W1 := fun L' => live_app w1 L'
  simp only [↓amD, amU, simprocAttr, zipEnv, amR, hff, w1, W1, fun X => live_set_eq (y := X) w1]
  exact hk3 cv cs _ d k A B p x ((((hKr.trans hK3).trans (KeptL.app _ _)).trans hK4).set (by omega) _) (hF.setO w1 (by decide) _) hG hN
def psC (V : SgV) (seed : List (BitVec 8)) (rp : Nat) (e : Bool) : D := .agg SPs [sgV V, .sl L8 rp [] 0 56 e, .agg (.ar 16 L8) (bs V.id), .raw (u32 V.o), .agg (.ar 32 L8) (bs seed)]
theorem psC_rd {rows : Rows} {V : SgV} {seed : List (BitVec 8)} {rp : Nat} (e : Bool) (hp : okSg V = true) (hl : live rows rp = some ⟨L8, bs (pubSg V)⟩) : RdIn rows (rdOf psV) (psC V seed rp e) ⟨sgV V, .lst L8 (bs (pubSg V)) e, V.id, V.o, seed⟩ := by
 have hlen := pubSg_len hp
 have hn := sgV_noref (okSg_iff.1 hp).2.2.2.2.2.2
 have el : elems rows (.sl L8 rp [] 0 56 e) = some (bs (pubSg V)) := by
  simp only [elems, hl]
  rw [List.drop_zero, List.take_of_length_le (by rw [bs_len, hlen]; exact Nat.le_refl _)]
 have hb : (bs (pubSg V)).length = 56 := by rw [bs_len, hlen]
 have hv : view rows 9 (psC V seed rp e) = some (psV ⟨sgV V, .lst L8 (bs (pubSg V)) e, V.id, V.o, seed⟩) := by
  unfold psC psV
  rw [vw_agg]
  have e1 : view rows 8 (sgV V) = some (sgV V) := by
   show (bif hasRef (.agg SSig _) then none else some (sgV V)) = some (sgV V)
   rw [show hasRef (.agg SSig [.raw (u32 V.t), .raw (u32 V.o), .agg (.ar 16 L8) (bs V.id), .agg (.ar 32 L8) (bs V.seed), .lst (.ar 32 L8) (V.ns.map d32D) V.en, .raw (u32 V.nx), .om MSgn V.sm, .om MTold V.tm, V.ld]) = false from hn]
   rfl
  have e2 : view rows 8 (.sl L8 rp [] 0 56 e) = some (.lst L8 (bs (pubSg V)) e) := by
   rw [vw_sl, el]
   simp [hb, Sh.pure]
  have e3 : view rows 8 (.agg (.ar 16 L8) (bs V.id)) = some (.agg (.ar 16 L8) (bs V.id)) := by rw [vw_agg]; rfl
  have e4 : view rows 8 (.raw (u32 V.o)) = some (.raw (u32 V.o)) := rfl
  have e5 : view rows 8 (.agg (.ar 32 L8) (bs seed)) = some (.agg (.ar 32 L8) (bs seed)) := by rw [vw_agg]; rfl
  simp only [mapO, e1, e2, e3, e4, e5]
  rfl
 refine ⟨⟨_, hv, rdOf_eq psV_inj _⟩, fun h => ?_⟩
 simp [psC, hasRef, hasRefL, Sh.pure, hn] at h
theorem psC_ok {V : SgV} {seed : List (BitVec 8)} (e : Bool) (hp : okSg V = true) (hs : seed.length = 32) : okPs ⟨sgV V, .lst L8 (bs (pubSg V)) e, V.id, V.o, seed⟩ = true := by
 have h1 := (okSg_iff.1 hp).1
 have h3 := sgV_noref (okSg_iff.1 hp).2.2.2.2.2.2
 simp only [okPs, h1, hs, h3, decide_true, Bool.true_and]
 rfl
theorem kPublicC (rows : Rows) (k : D → Rows → Prop) (s : SgV) (hp : okSg s = true) : kCall fPublicK rows k [sgV s] = k (.sl L8 (0 + rows.length) [] 0 56 false) (rows ++ [some ⟨L8, bs (pubSg s)⟩]) := by
 refine (kCall_val (by simp [hasRefL, sgV_noref (okSg_iff.1 hp).2.2.2.2.2.2]) (fn1_eq (rdOf_eq sgV_inj s) hp)).trans ?_
 simp [outBs, shift, shiftRows, Sh.pure, pubSg_len hp]
theorem of_runD (C : Ctx) (H : OfC C) {rows : Rows} {V : SgV} {seed : List (BitVec 8)} (hp : okSg V = true) {K : D → Rows → Prop}
  (hk : ∀ R' rp, KeptL rows R' → live R' rp = some ⟨L8, bs (pubSg V)⟩ → K (psC V seed rp false) R') :
  afun C 2 r_proof_of a_proof_of [sgV V, .agg (.ar 32 L8) (bs seed)] rows K := by
 refine afun_mk rfl ?_
 unfold a_proof_of r_proof_of
 have kPub := fun rows k' => kPublicC rows k' V hp
 have hlen := pubSg_len hp
 have hidl := (okSg_iff.1 hp).1
 have hid := pub_id hidl
 simp only [↓amD, amU, simprocAttr, zipEnv, amR, H.pub, kPub]
 simp only [bs_drop, bs_take, hid, bs_len, H.num]
 refine ⟨hidl, ?_⟩
 have e4 : ((pubSg V).drop 4).take 52 = (pubSg V).drop 4 := List.take_of_length_le (by rw [List.length_drop, hlen]; decide)
 refine Eq.mpr (kLNum _ _ _ _ (BsIn.sub (by rw [lv_appk]; rfl) (by rw [hlen]; decide)) (by rw [e4, List.length_drop, hlen]; decide)) ?_
 rw [e4, pub_o]
 simp only [↓amD, amU, simprocAttr, zipEnv, amR]
 exact hk _ (rows.length + 2) (KeptL.app _ _) (by rw [lv_appk]; rfl)
noncomputable def rdSO : D → Option (Option SgV) := fun d => match d with
 | .raw (.pointer none) => some none
 | d => (rdOf sgV d).map some
theorem rdSO_some {d : D} {s : Option SgV} (h : rdSO d = some s) : (d = .raw (.pointer none) ∧ s = none) ∨ ∃ V, d = sgV V ∧ s = some V := by
 unfold rdSO at h
 split at h
 ·cases h; exact .inl ⟨rfl, rfl⟩
 ·obtain ⟨V, hV, rfl⟩ := Option.map_eq_some_iff.1 h
  exact .inr ⟨V, rdOf_some hV, rfl⟩
theorem rdSO_eq (V : SgV) : rdSO (sgV V) = some (some V) := by
 have : rdSO (sgV V) = (rdOf sgV (sgV V)).map some := rfl
 rw [this, rdOf_eq sgV_inj]; rfl
theorem RdIn.so {rows : Rows} {d : D} {V : SgV} (h : RdIn rows (rdOf sgV) d V) : RdIn rows rdSO d (some V) := by
 obtain ⟨⟨d', h1, h2⟩, h3⟩ := h
 refine ⟨⟨d', h1, ?_⟩, fun hr => ?_⟩
 ·rw [rdOf_some h2]; exact rdSO_eq V
 ·rw [rdOf_some (h3 hr)]; exact rdSO_eq V
theorem RdIn.soN {rows : Rows} : RdIn rows rdSO (.raw (.pointer none)) none := RdIn.raw rfl
def okSO : Option SgV → Bool
 | none => true
 | some V => okSg V && okT V.o.toNat
def thereQ (V : SgV) (p : Plc) : Bool := decide (p.q.toNat < lvN V) && (inI p.i (pT V.o.toNat : Int) && inI p.j ((2 ^ wT V.o.toNat : Nat) : Int))
def valO (V : SgV) (x : List (BitVec 8)) (p : Plc) : List (BitVec 8) := bif thereQ V p then valP V.id x p else z32
def outV : Option SgV → List (BitVec 8) → Plc → D
 | none, _, _ => .tup [d32D z32, .raw (.bool false)]
 | some V, x, p => .tup [d32D (valO V x p), .raw (.bool (thereQ V p))]
noncomputable def fVal7 : Fn := fn3 rdSO (rdOf d32D) (rdOf plcD) (fun s x _ => okSO s && decide (x.length = 32)) fun s x p => (outV s x p, [])
structure VaC (C CF : Ctx) : Prop where
 pat : C.fn 28 = some fPath
 of0 : C.fn 29 = none
 of1 : C.fnr 29 = some (afun CF 2 r_proof_of a_proof_of)
 ofC : OfC CF
 par : C.fn 40 = some fParams
 val : C.fn 41 = some fValP
theorem kPathC0 (rows : Rows) (k : D → Rows → Prop) (s : SgV) (q : BitVec 32) (hp : okSg s = true) (hq : ¬ q.toNat < lvN s) : kCall fPath rows k [sgV s, .raw (u32 q)] = k (.raw (.slice none 0 0)) rows := by
 refine (kCall_val (by simp [hasRefL, sgV_noref (okSg_iff.1 hp).2.2.2.2.2.2, hasRef]) (fn2_eq (rdOf_eq sgV_inj s) (rd32_eq q) hp)).trans ?_
 simp only [if_neg hq]
 simp [shift, shiftRows]
set_option maxHeartbeats 2000000 in
theorem val7_ok (C CF : Ctx) (hC : CtxOK C P) (H : VaC C CF) : Meets C.glob P 16 (Fn.run fVal7) := by
 refine fn_meets (m_proof_Value C hC) fun ds rows r h => ?_
 obtain ⟨d0, d1, d2, s, x, p, rfl, rfl, g0, g1, g2, hp, rfl⟩ := fn3_some h
 cases rdOf_some g1
 cases rdOf_some g2
 simp only [Bool.and_eq_true, decide_eq_true_eq] at hp
 obtain ⟨hs, hx⟩ := hp
 refine ⟨rfl, afun_mk rfl ?_⟩
 have hsd := rdSO_some g0
 clear h g0 g1 g2
 unfold a_proof_Value r_proof_Value
 simp only [z32_eq]
 rcases hsd with ⟨rfl, rfl⟩ | ⟨V, rfl, rfl⟩
 ·simp only [d32D, plcD, ↓amD, amU, simprocAttr, zipEnv, amR, plc_fits]
  exact .val _ rfl
 ·simp only [okSO, Bool.and_eq_true] at hs
  obtain ⟨hok, hot⟩ := hs
  have hz : D.agg SPar [.raw (it 0), .raw (it 0), .raw (it 0)] = parD ⟨0, 0, 0⟩ := rfl
  have gw0 : (parD (parT V.o.toNat)).get [0] = some (.raw (it (wT V.o.toNat : Int))) := rfl
  have gw1 : (parD (parT V.o.toNat)).get [1] = some (.raw (it (pT V.o.toNat : Int))) := rfl
  have hw := (parT_ok hot).1
  have hpw : 2 ^ wT V.o.toNat ≤ 256 := pow_le hw
  have hpt : pT V.o.toNat ≤ 265 := (parT_ok hot).2.2.1
  have hw8 : wT V.o.toNat ≤ 8 := by rcases w4_eq.1 hw with h | h | h | h <;> (have h' : wT V.o.toNat = _ := h; omega)
  have hsh := shl_it 1 (wT V.o.toNat) (by decide) (by omega)
  rw [Nat.one_mul, show ((1 : Nat) : Int) = 1 from rfl] at hsh
  obtain ⟨pq, pi, pj⟩ := p
  have kP := fun rows k hq => kPathC rows k V pq hok hq
  have kP0 := fun rows k hq => kPathC0 rows k V pq hok hq
  have hpn := pathN_pos hok pq.toNat
  have hsg : ∃ l, sgV V = .cptr l := ⟨_, rfl⟩
  unfold outV valO thereQ
  simp only [hz]
  by_cases cq : pq.toNat < lvN V
  rotate_left
  ·simp only [decide_eq_false cq, Bool.false_and, cond_false]
   have kP0 := fun rows k => kP0 rows k cq
   unfold sgV at kP0 ⊢
   simp only [d32D, plcD, ↓amD, amU, simprocAttr, zipEnv, amR, H.pat, kP0]
   exact .val _ rfl
  ·simp only [decide_eq_true cq, Bool.true_and]
   have kP := fun rows k => kP rows k cq
   have en : (pathN V pq.toNat = 0) = False := eq_false (by omega)
   have hof := fun rows K => of_runD CF H.ofC (rows := rows) (V := V) (seed := x) (K := K) hok
   unfold sgV at kP ⊢
   simp only [d32D, plcD, ↓amD, amU, simprocAttr, zipEnv, amR, H.pat, kP, en, H.of0, H.of1]
   refine ⟨fun h => h.elim, hof _ _ ?_⟩
   intro R' rp hK hl
   have q1 := hK 1 _ rfl
   have q2 := hK 2 _ rfl
   have Q1 := fun L' => live_app q1 L'
   have Q2 := fun L' => live_app q2 L'
   clear hK hof kP kP0
   have kV := fun (p : Plc) L' k hi hj => kValP (rows := R' ++ L') (psC_rd false hok (seed := x) (live_app hl L')) (psC_ok false hok hx) k p hi hj
   have fin : ∀ (R : Rows) (b : Bool) (y : List (BitVec 8)), Expo R (.tup [.agg (.ar 32 L8) (bs y), .raw (.bool b)]) (.tup [.agg (.ar 32 L8) (bs y), .raw (.bool b)]) [] := fun R b y => .val _ rfl
   unfold psC plcD at kV
   unfold psC
   simp only [↓amD, amU, simprocAttr, zipEnv, amR, q1, Q1, H.par, kParams, par_fits, gw0, gw1]
   have i1 : (inI pi (pT V.o.toNat : Int) && inI pj ((2 ^ wT V.o.toNat : Nat) : Int)) = true ↔ (0 ≤ pi ∧ pi < (pT V.o.toNat : Int)) ∧ 0 ≤ pj ∧ pj < ((2 ^ wT V.o.toNat : Nat) : Int) := by rw [Bool.and_eq_true, inI_eq, inI_eq]
   by_cases a1 : pi < 0
   ·have e0 : (inI pi (pT V.o.toNat : Int) && inI pj ((2 ^ wT V.o.toNat : Nat) : Int)) = false := Bool.eq_false_iff.2 fun h => by have := i1.1 h; omega
    simp only [↓amD, amU, simprocAttr, zipEnv, amR, eq_true a1, decide_true, q2, Q2, e0, fun L' X => live_set_eq (y := X) (Q2 L')]
    exact fin _ _ _
   by_cases a2 : (pT V.o.toNat : Int) ≤ pi
   ·have e0 : (inI pi (pT V.o.toNat : Int) && inI pj ((2 ^ wT V.o.toNat : Nat) : Int)) = false := Bool.eq_false_iff.2 fun h => by have := i1.1 h; omega
    simp only [↓amD, amU, simprocAttr, zipEnv, amR, eq_false a1, eq_true a2, gw0, gw1, q1, Q1, decide_true, decide_false, q2, Q2, e0, fun L' X => live_set_eq (y := X) (Q2 L')]
    exact fin _ _ _
   by_cases a3 : pj < 0
   ·have e0 : (inI pi (pT V.o.toNat : Int) && inI pj ((2 ^ wT V.o.toNat : Nat) : Int)) = false := Bool.eq_false_iff.2 fun h => by have := i1.1 h; omega
    simp only [↓amD, amU, simprocAttr, zipEnv, amR, eq_false a1, eq_false a2, eq_true a3, gw0, gw1, q1, Q1, decide_true, decide_false, q2, Q2, e0, fun L' X => live_set_eq (y := X) (Q2 L')]
    exact fin _ _ _
   by_cases a4 : ((2 ^ wT V.o.toNat : Nat) : Int) ≤ pj
   ·have e0 : (inI pi (pT V.o.toNat : Int) && inI pj ((2 ^ wT V.o.toNat : Nat) : Int)) = false := Bool.eq_false_iff.2 fun h => by have := i1.1 h; omega
    simp only [↓amD, amU, simprocAttr, zipEnv, amR, eq_false a1, eq_false a2, eq_false a3, eq_true a4, hsh, gw0, gw1, q1, Q1, decide_true, decide_false, q2, Q2, e0, fun L' X => live_set_eq (y := X) (Q2 L')]
    exact fin _ _ _
   have e0 : (inI pi (pT V.o.toNat : Int) && inI pj ((2 ^ wT V.o.toNat : Nat) : Int)) = true := i1.2 (by omega)
   have kV := fun L' k => kV ⟨pq, pi, pj⟩ L' k (by simp only; omega) (by simp only; omega)
   simp only at kV
   simp only [↓amD, amU, simprocAttr, zipEnv, amR, eq_false a1, eq_false a2, eq_false a3, eq_false a4, hsh, gw0, gw1, q1, Q1, decide_true, decide_false, H.val, kV, q2, Q2, e0, fun L' X => live_set_eq (y := X) (Q2 L')]
   exact fin _ _ _
theorem rdIn_sgv {rows : Rows} {V : SgV} (hp : okSg V = true) : RdIn rows (rdOf sgV) (sgV V) V := by
 have hn := sgV_noref (okSg_iff.1 hp).2.2.2.2.2.2
 refine ⟨⟨sgV V, ?_, rdOf_eq sgV_inj V⟩, fun _ => rdOf_eq sgV_inj V⟩
 show (bif hasRef (.agg SSig _) then none else some (sgV V)) = some (sgV V)
 rw [show hasRef (.agg SSig [.raw (u32 V.t), .raw (u32 V.o), .agg (.ar 16 L8) (bs V.id), .agg (.ar 32 L8) (bs V.seed), .lst (.ar 32 L8) (V.ns.map d32D) V.en, .raw (u32 V.nx), .om MSgn V.sm, .om MTold V.tm, V.ld]) = false from hn]
 rfl
theorem kVal7 {rows : Rows} {d : D} {s : Option SgV} (h : RdIn rows rdSO d s) (hs : okSO s = true) (k : D → Rows → Prop) (x : List (BitVec 8)) (hx : x.length = 32) (p : Plc) : kCall fVal7 rows k [d, .agg (.ar 32 L8) (bs x), plcD p] = k (outV s x p) rows := by
 refine (kCall_rd3 h (rdIn_d32 x) (rdIn_plc p) (by simp [hs, hx]) (by cases s <;> rfl) k).trans ?_
 cases s <;> simp [outV, d32D, shift, shiftL, shiftRows, Sh.pure]
structure FindV where
 k : Int
 a : List (BitVec 8)
 b : List (BitVec 8)
 p : Plc
 v : List (BitVec 8)
noncomputable def rdFd : D → Option FindV
 | .agg s [.raw (.int .i64 k), d0, d1, dp, dv] => if s = SFd then (rdBs d0).bind fun a => (rdBs d1).bind fun b => (rdOf plcD dp).bind fun p => (rdOf d32D dv).map fun v => ⟨k, a, b, p, v⟩ else none
 | _ => none
theorem rdFd_some {d : D} {f : FindV} (h : rdFd d = some f) : ∃ d0 d1, d = .agg SFd [.raw (it f.k), d0, d1, plcD f.p, d32D f.v] ∧ rdBs d0 = some f.a ∧ rdBs d1 = some f.b := by
 unfold rdFd at h
 split at h
 ·rename_i s k d0 d1 dp dv
  split at h
  ·rename_i hs
   subst hs
   obtain ⟨a, ha, h⟩ := Option.bind_eq_some_iff.1 h
   obtain ⟨b, hb, h⟩ := Option.bind_eq_some_iff.1 h
   obtain ⟨p, hp, h⟩ := Option.bind_eq_some_iff.1 h
   obtain ⟨v, hv, rfl⟩ := Option.map_eq_some_iff.1 h
   exact ⟨d0, d1, by rw [rdOf_some hp, rdOf_some hv]; rfl, ha, hb⟩
  ·cases h
 ·cases h
theorem rdFd_eq {d0 d1 : D} {f : FindV} (h0 : rdBs d0 = some f.a) (h1 : rdBs d1 = some f.b) : rdFd (.agg SFd [.raw (it f.k), d0, d1, plcD f.p, d32D f.v]) = some f := by
 have e : rdFd (.agg SFd [.raw (it f.k), d0, d1, plcD f.p, d32D f.v]) = if SFd = SFd then (rdBs d0).bind fun a => (rdBs d1).bind fun b => (rdOf plcD (plcD f.p)).bind fun p => (rdOf d32D (d32D f.v)).map fun v => ⟨f.k, a, b, p, v⟩ else none := rfl
 rw [e, if_pos rfl, h0, h1, rdOf_eq plcD_inj, rdOf_eq d32D_inj]
 rfl
def rightU : Option SgV → List (BitVec 8) → Plc → List (BitVec 8) → Bool
 | none, _, _, _ => false
 | some V, x, p, v => thereQ V p && (decide (valO V x p = v) && !knB V p)
def rightV (s : Option SgV) (x : List (BitVec 8)) (f : FindV) : Bool := if f.k = 1 then !decide (f.a = f.b) && decide (sumS f.a = sumS f.b) else if f.k = 2 then rightU s x f.p f.v else false
def okRf (s : Option SgV) (x : List (BitVec 8)) (f : FindV) : Bool := okSO s && (match s with
 | none => true
 | some V => (toldO V.tm f.p.q f.p.i).isSome) && decide (x.length = 32) && decide (f.v.length = 32) && decide (f.a.length ≤ 1000000) && decide (f.b.length ≤ 1000000)
noncomputable def fRight7 : Fn := fn3 rdSO (rdOf d32D) rdFd okRf fun s x f => (.raw (.bool (rightV s x f)), [])
theorem isBs_fits {d : D} {l : List (BitVec 8)} (h : IsBs d l) : d.fits .ref = true := by
 rcases h with ⟨rfl, _⟩ | ⟨e, rfl⟩ <;> rfl
set_option maxHeartbeats 2000000 in
theorem right7_ok (C : Ctx) (hC : CtxOK C P) (h1 : C.fn 36 = some fEqual) (h2 : C.fn 37 = some fSum) (h3 : C.fn 16 = some fVal7) (h4 : C.fn 20 = some fKnows) : Meets C.glob P 13 (Fn.run fRight7) := by
 refine fn_meets (m_proof_Right C hC) fun ds rows r h => ?_
 obtain ⟨d0, d1, d2, s, x, f, rfl, rfl, g0, g1, g2, hp, rfl⟩ := fn3_some h
 cases rdOf_some g1
 obtain ⟨da, db, rfl, ga, gb⟩ := rdFd_some g2
 simp only [okRf, Bool.and_eq_true, decide_eq_true_eq] at hp
 obtain ⟨⟨⟨⟨⟨hs, ht⟩, hx⟩, hv⟩, hla⟩, hlb⟩ := hp
 refine ⟨rfl, afun_mk rfl ?_⟩
 have hsd := rdSO_some g0
 have hA := rdBs_some ga
 have hB := rdBs_some gb
 have fA := isBs_fits hA
 have fB := isBs_fits hB
 clear h g0 g1 g2 ga gb
 obtain ⟨fk, a, b, p, v⟩ := f
 simp only at *
 unfold a_proof_Right r_proof_Right
 simp only [z32_eq]
 have fin : ∀ (R : Rows) (b : Bool), Expo R (.raw (.bool b)) (.raw (.bool b)) [] := fun R b => .val _ rfl
 by_cases k1 : fk = 1
 ·subst k1
  have er : rightV s x ⟨1, a, b, p, v⟩ = (!decide (a = b) && decide (sumS a = sumS b)) := by unfold rightV; rw [if_pos rfl]
  rw [er]
  unfold d32D plcD
  simp only [↓amD, amU, simprocAttr, zipEnv, amR, fA, fB, h1]
  refine Eq.mpr (kEqual _ _ _ _ a b hA.to hB.to (by omega) (by omega)) ?_
  by_cases c : a = b
  ·simp only [↓amD, amU, simprocAttr, zipEnv, amR, decide_eq_true c, Bool.not_true, Bool.false_and]
   exact fin _ _
  ·rw [decide_eq_false c]
   simp only [↓amD, amU, simprocAttr, zipEnv, amR, Bool.not_false, Bool.true_and, h2, fA, fB]
   refine Eq.mpr (kSum _ _ _ _ _ [da] [a] rfl rfl (.cons hA.to .nil) (by simp) (by simp; omega)) ?_
   simp only [↓amD, amU, simprocAttr, zipEnv, amR, Bool.not_false, Bool.true_and, h2, fA, fB]
   refine Eq.mpr (kSum _ _ _ _ _ [db] [b] rfl rfl (.cons hB.to .nil) (by simp) (by simp; omega)) ?_
   have q : eqL (bs (sumS a)) (bs (sumS b)) = some (decide (sumS a = sumS b)) := eqA_d32 (sumS a) (sumS b) (sumS_len _) (sumS_len _)
   simp only [List.flatten_cons, List.flatten_nil, List.append_nil]
   simp only [↓amD, amU, simprocAttr, zipEnv, amR, q]
   exact fin _ _
 ·by_cases k2 : fk = 2
  ·subst k2
   have er : rightV s x ⟨2, a, b, p, v⟩ = rightU s x p v := by unfold rightV; rw [if_neg k1, if_pos rfl]
   rw [er]
   unfold rightU
   rcases hsd with ⟨rfl, rfl⟩ | ⟨V, rfl, rfl⟩
   ·have kV := fun rows k => kVal7 (rows := rows) RdIn.soN rfl k x hx p
    unfold outV at kV
    unfold d32D plcD at *
    simp only [↓amD, amU, simprocAttr, zipEnv, amR, fA, fB, h3, kV]
    exact fin _ _
   ·have kV := fun rows k => kVal7 (rows := rows) (rdIn_sgv (by simp only [okSO, Bool.and_eq_true] at hs; exact hs.1)).so hs k x hx p
    simp only [okSO, Bool.and_eq_true] at hs
    have kKn := fun rows k => kKnowsV rows k (sgV V) V p (rdIn_sgv hs.1) hs.1 hs.2 ht
    unfold outV at kV
    unfold d32D plcD at *
    have hvl : (valO V x p).length = 32 := by
     unfold valO
     cases thereQ V p with
     | true => exact chS_len _ _ _ _ _ _ (stepS_len _ _ _ _ _)
     | false => rfl
    have q : eqL (bs (valO V x p)) (bs v) = some (decide (valO V x p = v)) := eqA_d32 _ _ hvl hv
    have hsf : (sgV V).fits .ref = true := rfl
    simp only [↓amD, amU, simprocAttr, zipEnv, amR, fA, fB, h3, kV, q]
    cases ct : thereQ V p with
    | false =>
     simp only [↓amD, amU, simprocAttr, zipEnv, amR, Bool.false_and]
     exact fin _ _
    | true =>
     simp only [↓amD, amU, simprocAttr, zipEnv, amR, Bool.true_and, q]
     cases cv : decide (valO V x p = v) with
     | false =>
      simp only [↓amD, amU, simprocAttr, zipEnv, amR, Bool.false_and]
      exact fin _ _
     | true =>
      simp only [↓amD, amU, simprocAttr, zipEnv, amR, Bool.true_and, h4, kKn]
      exact fin _ _
  ·have er : rightV s x ⟨fk, a, b, p, v⟩ = false := by unfold rightV; rw [if_neg k1, if_neg k2]
   rw [er]
   unfold d32D plcD
   simp only [↓amD, amU, simprocAttr, zipEnv, amR, fA, fB, eq_false k1, eq_false k2]
   exact fin _ _
theorem kRight7 {rows : Rows} {d e : D} {s : Option SgV} {f : FindV} (h : RdIn rows rdSO d s) (he : RdIn rows rdFd e f) (x : List (BitVec 8)) (hp : okRf s x f = true) (k : D → Rows → Prop) : kCall fRight7 rows k [d, .agg (.ar 32 L8) (bs x), e] = k (.raw (.bool (rightV s x f))) rows := by
 refine (kCall_rd3 h (rdIn_d32 x) he hp rfl k).trans ?_
 simp [shift, shiftRows]
theorem SlB.vw {rows : Rows} {d : D} {A : List (BitVec 8)} (h : SlB rows d A) (n : Nat) : ∃ d', view rows (n + 1) d = some d' ∧ rdBs d' = some A := by
 rcases h with ⟨rfl, rfl⟩ | ⟨r, e, rfl, hl⟩
 ·exact ⟨_, rfl, rfl⟩
 ·refine ⟨.lst L8 (Am.bs A) e, ?_, rdBs_lst A e⟩
  rw [vw_sl]
  have el : elems rows (.sl L8 r [] 0 A.length e) = some (Am.bs A) := by
   simp only [elems, hl]
   rw [List.drop_zero, bs_take_len]
  rw [el]
  simp [bs_len, Sh.pure]
theorem SlB.noref {rows : Rows} {d : D} {A : List (BitVec 8)} (h : SlB rows d A) (hr : hasRef d = false) : rdBs d = some A := by
 rcases h with ⟨rfl, rfl⟩ | ⟨r, e, rfl, hl⟩
 ·rfl
 ·simp [hasRef] at hr
theorem FdIn.rd {rows : Rows} {d : D} {k : Int} {A B : List (BitVec 8)} {p : Plc} {x : List (BitVec 8)} (h : FdIn rows d k A B p x) : RdIn rows rdFd d ⟨k, A, B, p, x⟩ := by
 obtain ⟨d0, d1, rfl, h0, h1⟩ := h.ex
 obtain ⟨e0, q0, q0'⟩ := h0.vw 7
 obtain ⟨e1, q1, q1'⟩ := h1.vw 7
 refine ⟨⟨.agg SFd [.raw (it k), e0, e1, plcD p, .agg (.ar 32 L8) (bs x)], ?_, rdFd_eq (f := ⟨k, A, B, p, x⟩) q0' q1'⟩, fun hr => ?_⟩
 ·rw [vw_agg]
  have e2 : view rows 8 (.raw (it k)) = some (.raw (it k)) := rfl
  have e3 : view rows 8 (plcD p) = some (plcD p) := by unfold plcD; rw [vw_agg]; rfl
  have e4 : view rows 8 (.agg (.ar 32 L8) (bs x)) = some (.agg (.ar 32 L8) (bs x)) := by rw [vw_agg]; rfl
  simp only [mapO, e2, q0, q1, e3, e4]
  rfl
 ·have hh : hasRef d0 = false ∧ hasRef d1 = false := by
   rcases h0 with ⟨rfl, _⟩ | ⟨_, _, rfl, _⟩ <;> rcases h1 with ⟨rfl, _⟩ | ⟨_, _, rfl, _⟩
   ·exact ⟨rfl, rfl⟩
   all_goals simp [hasRef, hasRefL, Sh.pure] at hr
  exact rdFd_eq (f := ⟨k, A, B, p, x⟩) (h0.noref hh.1) (h1.noref hh.2)
theorem okRf_of {V : SgV} {ml : Msgs} (h : PS V ml) {rows : Rows} {d : D} {k : Int} {A B : List (BitVec 8)} {p : Plc} {x : List (BitVec 8)} (hF : FdIn rows d k A B p x) : okRf (some V) V.seed ⟨k, A, B, p, x⟩ = true := by
 have e1 : okSO (some V) = true := by simp only [okSO, h.w.ok, h.okO, Bool.and_self]
 have e2 := h.tmS p
 have e3 : V.seed.length = 32 := h.w.sd
 simp only [okRf, e1, e2, e3, hF.x, hF.a, hF.b, decide_true, Bool.and_self]
theorem right_good {V : SgV} {ml : Msgs} (h : PS V ml) {k : Int} {A B : List (BitVec 8)} {p : Plc} {x : List (BitVec 8)} (hG : Good V ml k A B p x) : rightV (some V) V.seed ⟨k, A, B, p, x⟩ = true := by
 cases hG with
 | col hne hs => simp [rightV, hne, hs]
 | unt ht hv hk =>
  have ht' : thereQ V p = true := by
   unfold thereP at ht
   unfold thereQ
   rw [h.lv, ← Bool.and_assoc]
   exact ht
  have hk' : knB V p = false := by rw [h.kn]; exact hk
  simp [rightV, rightU, ht', hk', valO, hv, valP, vaS]
def layO (t : BitVec 8) : BitVec 32 := if t.toNat % 3 = 2 then 2#32 else 3#32
def id8 : List (BitVec 8) := 8#8 :: List.replicate 15 0#8
theorem id8_eq : (List.replicate 16 (D.raw (u8 0#8))).set 0 (.raw (u8 8#8)) = bs id8 := rfl
theorem layO_c (t : BitVec 8) : (layO t).toNat = 2 ∨ (layO t).toNat = 3 := by unfold layO; split <;> decide
theorem layO_ok (t : BitVec 8) : okT (layO t).toNat = true := by unfold layO; split <;> decide
abbrev lay7S (t : BitVec 8) (seed : List (BitVec 8)) : Sg := sgNew 3758096385#32 (layO t) id8 seed (nodesL (layO t) id8 seed (hH 3758096385#32))
structure LayC (C CT CS : Ctx) : Prop where
 n0 : C.fn 21 = none
 n1 : C.fnr 21 = some (afun CT 4 r_lms_New a_lms_New)
 nC : LmC CT
 s0 : C.fn 22 = none
 s1 : C.fnr 22 = some (afun CS 3 r_lms_Signer_Sign a_lms_Signer_Sign)
 sC : LmS CS
 cut : C.fn 9 = some fCut
 tab : C.fn 23 = some fTable
structure Lay7 (t : BitVec 8) (seed : List (BitVec 8)) (n : Nat) (rs : Rows) (r : Nat) (L : At4) (S : Sg) (ml : Msgs) : Prop where
 sgn : Sgn rs L S
 ps : PS (S.v L) ml
 la : S.last = ml
 sd : S.seed = seed
 o : S.o = layO t
 id : S.id = id8
 r : L.r = r
 b0 : n ≤ L.r
 b1 : n ≤ L.nr
 b2 : n ≤ L.ms
 b3 : n ≤ L.mt
 b4 : ∀ q ex k, L.dl = .sl SLet q [] 0 k ex → n ≤ q
theorem lay7_new {rs : Rows} {t : BitVec 8} {seed : List (BitVec 8)} {L : At4} {n : Nat} (hS : Sgn rs L (lay7S t seed)) (hsd : seed.length = 32) (hd : L.dl = .raw (.slice none 0 0)) (b0 : n ≤ L.r) (b1 : n ≤ L.nr) (b2 : n ≤ L.ms) (b3 : n ≤ L.mt) : Lay7 t seed n rs L.r L (lay7S t seed) [] := by
 have e1 : okH (3758096385#32).toNat = true := by decide
 have e2 : hT (3758096385#32).toNat ≤ 10 := by decide
 have e3 : hT (3758096385#32).toNat = 1 := by decide
 have hw := new_whole hS e1 e2 (layO_ok t) rfl hsd
 refine ⟨hS, ⟨hw, e3, layO_c t, rfl, Nat.zero_le _, fun x hx => by simp at hx, .inl ⟨?_, rfl⟩, fun m => rfl, fun q i => ?_⟩, rfl, rfl, rfl, rfl, rfl, b0, b1, b2, b3, fun q ex k h => by rw [hd] at h; cases h⟩
 ·show ldV L (lay7S t seed) = _
  rw [ldV, hd]
 ·show toldO [] q i = _
  rw [if_neg (by simp)]
  rfl
set_option maxHeartbeats 2000000 in
theorem lay7_run (C CT CS : Ctx) (H : LayC C CT CS) {rows : Rows} {t : BitVec 8} {seed : List (BitVec 8)} (hsd : seed.length = 32) {ms : List D} {dms : D} (hsl : slen dms = some ms.length) (hix : ∀ (i : Nat) (h : i < ms.length) (rows : Rows) (k : D → Rows → Prop), kIdx .ref (i : Int) rows k dms = k (.cptr ms[i]) rows) (hml : ms.length ≤ 9223372036854775807) (hms : ∀ d ∈ ms, ∃ b : List (BitVec 8), IsBs d b ∧ b.length ≤ 9223372036854775807) {K : D → Rows → Prop}
  (hk : ∀ rs r L S ml, Lay7 t seed rows.length rs r L S ml → ml.length = min ms.length 2 → KeptL rows rs → K (.tup [.ptr SSig L.r [0], .raw (it (pT (layO t).toNat : Int)), .raw (it ((2 ^ wT (layO t).toNat : Nat) : Int))]) rs) :
  afun C 3 r_law07_lay a_law07_lay [.raw (u8 t), .agg (.ar 32 L8) (bs seed), dms] rows K := by
 refine afun_mk rfl ?_
 unfold a_law07_lay r_law07_lay
 have e2 : (t % 3#8 = 0#8 ∧ layO t = 3#32) ∨ (t % 3#8 = 1#8 ∧ layO t = 3#32) ∨ (t % 3#8 = 2#8 ∧ layO t = 2#32) := by
  unfold layO
  have : t.toNat % 3 = 0 ∨ t.toNat % 3 = 1 ∨ t.toNat % 3 = 2 := by omega
  rcases this with e | e | e
  ·exact .inl ⟨BitVec.eq_of_toNat_eq (by rw [BitVec.toNat_umod]; exact e), if_neg (by omega)⟩
  ·exact .inr (.inl ⟨BitVec.eq_of_toNat_eq (by rw [BitVec.toNat_umod]; exact e), if_neg (by omega)⟩)
  ·exact .inr (.inr ⟨BitVec.eq_of_toNat_eq (by rw [BitVec.toNat_umod]; exact e), if_pos e⟩)
 have key := fun (R : Rows) (K' : D → Rows → Prop) => newL_run CT H.nC (rows := R) (K := K') (t := 3758096385#32) (o := layO t) (id := id8) (seed := seed) (by decide) (by decide) (layO_ok t) rfl hsd
 have hl7 := fun {rs L n} => @lay7_new rs t seed L n
 have hw8 : wT (layO t).toNat ≤ 8 := by rcases layO_c t with h | h <;> rw [h] <;> decide
 have hsh := shl_it 1 (wT (layO t).toNat) (by decide) (by omega)
 rw [Nat.one_mul, show ((1 : Nat) : Int) = 1 from rfl] at hsh
 have mid : ∀ (o : BitVec 32), layO t = o → o = layO t := fun o h => h.symm
 simp only [z32_eq]
 rcases e2 with ⟨b1, b2⟩ | ⟨b1, b2⟩ | ⟨b1, b2⟩
 all_goals
  have b2' := b2.symm
  simp only [↓amD, amU, simprocAttr, zipEnv, amR, b1, H.n0, H.n1, id8_eq, b2', hsl]
  refine key _ _ ?_
  intro R1 L1 hS1 hK1 c0 c1 c2 c3 hd1
  have hKr := (KeptL.app rows _).trans hK1
  have hnew := hl7 hS1 hsd hd1 (Nat.le_trans (by rw [List.length_append]; omega) c0) (Nat.le_trans (by rw [List.length_append]; omega) c1) (Nat.le_trans (by rw [List.length_append]; omega) c2) (Nat.le_trans (by rw [List.length_append]; omega) c3) (n := rows.length)
  clear hS1 hK1 c0 c1 c2 c3 hd1 key
  simp only [↓amD, amU, simprocAttr, zipEnv, amR, hsl]
  refine kLoop_up ms.length (fun i env rs => has env [(31, .raw (it (i : Int))), (30, .raw (it (ms.length : Int))), (29, dms), (10, .ptr SSig L1.r [0]), (9, .raw (u32 (layO t)))] ∧ KeptL rows rs ∧ ∃ L S ml, Lay7 t seed rows.length rs L1.r L S ml ∧ ml.length = min i 2) ?_ ?_ ⟨?_, hKr, L1, _, [], hnew, by simp⟩
  ·rintro i hi env rs ⟨hh, hK, L, S, ml, hY, hl⟩ R hR
   simp only [has] at hh
   have f0 : ((i : Int) < (ms.length : Int)) = True := eq_true (by omega)
   have b0 : ∀ n : Nat, ((0 : Int) ≤ (n : Int)) = True := fun n => eq_true (by omega)
   have f1 := wz_succ i (by omega)
   have gm := hix i hi
   obtain ⟨m, hm, hmlen⟩ := hms _ (List.getElem_mem hi)
   generalize ms[i] = dm at *
   have hf := isBs_fits hm
   by_cases c : i < 2
   ·have c' : ((i : Int) < 2) = True := eq_true (by omega)
    have kc := fun rows k => kCut rows k dm m 40 hm hmlen (by rw [List.length_take]; omega)
    have hml40 : (m.take (40 : Int).toNat).length ≤ 40 := by rw [List.length_take]; exact Nat.min_le_left _ _
    generalize m.take (40 : Int).toNat = m4 at kc hml40
    have hmi : ml.length = i := by omega
    have hnx : S.nx = BitVec.ofNat 32 ml.length := hY.ps.nx
    have hnx2 : S.nx.toNat < lvN (S.v L) := by rw [hY.ps.lv, hnx, BitVec.toNat_ofNat]; omega
    have hsr := fun R' d K' hS' hm' => sign_run CS H.sC (rows := R') (L := L) (s := S) (d := d) (c := z32.set 0 (BitVec.ofInt 8 (i : Int))) (m := m4) (K := K') hS' hY.ps.w.ok hY.ps.okO rfl hm' (by omega) hnx2 (by rw [hY.la]; omega)
    rw [hY.r] at hsr
    simp only [↓amD, amU, simprocAttr, zipEnv, amR, hh, f0, b0, gm, hf, c', bs_set, H.cut, kc, H.s0, H.s1]
    refine hsr _ _ _ (hY.sgn.push _) (.inr ⟨_, _, rfl, by rw [lv_app0]; rfl⟩) ?_
    intro R2 dl r2 hS2 _ _ hF2 hdl hln
    have hps := PS.next (R := rs) hY.ps hY.la (by omega) (c := z32.set 0 (BitVec.ofInt 8 (i : Int))) rfl (m := m4) (by omega) hS2
    simp only [↓amD, amU, simprocAttr, zipEnv, amR, hh, f1]
    refine hR _ _ ⟨by simp only [has, ↓amD, amU, simprocAttr, zipEnv, hh], fun q row hq => ?_, L.next dl, S.next (z32.set 0 (BitVec.ofInt 8 (i : Int))) m4, _, ⟨hS2, hps, ?_, hY.sd, hY.o, hY.id, hY.r, hY.b0, hY.b1, hY.b2, hY.b3, fun q ex k h => ?_⟩, ?_⟩
    ·have hqr := live_lt hq
     have u0 := hY.b0
     have u1 := hY.b1
     have u2 := hY.b2
     have u3 := hY.b3
     refine hF2 q row (live_push (hK q row hq)) ⟨by omega, by omega, by omega, by omega, fun ex n h => ?_⟩
     have := hY.b4 q ex n h
     omega
    ·show S.last ++ [_] = _
     rw [hY.la]
    ·have := hdl q ex k h
     have := hK
     have hrl : rows.length ≤ rs.length := by
      have := live_lt hY.sgn.a
      have := hY.b0
      omega
     rw [List.length_append] at *
     omega
    ·rw [List.length_append, hmi]
     simp
     omega
   ·have c' : ((i : Int) < 2) = False := eq_false (by omega)
    simp only [↓amD, amU, simprocAttr, zipEnv, amR, hh, f0, f1, b0, gm, hf, c']
    exact hR _ _ ⟨by simp only [has, ↓amD, amU, simprocAttr, zipEnv, hh], hK, L, S, ml, hY, by omega⟩
  ·rintro env rs ⟨hh, hK, L, S, ml, hY, hl⟩ R
   simp only [has] at hh
   have f0 : ((ms.length : Int) < (ms.length : Int)) = False := eq_false (by omega)
   have kT := fun rows k => kTable rows k (layO t)
   have := hk rs _ L S ml hY hl hK
   rw [hY.r] at this
   simp only [↓amD, amU, simprocAttr, zipEnv, amR, hh, f0, H.tab, kT, hsh]
   exact this
  ·simp only [has, ↓amD, amU, simprocAttr, zipEnv]
end Job
end Go.Am
