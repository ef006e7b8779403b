/- the law of one master -/
import Derived.Test.YtpjdbpiojncleaaBus1
import Derived.KernelRfl
namespace Go.Am
attribute [local congr] bnd_congr kCond_congr kGd_congr kPick_congr kCall_congr kIdx_congr kSlice_congr kLoop_congr cond_congr' aBin_congr aBounds_congr aApp_congr aCopy_congr kFn_congr
namespace Job
open F
set_option linter.unusedVariables false
set_option linter.unusedSimpArgs false
set_option maxRecDepth 10000
theorem kNew (rows : Rows) (k : D → Rows → Prop) : kCall fNew rows k [] = k (busD newS) rows := by
  refine (kCall_val rfl (r := (busD newS, [])) rfl).trans ?_
  simp [busD_sh, shiftRows]
theorem kTick (rows : Rows) (k : D → Rows → Prop) (b : Bus) (h : b.ok = true) : kCall fTick rows k [busD b] = k (.tup [busD (tickS b).1, .raw (it (tickS b).2)]) rows := by
  refine (kCall_val (by simp only [hasRefL, busD_nr, Bool.or_false]) (fn1_eq (rdOf_eq busD_inj b) h)).trans ?_
  simp [busD_sh, shiftRows, shift, shiftL]
theorem kDrop (rows : Rows) (k : D → Rows → Prop) (b : Bus) (m : Int) (h : b.ok = true) : kCall fDrop rows k [busD b, .raw (it m)] = k (busD (dropS b m)) rows := by
  refine (kCall_val (by simp only [hasRefL, hasRef, busD_nr, Bool.or_false]) (fn2_eq (rdOf_eq busD_inj b) (rdI_eq m) h)).trans ?_
  simp [busD_sh, shiftRows]
theorem kAsk (rows : Rows) (k : D → Rows → Prop) (b : Bus) (m w : Int) (h : b.ok = true) : kCall fAsk rows k [busD b, .raw (it m), .raw (it w)] = k (.tup [busD (askS b m w).1, .raw (it (askS b m w).2)]) rows := by
  refine (kCall_val (r := (.tup [busD (askS b m w).1, .raw (it (askS b m w).2)], [])) (by simp only [hasRefL, hasRef, busD_nr, Bool.or_false]) ?_).trans ?_
  · simp only [fAsk, fn3_ev, rdOf_eq busD_inj b, rdI_eq, Option.bind_some, h, cond_true]
  · simp [busD_sh, shiftRows, shift, shiftL]
theorem kAsked (rows : Rows) (k : D → Rows → Prop) (b : Bus) (h : b.ok = true) : kCall fAsked rows k [busD b] = k (.agg (.ar 4 LB) (b.ws.map fun w => .raw (.bool w.1))) rows := by
  refine (kCall_val (by simp only [hasRefL, busD_nr, Bool.or_false]) (fn1_eq (rdOf_eq busD_inj b) h)).trans ?_
  obtain ⟨a0, n0, a1, n1, a2, n2, a3, n3, n, f, q, rfl, -⟩ := ok_split h
  simp [shiftRows, shift, shiftL]
def fAwake : Fn
  | [], [] => some (.raw (.bool true), [])
  | _, _ => none
def b0 : Bus := (askS newS 0 2).1
def b1 : Bus := (askS b0 1 0).1
def b2 : Bus := (tickS b1).1
def b3 : Bus := (tickS b2).1
def b4 : Bus := (tickS b3).1
theorem awake_ok (C : Ctx) (hC : CtxOK C P) (h5 : C.fn 5 = some fNew) (h6 : C.fn 6 = some fAsk) (h10 : C.fn 10 = some fTick) : Meets C.glob P 4 (Fn.run fAwake) := by
  refine fn_meets (m_law13_awake C hC) fun ds rows r h => ?_
  unfold fAwake at h
  split at h
  · cases h
    refine ⟨rfl, afun_mk rfl ?_⟩
    unfold a_law13_awake r_law13_awake
    have f0 : newS.ok = true := rfl
    have f1 : b0.ok = true := by kernel_rfl
    have f2 : b1.ok = true := by kernel_rfl
    have f3 : b2.ok = true := by kernel_rfl
    have f4 : b3.ok = true := by kernel_rfl
    have f5 : b4.ok = true := by kernel_rfl
    have f6 : (tickS b4).1.ok = true := by kernel_rfl
    have e0 : (askS newS 0 2).1 = b0 := rfl
    have e1 : (askS b0 1 0).1 = b1 := rfl
    have e2 : (tickS b1).1 = b2 := rfl
    have e3 : (tickS b2).1 = b3 := rfl
    have e4 : (tickS b3).1 = b4 := rfl
    have r0 : (askS newS 0 2).2 = 0 := by kernel_rfl
    have r1 : (askS b0 1 0).2 = 0 := by kernel_rfl
    have r2 : (tickS b1).2 = -1 := by kernel_rfl
    have r3 : (tickS b2).2 = -1 := by kernel_rfl
    have r4 : (tickS b3).2 = 0 := by kernel_rfl
    have r5 : (tickS b4).2 = 1 := by kernel_rfl
    have k0 := fun rows k => kAsk rows k newS 0 2 f0
    have k1 := fun rows k => kAsk rows k b0 1 0 f1
    have k2 := fun rows k => kTick rows k b1 f2
    have k3 := fun rows k => kTick rows k b2 f3
    have k4 := fun rows k => kTick rows k b3 f4
    have k5 := fun rows k => kTick rows k b4 f5
    simp only [e0, r0] at k0
    simp only [e1, r1] at k1
    simp only [e2, r2] at k2
    simp only [e3, r3] at k3
    simp only [e4, r4] at k4
    simp only [r5] at k5
    have g1 := busD_fits _ f1
    have g2 := busD_fits _ f2
    have g3 := busD_fits _ f3
    have g4 := busD_fits _ f4
    have g5 := busD_fits _ f5
    have g6 := busD_fits _ f6
    simp only [↓q_skip, ↓q_region, ↓q_regiond, ↓q_draw, ↓q_stab, q_st0, q_st1, ↓q_st2, ↓q_ta0, ↓q_ta1, q_qfn, q_qgl, ↓q_seq, ↓q_cond, ↓q_block, ↓q_loop, ↓q_exit, ↓q_ret, ↓q_fr, ↓q_fn, q_a0, q_a1, q_at, q_ac, n_raw, n_ptr, n_sl, n_lst, n_cptr, n_agg, q_r1, q_r0, q_r2, sl_sl, sl_lst, sl_nil, so_str, so_sl, so_lst, so_nil, el_sl, el_lst, el_nil, lv_0, lv_s, lv_new, g_row, g_nil, g_agg, s_row, s_nil, s_agg, sub_0, sub_s, sub_ar, a_nil, a_sl, most_eq, wz_id, q_bd, q_skl, q_sks, ↓q_sn, ↓q_sr, ↓q_se, ↓q_bn, ↓q_br, ↓q_be, q_ct, q_cf, ↓q_on, ↓q_oc, ↓q_og, q_gtt, q_gtf, q_gft, q_gff, q_gz, ↓q_ko, q_bs, q_et, q_ec, ↓q_lk, q_ps, q_pn, q_es0, q_es1, q_eo0, q_eo1, ↓o_mv, ↓o_pick, ↓o_bin, ↓o_eqa, ea_agg, eL_n, eL_c, eD_agg, eD_u8, eD_u32, eD_u64, eD_it, eD_b, ↓o_beq, ↓o_un, ↓o_conv, ↓o_convs, ↓o_alloc, ↓o_box, ↓o_build, ↓o_bslice, ↓o_load, ↓o_store, ↓o_nilc, ↓o_faddr, ↓o_field, ↓o_iaddra, ↓o_iaddrs, q_ixl, q_ixs, ↓o_index, ↓o_sindex, ↓o_slicea, ↓o_slice, ↓o_sslice, ↓o_mks, ↓o_ext, ↓o_len, ↓o_strlen, ↓o_append, ↓o_appendz, ↓o_copy, ↓o_minmax, mm_c, mf_n, mf_c, fold_it, ↓o_b2s, ↓o_s2b, ↓o_call, ↓q_fns, ↓q_fnn, ↓o_fail, ↓o_eqnil, nb_nn, nb_pn, nb_cn, ↓o_eqsn, ↓o_s2a, ↓o_frzb, q_pk, q_pkt, q_pkf, gD_t, gD_f, pk_or, pk_and, q_f0, q_f1, ↓lp_s, ↓lp_n, ↓lp_r, ↓lp_e, asI_it, asI_u8, isSc_u8, one_u8, asI_u16, isSc_u16, one_u16, asI_u32, isSc_u32, one_u32, asI_u64, isSc_u64, one_u64, isSc_it, one_it, isSc_b, isSc_s, fits_raw, fits_agg, sh_beq, fits_lst, fits_sl, fits_ptr, fits_cptr, fits_nils, cv_8_8, cv_8_16, cv_8_32, cv_8_64, cv_8_it, cv_it_8, cv_16_8, cv_16_16, cv_16_32, cv_16_64, cv_16_it, cv_it_16, cv_32_8, cv_32_16, cv_32_32, cv_32_64, cv_32_it, cv_it_32, cv_64_8, cv_64_16, cv_64_32, cv_64_64, cv_64_it, cv_it_64, cv_it_it, b_add8, b_sub8, b_mul8, b_and8, b_or8, b_xor8, b_andNot8, b_quo8, b_rem8, b_eql8, b_neq8, b_lss8, b_leq8, b_gtr8, b_geq8, b_shl8_it, b_shr8_it, b_shl8_8, b_shr8_8, b_shl8_16, b_shr8_16, b_shl8_32, b_shr8_32, b_shl8_64, b_shr8_64, u_not8, b_add16, b_sub16, b_mul16, b_and16, b_or16, b_xor16, b_andNot16, b_quo16, b_rem16, b_eql16, b_neq16, b_lss16, b_leq16, b_gtr16, b_geq16, b_shl16_it, b_shr16_it, b_shl16_8, b_shr16_8, b_shl16_16, b_shr16_16, b_shl16_32, b_shr16_32, b_shl16_64, b_shr16_64, u_not16, b_add32, b_sub32, b_mul32, b_and32, b_or32, b_xor32, b_andNot32, b_quo32, b_rem32, b_eql32, b_neq32, b_lss32, b_leq32, b_gtr32, b_geq32, b_shl32_it, b_shr32_it, b_shl32_8, b_shr32_8, b_shl32_16, b_shr32_16, b_shl32_32, b_shr32_32, b_shl32_64, b_shr32_64, u_not32, b_add64, b_sub64, b_mul64, b_and64, b_or64, b_xor64, b_andNot64, b_quo64, b_rem64, b_eql64, b_neq64, b_lss64, b_leq64, b_gtr64, b_geq64, b_shl64_it, b_shr64_it, b_shl64_8, b_shr64_8, b_shl64_16, b_shr64_16, b_shl64_32, b_shr64_32, b_shl64_64, b_shr64_64, u_not64, b_addi, b_subi, b_muli, b_quoi, b_remi, b_eqli, b_lssi, b_leqi, b_gtri, b_geqi, b_neqi, b_adds, b_eqls, b_neqs, u_notb, u_negi, Nat.reduceBEq, Nat.reduceAdd, Nat.reduceSub, Nat.reduceMul, Nat.reduceMod, Nat.reducePow, Nat.reduceLT, Nat.reduceDiv, Int.reduceToNat, Int.toNat_natCast, BitVec.reduceToNat, cond_true, cond_false, Option.bind_some, Option.map_some, Option.getD_some, Option.getD_none, true_and, and_true, eq_self, List.length_nil, List.length_cons, List.length_append, List.length_set, List.length_map, List.set_cons_zero, List.set_cons_succ, List.replicate_succ, List.replicate_zero, List.getElem?_cons_zero, List.getElem?_cons_succ, List.nil_append, List.cons_append, zipEnv, q_rn, q_rr, q_re, List.map_cons, List.map_nil, Int.reduceLE, Int.reduceLT, Int.reduceNeg, Int.ofNat_zero, Bool.not_true, Bool.not_false, if_true, Option.some.injEq, forall_eq', List.drop_zero, List.take_succ_cons, List.take_zero, List.drop_succ_cons, List.take_nil, List.drop_nil, ne_eq, BitVec.reduceEq, not_false_eq_true, BitVec.ofNat_eq_ofNat, Nat.zero_add, Bool.and_true, Bool.and_false, Bool.true_and, Bool.false_and, Bool.or_true, Bool.or_false, Bool.true_or, Bool.false_or, Bool.not_eq_true, Bool.not_eq_false, decide_true, decide_false, Int.reduceAdd, Int.reduceSub, Int.reduceMul, Nat.reduceLeDiff, Nat.zero_le, and_self, Int.reduceEq, Int.cast_ofNat_Int, Int.natCast_zero, Int.natCast_one, Int.le_refl, Nat.le_refl, h5, h6, h10, kNew, k0, k1, k2, k3, k4, k5, g1, g2, g3, g4, g5, g6]
    exact .val _ rfl
  · cases h
def stS (k w : Nat) (drop : Bool) : Nat → Bus
  | 0 => if drop then dropS (askS newS k w).1 k else (askS newS k w).1
  | i + 1 => (tickS (stS k w drop i)).1
def tOK (k w : Nat) (drop : Bool) (i : Nat) (b : Bus) : Bool :=
  b.ok && (decide ((tickS b).2 = k) == (!drop && decide (i = w))) && !(decide (0 ≤ (tickS b).2) && decide ((tickS b).2 ≠ k)) && (tickS b).1.ok
def runOK (k w : Nat) (drop : Bool) : Nat → Nat → Bus → Bool
  | 0, _, b => b.ok && decide (b.now = -1)
  | n + 1, i, b => tOK k w drop i b && runOK k w drop n (i + 1) (tickS b).1
def chk (k w : Nat) (drop : Bool) : Bool :=
  let r := askS newS k w
  decide (r.2 = 0) && decide (r.1.now = -1) && (r.1.ws.getD k (false, 0)).1 && r.1.ok && runOK k w drop (w + 3) 0 (stS k w drop 0)
theorem chk_all : ((List.range 4).all fun k => (List.range 16).all fun w => chk k w true && chk k w false) = true := by kernel_rfl
theorem chk_ok (k w : Nat) (drop : Bool) (hk : k < 4) (hw : w < 16) : chk k w drop = true := by
  have h := chk_all
  rw [List.all_eq_true] at h
  have h := h k (List.mem_range.2 hk)
  rw [List.all_eq_true] at h
  have h := h w (List.mem_range.2 hw)
  simp only [Bool.and_eq_true] at h
  cases drop
  · exact h.2
  · exact h.1
theorem runOK_all (k w : Nat) (drop : Bool) : ∀ n i b, runOK k w drop n i b = true → b = stS k w drop i → (∀ j, i ≤ j → j < i + n → tOK k w drop j (stS k w drop j) = true) ∧ (stS k w drop (i + n)).ok = true ∧ (stS k w drop (i + n)).now = -1
  | 0, i, b, h, e => by
    subst e
    simp only [runOK, Bool.and_eq_true, decide_eq_true_eq] at h
    exact ⟨fun j h1 h2 => absurd h2 (by omega), h.1, h.2⟩
  | n + 1, i, b, h, e => by
    subst e
    simp only [runOK, Bool.and_eq_true] at h
    obtain ⟨h1, h2⟩ := h
    have ih := runOK_all k w drop n (i + 1) _ h2 rfl
    refine ⟨fun j hj hj2 => ?_, ?_⟩
    · rcases Nat.eq_or_lt_of_le hj with rfl | h
      · exact h1
      · exact ih.1 j h (by omega)
    · have := ih.2
      rwa [show i + 1 + n = i + (n + 1) by omega] at this
end Job
end Go.Am
