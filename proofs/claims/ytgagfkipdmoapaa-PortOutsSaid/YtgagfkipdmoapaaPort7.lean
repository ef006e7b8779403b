/- the port: of all that is written just what the core wrote goes out (under way) -/
import Derived.Test.YtgagfkipdmoapaaPort6
namespace Go.Am
set_option linter.unusedSimpArgs false
set_option linter.unusedVariables false
attribute [local congr] bnd_congr kCond_congr kGd_congr kPick_congr kCall_congr kIdx_congr kSlice_congr kLoop_congr cond_congr' aBin_congr aBounds_congr aApp_congr aCopy_congr kFn_congr
namespace Job
open Go.Am.F
set_option maxRecDepth 10000
theorem wrote_no {rows : Rows} {r : Nat} {who off : Int} {d : D} {k : D → Rows → Prop} (hw : ¬ who = 1) (hk : k (.tup []) rows) :
    afun C0 4 r_port_Port_Wrote a_port_Port_Wrote [.ptr S2 r [0], .raw (it who), .raw (it off), d] rows k := by
  unfold a_port_Port_Wrote r_port_Port_Wrote
  simp only [↓q_skip, ↓q_region, ↓q_regiond, ↓q_draw, ↓q_stab, q_st0, q_st1, ↓q_st2, ↓q_ta0, ↓q_ta1, q_qfn, q_qgl, ↓q_seq, ↓q_cond, ↓q_block, ↓q_loop, ↓q_exit, ↓q_ret, ↓q_fr, ↓q_fn, q_a0, q_a1, q_at, q_ac, n_raw, n_ptr, n_sl, n_lst, n_cptr, n_agg, q_r1, q_r0, q_r2, sl_sl, sl_lst, sl_nil, so_str, so_sl, so_lst, so_nil, el_sl, el_lst, el_nil, lv_0, lv_s, lv_new, g_row, g_nil, g_agg, s_row, s_nil, s_agg, sub_0, sub_s, sub_ar, a_nil, a_sl, most_eq, wz_id, q_bd, q_skl, q_sks, ↓q_sn, ↓q_sr, ↓q_se, ↓q_bn, ↓q_br, ↓q_be, q_ct, q_cf, ↓q_on, ↓q_oc, ↓q_og, q_gtt, q_gtf, q_gft, q_gff, q_gz, ↓q_ko, q_bs, q_et, q_ec, ↓q_lk, q_ps, q_pn, q_es0, q_es1, q_eo0, q_eo1, ↓o_mv, ↓o_pick, ↓o_bin, ↓o_eqa, ea_agg, eL_n, eL_c, eD_agg, eD_u8, eD_u32, eD_u64, eD_it, eD_b, ↓o_beq, ↓o_un, ↓o_conv, ↓o_convs, ↓o_alloc, ↓o_box, ↓o_build, ↓o_bslice, ↓o_load, ↓o_store, ↓o_nilc, ↓o_faddr, ↓o_field, ↓o_iaddra, ↓o_iaddrs, q_ixl, q_ixs, ↓o_index, ↓o_sindex, ↓o_slicea, ↓o_slice, ↓o_sslice, ↓o_mks, ↓o_ext, ↓o_len, ↓o_strlen, ↓o_append, ↓o_appendz, ↓o_copy, ↓o_minmax, mm_c, mf_n, mf_c, fold_it, ↓o_b2s, ↓o_s2b, ↓o_call, ↓q_fns, ↓q_fnn, ↓o_fail, ↓o_eqnil, nb_nn, nb_pn, nb_cn, ↓o_eqsn, ↓o_s2a, ↓o_frzb, q_pk, q_pkt, q_pkf, gD_t, gD_f, pk_or, pk_and, q_f0, q_f1, ↓lp_s, ↓lp_n, ↓lp_r, ↓lp_e, asI_it, asI_u8, isSc_u8, one_u8, asI_u16, isSc_u16, one_u16, asI_u32, isSc_u32, one_u32, asI_u64, isSc_u64, one_u64, isSc_it, one_it, isSc_b, isSc_s, fits_raw, fits_agg, sh_beq, fits_lst, fits_sl, fits_ptr, fits_cptr, fits_nils, cv_8_8, cv_8_16, cv_8_32, cv_8_64, cv_8_it, cv_it_8, cv_16_8, cv_16_16, cv_16_32, cv_16_64, cv_16_it, cv_it_16, cv_32_8, cv_32_16, cv_32_32, cv_32_64, cv_32_it, cv_it_32, cv_64_8, cv_64_16, cv_64_32, cv_64_64, cv_64_it, cv_it_64, cv_it_it, b_add8, b_sub8, b_mul8, b_and8, b_or8, b_xor8, b_andNot8, b_quo8, b_rem8, b_eql8, b_neq8, b_lss8, b_leq8, b_gtr8, b_geq8, b_shl8_it, b_shr8_it, b_shl8_8, b_shr8_8, b_shl8_16, b_shr8_16, b_shl8_32, b_shr8_32, b_shl8_64, b_shr8_64, u_not8, b_add16, b_sub16, b_mul16, b_and16, b_or16, b_xor16, b_andNot16, b_quo16, b_rem16, b_eql16, b_neq16, b_lss16, b_leq16, b_gtr16, b_geq16, b_shl16_it, b_shr16_it, b_shl16_8, b_shr16_8, b_shl16_16, b_shr16_16, b_shl16_32, b_shr16_32, b_shl16_64, b_shr16_64, u_not16, b_add32, b_sub32, b_mul32, b_and32, b_or32, b_xor32, b_andNot32, b_quo32, b_rem32, b_eql32, b_neq32, b_lss32, b_leq32, b_gtr32, b_geq32, b_shl32_it, b_shr32_it, b_shl32_8, b_shr32_8, b_shl32_16, b_shr32_16, b_shl32_32, b_shr32_32, b_shl32_64, b_shr32_64, u_not32, b_add64, b_sub64, b_mul64, b_and64, b_or64, b_xor64, b_andNot64, b_quo64, b_rem64, b_eql64, b_neq64, b_lss64, b_leq64, b_gtr64, b_geq64, b_shl64_it, b_shr64_it, b_shl64_8, b_shr64_8, b_shl64_16, b_shr64_16, b_shl64_32, b_shr64_32, b_shl64_64, b_shr64_64, u_not64, b_addi, b_subi, b_muli, b_quoi, b_remi, b_eqli, b_lssi, b_leqi, b_gtri, b_geqi, b_neqi, b_adds, b_eqls, b_neqs, u_notb, u_negi, Nat.reduceBEq, Nat.reduceAdd, Nat.reduceSub, Nat.reduceMul, Nat.reduceMod, Nat.reducePow, Nat.reduceLT, Nat.reduceDiv, Int.reduceToNat, Int.toNat_natCast, BitVec.reduceToNat, cond_true, cond_false, Option.bind_some, Option.map_some, Option.getD_some, Option.getD_none, true_and, and_true, eq_self, List.length_nil, List.length_cons, List.length_append, List.length_set, List.length_map, List.set_cons_zero, List.set_cons_succ, List.replicate_succ, List.replicate_zero, List.getElem?_cons_zero, List.getElem?_cons_succ, List.nil_append, List.cons_append, zipEnv, q_rn, q_rr, q_re, List.map_cons, List.map_nil, Int.reduceLE, Int.reduceLT, Int.reduceNeg, Int.ofNat_zero, Bool.not_true, Bool.not_false, if_true, Option.some.injEq, forall_eq', List.drop_zero, List.take_succ_cons, List.take_zero, List.drop_succ_cons, List.take_nil, List.drop_nil, ne_eq, BitVec.reduceEq, not_false_eq_true, BitVec.ofNat_eq_ofNat, Nat.zero_add, Bool.and_true, Bool.and_false, Bool.true_and, Bool.false_and, Bool.or_true, Bool.or_false, Bool.true_or, Bool.false_or, Bool.not_eq_true, Bool.not_eq_false, decide_true, decide_false, Int.reduceAdd, Int.reduceSub, Int.reduceMul, Nat.reduceLeDiff, Nat.zero_le, and_self, Int.reduceEq, Int.cast_ofNat_Int, Int.natCast_zero, Int.natCast_one, Int.le_refl, Nat.le_refl, q_afun, hw, decide_false, decide_true]
  exact hk
/-- two own slices that lie apart -/
def Apart (s : Sh) (x y : D) : Prop := ∀ m e n e' n', x = .sl s m [] 0 n e → y ≠ .sl s m [] 0 n' e'
theorem Apart.symm {s : Sh} {x y : D} (h : Apart s x y) : Apart s y x := fun m e n e' n' hx hy => h m e' n' e n hy hx
theorem apart_nil {s : Sh} {x : D} : Apart s x (.raw (.slice none 0 0)) := fun m e n e' n' _ h => by cases h
/-- what is new lies apart from what was there -/
theorem Fresh.apart {s : Sh} {x x' y : D} {rows : Rows} {els : List D} (h : Fresh s x x' rows.length) (ha : Apart s x y) (hy : Own s y rows els) : Apart s x' y := by
  rcases h with rfl | ⟨m, len, hm, rfl⟩
  · exact ha
  · intro m' e n e' n' h1 h2
    injection h1 with _ h1
    subst h1
    rcases hy with ⟨-, hy⟩ | ⟨q, ex, hy, hl⟩
    · rw [h2] at hy; cases hy
    · rw [h2] at hy
      injection hy with _ hy
      subst hy
      exact absurd (live_lt hl) (by omega)
/-- what lies apart from the port's slices stays -/
theorem WroteTo.keep8 {rows rows' : Rows} {r : Nat} {x y x' y' : D} {out msgs t} {o : D} {l : List (BitVec 8)} {old : List D} (h : WroteTo rows rows' r x y x' y' out msgs t) (hr : live rows r = some ⟨S2, old⟩) (ho : Own L8 o rows (bs l)) (ha : Apart L8 x o) (hy : ∃ els, Own L32 y rows els) : Own L8 o rows' (bs l) := by
  rcases ho with ho | ⟨m, ex, rfl, hm⟩
  · exact .inl ho
  · refine .inr ⟨m, ex, rfl, h.frame m _ hm ?_ (fun e n hx => ha m e n ex _ hx rfl) ?_⟩
    · rintro rfl
      rw [hr] at hm
      injection hm with hm
      injection hm with h1 _
      exact absurd h1 (by decide)
    · obtain ⟨els, hy⟩ := hy
      exact own_ne hy hm (by decide)
theorem WroteTo.keep32 {rows rows' : Rows} {r : Nat} {x y x' y' : D} {out msgs t} {o : D} {l : List (BitVec 32)} {old : List D} (h : WroteTo rows rows' r x y x' y' out msgs t) (hr : live rows r = some ⟨S2, old⟩) (ho : Own L32 o rows (ws l)) (ha : Apart L32 y o) (hx : ∃ els, Own L8 x rows els) : Own L32 o rows' (ws l) := by
  rcases ho with ho | ⟨m, ex, rfl, hm⟩
  · exact .inl ho
  · refine .inr ⟨m, ex, rfl, h.frame m _ hm ?_ ?_ (fun e n hx => ha m e n ex _ hx rfl)⟩
    · rintro rfl
      rw [hr] at hm
      injection hm with hm
      injection hm with h1 _
      exact absurd h1 (by decide)
    · obtain ⟨els, hx⟩ := hx
      exact own_ne hx hm (by decide)
structure Wr where
  who : Int
  off : Int
  b : List (BitVec 8)
def WrIs (d : D) (w : Wr) : Prop := ∃ e, d = .agg S1 [.raw (it w.who), .raw (it w.off), e] ∧ IsBs e w.b
/-- what goes out and what is told, of writes -/
def stepO (o : List (BitVec 8)) (w : Wr) : List (BitVec 8) := if w.who = 1 then outS o w.off (w.b.take 20) else o
def stepM (m : List (BitVec 32)) (w : Wr) : List (BitVec 32) := if w.who = 1 then msgS m w.off (w.b.take 20) else m
def outF (l : List Wr) (i : Nat) : List (BitVec 8) := (l.take i).foldl stepO []
def msgF (l : List Wr) (i : Nat) : List (BitVec 32) := (l.take i).foldl stepM []
theorem outF_next (l : List Wr) (i : Nat) (h : i < l.length) : outF l (i + 1) = stepO (outF l i) l[i] := by
  simp only [outF, List.take_succ_eq_append_getElem h, List.foldl_append, List.foldl_cons, List.foldl_nil]
theorem msgF_next (l : List Wr) (i : Nat) (h : i < l.length) : msgF l (i + 1) = stepM (msgF l i) l[i] := by
  simp only [msgF, List.take_succ_eq_append_getElem h, List.foldl_append, List.foldl_cons, List.foldl_nil]
theorem stepO_len (o : List (BitVec 8)) (w : Wr) : (stepO o w).length ≤ o.length + 1 := by
  unfold stepO outS
  split
  · split
    · simp
    · omega
  · omega
theorem stepM_len (m : List (BitVec 32)) (w : Wr) : (stepM m w).length ≤ m.length + 1 := by
  unfold stepM msgS
  split
  · split
    · simp
    · omega
  · omega
theorem outF_len (l : List Wr) : ∀ i, i ≤ l.length → (outF l i).length ≤ i
  | 0, _ => Nat.le_refl _
  | i + 1, h => by
    rw [outF_next l i (by omega)]
    have := stepO_len (outF l i) l[i]
    have := outF_len l i (by omega)
    omega
theorem msgF_len (l : List Wr) : ∀ i, i ≤ l.length → (msgF l i).length ≤ i
  | 0, _ => Nat.le_refl _
  | i + 1, h => by
    rw [msgF_next l i (by omega)]
    have := stepM_len (msgF l i) l[i]
    have := msgF_len l i (by omega)
    omega
end Job
end Go.Am
