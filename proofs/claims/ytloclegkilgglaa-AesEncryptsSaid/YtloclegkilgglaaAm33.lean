/- The equations in bundles: conjunctions. -/
import Derived.Test.YtloclegkilgglaaAm30
namespace Go.Am
set_option linter.unusedVariables false
set_option linter.defProp false
set_option maxRecDepth 10000
def amD := (And.intro (And.intro (And.intro (And.intro (And.intro (And.intro @q_skip @q_region) (And.intro @q_regiond @q_draw1)) (And.intro (And.intro @q_draw @q_tail) (And.intro @q_stab (And.intro
  @q_st2 @q_ta0)))) (And.intro (And.intro (And.intro @q_ta1 @q_seq) (And.intro @q_cond (And.intro @q_block @q_loop))) (And.intro (And.intro @q_exit @q_ret) (And.intro @q_fr (And.intro @q_fn @q_sn)))))
  (And.intro (And.intro (And.intro (And.intro @q_sr @q_se) (And.intro @q_bn @q_br)) (And.intro (And.intro @q_be @q_on) (And.intro @q_oc (And.intro @q_og @q_ko)))) (And.intro (And.intro (And.intro
  @q_lk @o_mv) (And.intro @o_pick (And.intro @o_bin @o_eqa))) (And.intro (And.intro @o_beq @o_un) (And.intro @o_conv (And.intro @o_convs @o_alloc)))))) (And.intro (And.intro (And.intro (And.intro
  (And.intro @o_box @o_build) (And.intro @o_bslice @o_load)) (And.intro (And.intro @o_store @o_nilc) (And.intro @o_faddr (And.intro @o_field @o_iaddra)))) (And.intro (And.intro (And.intro @o_iaddrs
  @o_index) (And.intro @o_sindex (And.intro @o_slicea @o_slice))) (And.intro (And.intro @o_sslice @o_mks) (And.intro @o_ext (And.intro @o_len @o_strlen))))) (And.intro (And.intro (And.intro (And.intro
  @o_append @o_appendz) (And.intro @o_copy (And.intro @o_minmax @o_b2s))) (And.intro (And.intro @o_s2b @o_call) (And.intro @q_fns (And.intro @q_fnn @o_callv)))) (And.intro (And.intro (And.intro
  @o_fail @o_eqnil) (And.intro @o_eqsn (And.intro @o_s2a @o_frzb))) (And.intro (And.intro @o_mnz @lp_s) (And.intro @lp_n (And.intro @lp_r @lp_e)))))))
def amU := (And.intro (And.intro (And.intro (And.intro (And.intro (And.intro (And.intro (And.intro @q_st0 @q_st1) (And.intro @q_qfn (And.intro @q_qgl @q_a0))) (And.intro (And.intro @q_a1 @q_at)
  (And.intro @q_ac (And.intro @n_raw @n_ptr)))) (And.intro (And.intro (And.intro @n_sl @n_lst) (And.intro @n_cptr (And.intro @n_agg @q_r1))) (And.intro (And.intro @q_r0 @q_r2) (And.intro @sl_sl
  (And.intro @sl_lst @sl_nil))))) (And.intro (And.intro (And.intro (And.intro @so_str @so_sl) (And.intro @so_lst (And.intro @so_nil @el_sl))) (And.intro (And.intro @el_lst @el_nil) (And.intro @lv_0
  (And.intro @lv_s @lv_new)))) (And.intro (And.intro (And.intro @g_row @g_nil) (And.intro @g_agg (And.intro @s_row @s_nil))) (And.intro (And.intro @s_agg @sub_0) (And.intro @sub_s (And.intro @sub_ar
  @a_nil)))))) (And.intro (And.intro (And.intro (And.intro (And.intro @a_sl @most_eq) (And.intro @wz_id (And.intro @q_bd @q_skl))) (And.intro (And.intro @q_sks @q_ct) (And.intro @q_cf (And.intro
  @q_gtt @q_gtf)))) (And.intro (And.intro (And.intro @q_gft @q_gff) (And.intro @q_gz (And.intro @q_bs @q_et))) (And.intro (And.intro @q_ec @q_eg) (And.intro @q_ps (And.intro @q_pn @q_es0)))))
  (And.intro (And.intro (And.intro (And.intro @q_es1 @q_eo0) (And.intro @q_eo1 (And.intro @ea_agg @eL_n))) (And.intro (And.intro @eL_c @eD_agg) (And.intro @eD_u8 (And.intro @eD_u32 @eD_u64))))
  (And.intro (And.intro (And.intro @eD_it @eD_b) (And.intro @q_ixl (And.intro @q_ixs @mm_c))) (And.intro (And.intro @mf_n (And.intro @mf_c @fold_it)) (And.intro @nb_nn (And.intro @nb_pn @nb_cn)))))))
  (And.intro (And.intro (And.intro (And.intro (And.intro (And.intro @asIt_it @q_pk) (And.intro @q_pkt (And.intro @q_pkf @gD_t))) (And.intro (And.intro @gD_f @pk_or) (And.intro @pk_and (And.intro @q_f0
  @q_f1)))) (And.intro (And.intro (And.intro @asI_it @asI_u8) (And.intro @isSc_u8 (And.intro @one_u8 @asI_u16))) (And.intro (And.intro @isSc_u16 @one_u16) (And.intro @asI_u32 (And.intro @isSc_u32
  @one_u32))))) (And.intro (And.intro (And.intro (And.intro @asI_u64 @isSc_u64) (And.intro @one_u64 (And.intro @isSc_it @one_it))) (And.intro (And.intro @isSc_b @isSc_s) (And.intro @fits_raw
  (And.intro @fits_agg @sh_beq)))) (And.intro (And.intro (And.intro @fits_lst @fits_sl) (And.intro @fits_ptr (And.intro @fits_cptr @fits_nils))) (And.intro (And.intro @cv_8_8 @cv_8_16) (And.intro
  @cv_8_32 (And.intro @cv_8_64 @cv_8_it)))))) (And.intro (And.intro (And.intro (And.intro (And.intro @cv_it_8 @cv_16_8) (And.intro @cv_16_16 (And.intro @cv_16_32 @cv_16_64))) (And.intro (And.intro
  @cv_16_it @cv_it_16) (And.intro @cv_32_8 (And.intro @cv_32_16 @cv_32_32)))) (And.intro (And.intro (And.intro @cv_32_64 @cv_32_it) (And.intro @cv_it_32 (And.intro @cv_64_8 @cv_64_16))) (And.intro
  (And.intro @cv_64_32 @cv_64_64) (And.intro @cv_64_it (And.intro @cv_it_64 @cv_it_it))))) (And.intro (And.intro (And.intro (And.intro @b_add8 @b_sub8) (And.intro @b_mul8 (And.intro @b_and8 @b_or8)))
  (And.intro (And.intro @b_xor8 @b_andNot8) (And.intro @b_quo8 (And.intro @b_rem8 @b_eql8)))) (And.intro (And.intro (And.intro @b_neq8 @b_lss8) (And.intro @b_leq8 (And.intro @b_gtr8 @b_geq8)))
  (And.intro (And.intro @b_shl8_it (And.intro @b_shr8_it @b_shl8_8)) (And.intro @b_shr8_8 (And.intro @b_shl8_16 @b_shr8_16)))))))) (And.intro (And.intro (And.intro (And.intro (And.intro (And.intro
  (And.intro @b_shl8_32 @b_shr8_32) (And.intro @b_shl8_64 (And.intro @b_shr8_64 @u_not8))) (And.intro (And.intro @b_add16 @b_sub16) (And.intro @b_mul16 (And.intro @b_and16 @b_or16)))) (And.intro
  (And.intro (And.intro @b_xor16 @b_andNot16) (And.intro @b_quo16 (And.intro @b_rem16 @b_eql16))) (And.intro (And.intro @b_neq16 @b_lss16) (And.intro @b_leq16 (And.intro @b_gtr16 @b_geq16)))))
  (And.intro (And.intro (And.intro (And.intro @b_shl16_it @b_shr16_it) (And.intro @b_shl16_8 (And.intro @b_shr16_8 @b_shl16_16))) (And.intro (And.intro @b_shr16_16 @b_shl16_32) (And.intro @b_shr16_32
  (And.intro @b_shl16_64 @b_shr16_64)))) (And.intro (And.intro (And.intro @u_not16 @b_add32) (And.intro @b_sub32 (And.intro @b_mul32 @b_and32))) (And.intro (And.intro @b_or32 @b_xor32) (And.intro
  @b_andNot32 (And.intro @b_quo32 @b_rem32)))))) (And.intro (And.intro (And.intro (And.intro (And.intro @b_eql32 @b_neq32) (And.intro @b_lss32 (And.intro @b_leq32 @b_gtr32))) (And.intro (And.intro
  @b_geq32 @b_shl32_it) (And.intro @b_shr32_it (And.intro @b_shl32_8 @b_shr32_8)))) (And.intro (And.intro (And.intro @b_shl32_16 @b_shr32_16) (And.intro @b_shl32_32 (And.intro @b_shr32_32
  @b_shl32_64))) (And.intro (And.intro @b_shr32_64 @u_not32) (And.intro @b_add64 (And.intro @b_sub64 @b_mul64))))) (And.intro (And.intro (And.intro (And.intro @b_and64 @b_or64) (And.intro @b_xor64
  (And.intro @b_andNot64 @b_quo64))) (And.intro (And.intro @b_rem64 @b_eql64) (And.intro @b_neq64 (And.intro @b_lss64 @b_leq64)))) (And.intro (And.intro (And.intro @b_gtr64 @b_geq64) (And.intro
  @b_shl64_it (And.intro @b_shr64_it @b_shl64_8))) (And.intro (And.intro @b_shr64_8 (And.intro @b_shl64_16 @b_shr64_16)) (And.intro @b_shl64_32 (And.intro @b_shr64_32 @b_shl64_64))))))) (And.intro
  (And.intro (And.intro (And.intro (And.intro (And.intro @b_shr64_64 @u_not64) (And.intro @b_addi (And.intro @b_subi @b_muli))) (And.intro (And.intro @b_quoi @b_remi) (And.intro @b_eqli (And.intro
  @b_lssi @b_leqi)))) (And.intro (And.intro (And.intro @b_gtri @b_geqi) (And.intro @b_neqi (And.intro @b_adds @b_eqls))) (And.intro (And.intro @b_neqs @u_notb) (And.intro @u_negi (And.intro
  @Int.toNat_natCast @cond_true.{1}))))) (And.intro (And.intro (And.intro (And.intro @cond_false.{1} @Option.bind_some.{0, 0}) (And.intro @Option.map_some.{0, 0} (And.intro @Option.getD_some.{0}
  @Option.getD_none.{0}))) (And.intro (And.intro @true_and @and_true) (And.intro @eq_self.{1} (And.intro @List.length_nil.{0} @List.length_cons.{0})))) (And.intro (And.intro (And.intro
  @List.length_append.{0} @List.length_set.{0}) (And.intro @List.length_map.{0, 0} (And.intro @List.set_cons_zero.{0} @List.set_cons_succ.{0}))) (And.intro (And.intro @List.replicate_succ.{0}
  @List.replicate_zero.{0}) (And.intro @List.getElem?_cons_zero.{0} (And.intro @List.getElem?_cons_succ.{0} @List.nil_append.{0})))))) (And.intro (And.intro (And.intro (And.intro (And.intro
  @List.cons_append.{0} @q_rn) (And.intro @q_rr (And.intro @q_re @List.map_cons.{0, 0}))) (And.intro (And.intro @List.map_nil.{0, 0} @Int.ofNat_zero) (And.intro @Bool.not_true (And.intro
  @Bool.not_false @if_true.{1})))) (And.intro (And.intro (And.intro @Option.some.injEq.{0} @forall_eq'.{1}) (And.intro @List.drop_zero.{0} (And.intro @List.take_succ_cons.{0} @List.take_zero.{0})))
  (And.intro (And.intro @List.drop_succ_cons.{0} @List.take_nil.{0}) (And.intro @List.drop_nil.{0} (And.intro @ne_eq.{1} @not_false_eq_true))))) (And.intro (And.intro (And.intro (And.intro
  @BitVec.ofNat_eq_ofNat @Nat.zero_add) (And.intro @Bool.and_true (And.intro @Bool.and_false @Bool.true_and))) (And.intro (And.intro @Bool.false_and @Bool.or_true) (And.intro @Bool.or_false (And.intro
  @Bool.true_or @Bool.false_or)))) (And.intro (And.intro (And.intro @Bool.not_eq_true @Bool.not_eq_false) (And.intro @decide_true (And.intro @decide_false @Nat.zero_le))) (And.intro (And.intro
  @and_self (And.intro @Int.cast_ofNat_Int @Int.natCast_zero)) (And.intro @Int.natCast_one (And.intro @Int.le_refl @Nat.le_refl)))))))))
def amC := (And.intro (And.intro (And.intro (And.intro (And.intro (And.intro @q_call @q_afun) (And.intro @in_d @hl_n)) (And.intro (And.intro @hl_c @hr_raw) (And.intro @hr_ptr @hr_sl))) (And.intro
  (And.intro (And.intro @hr_aptr @hr_lst) (And.intro @hr_cptr @hr_agg)) (And.intro (And.intro @hr_tup @pu_leaf) (And.intro @pu_ref @pu_nil)))) (And.intro (And.intro (And.intro (And.intro @pu_cons
  @pu_ar) (And.intro @mo_n @mo_c)) (And.intro (And.intro @vw_raw @vw_lst) (And.intro @vw_agg @vw_ptr))) (And.intro (And.intro (And.intro @vw_sl @sf_raw) (And.intro @sf_ptr @sf_sl)) (And.intro
  (And.intro @sf_lst @sf_cptr) (And.intro @sf_agg @sf_tup))))) (And.intro (And.intro (And.intro (And.intro (And.intro @sL_n @sL_c) (And.intro @sr_n @sr_s)) (And.intro (And.intro @sr_o @nl_raw)
  (And.intro @nl_ptr @nl_sl))) (And.intro (And.intro (And.intro @nl_agg @nl_tup) (And.intro @nL_n @nL_c)) (And.intro (And.intro @nr_n @nr_s) (And.intro @nr_o @fn1_ev)))) (And.intro (And.intro
  (And.intro (And.intro @fn2_ev @fn3_ev) (And.intro @ble_most @ble_lit)) (And.intro (And.intro @rdBs_lst @rdBs_nil) (And.intro @rd8_eq @rd32_eq))) (And.intro (And.intro (And.intro @rd64_eq @rdI_eq)
  (And.intro @bs_len @bs_take_len)) (And.intro (And.intro @Option.bind_none.{0, 0} @bs_take) (And.intro @bs_drop @bs_set))))))
def amR := (And.intro (And.intro @lv_app0 (And.intro @lv_appk @set_app0)) (And.intro (And.intro @set_appk @List.append_assoc.{0}) (And.intro @List.append_nil.{0} @Nat.add_assoc)))
end Go.Am
