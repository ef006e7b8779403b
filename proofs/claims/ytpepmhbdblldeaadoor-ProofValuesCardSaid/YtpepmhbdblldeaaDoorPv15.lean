import Derived.Test.YtpepmhbdblldeaaDoorPv14
namespace Go.Am
set_option linter.unusedVariables false
set_option linter.defProp false
set_option maxRecDepth 10000
def amD := (And.intro (And.intro (And.intro (And.intro (And.intro (And.intro @q_skip @q_region) (And.intro @q_regiond (And.intro @q_draw1 @q_draw))) (And.intro (And.intro @q_tail @q_stab) (And.intro @q_st2 (And.intro @q_ta0 @q_ta1)))) (And.intro (And.intro (And.intro @q_drawf @q_stabF) (And.intro @q_intF (And.intro @q_slf @q_tf0))) (And.intro (And.intro @q_tf1 (And.intro @q_seq @q_cond)) (And.intro @q_block (And.intro @q_loop @q_exit))))) (And.intro (And.intro (And.intro (And.intro @q_ret @q_fr) (And.intro @q_fn (And.intro @q_sn @q_sr))) (And.intro (And.intro @q_se (And.intro @q_bn @q_br)) (And.intro @q_be (And.intro @q_on @q_oc)))) (And.intro (And.intro (And.intro @q_og @q_ko) (And.intro @q_lk (And.intro @o_mv @o_pick))) (And.intro (And.intro @o_bin (And.intro @o_eqa @o_beq)) (And.intro @o_un (And.intro @o_conv @o_convs)))))) (And.intro (And.intro (And.intro (And.intro (And.intro @o_alloc @o_box) (And.intro @o_build (And.intro @o_bslice @o_load))) (And.intro (And.intro @o_store @o_nilc) (And.intro @o_faddr (And.intro @o_field @o_iaddra)))) (And.intro (And.intro (And.intro @o_iaddrs @o_index) (And.intro @o_sindex (And.intro @o_slicea @o_slice))) (And.intro (And.intro @o_sslice (And.intro @o_mks @o_ext)) (And.intro @o_len (And.intro @o_strlen @o_append))))) (And.intro (And.intro (And.intro (And.intro @o_appendz @o_copy) (And.intro @o_minmax (And.intro @o_b2s @o_s2b))) (And.intro (And.intro @o_call (And.intro @q_fns @q_fnn)) (And.intro @o_callv (And.intro @o_fail @o_eqnil)))) (And.intro (And.intro (And.intro @o_eqsn @o_s2a) (And.intro @o_frzb (And.intro @o_mnz @o_mkm))) (And.intro (And.intro @o_mset (And.intro @o_mget @lp_s)) (And.intro @lp_n (And.intro @lp_r @lp_e)))))))
def amU := (And.intro (And.intro (And.intro (And.intro (And.intro (And.intro (And.intro (And.intro @q_st0 @q_st1) (And.intro @q_sf0 @q_sf1)) (And.intro (And.intro @q_sfa @q_sfb) (And.intro @q_sfm (And.intro @q_sfl @q_sfe)))) (And.intro (And.intro (And.intro @q_sff @q_isp) (And.intro @q_isl (And.intro @q_qfn @q_qgl))) (And.intro (And.intro @q_a0 @q_a1) (And.intro @q_at (And.intro @q_ac @n_raw))))) (And.intro (And.intro (And.intro (And.intro @n_ptr @n_sl) (And.intro @n_lst @n_cptr)) (And.intro (And.intro @n_agg @q_r1) (And.intro @q_r0 (And.intro @q_r2 @sl_sl)))) (And.intro (And.intro (And.intro @sl_lst @sl_nil) (And.intro @so_str (And.intro @so_sl @so_lst))) (And.intro (And.intro @so_nil @el_sl) (And.intro @el_lst (And.intro @el_nil @lv_0)))))) (And.intro (And.intro (And.intro (And.intro (And.intro @lv_s @lv_new) (And.intro @g_row @g_nil)) (And.intro (And.intro @g_agg @s_row) (And.intro @s_nil (And.intro @s_agg @sub_0)))) (And.intro (And.intro (And.intro @sub_s @sub_ar) (And.intro @a_nil (And.intro @a_sl @most_eq))) (And.intro (And.intro @wz_id @q_bd) (And.intro @q_skl (And.intro @q_sks @q_ct))))) (And.intro (And.intro (And.intro (And.intro @q_cf @q_gtt) (And.intro @q_gtf @q_gft)) (And.intro (And.intro @q_gff @q_gz) (And.intro @q_bs (And.intro @q_et @q_ec)))) (And.intro (And.intro (And.intro @q_eg @q_ps) (And.intro @q_pn (And.intro @q_es0 @q_es1))) (And.intro (And.intro @q_eo0 @q_eo1) (And.intro @ea_agg (And.intro @eL_n @eL_c))))))) (And.intro (And.intro (And.intro (And.intro (And.intro (And.intro @eD_agg @eD_u8) (And.intro @eD_u32 @eD_u64)) (And.intro (And.intro @eD_it @eD_b) (And.intro @q_ixl (And.intro @q_ixs @mm_c)))) (And.intro (And.intro (And.intro @mf_n @mf_c) (And.intro @fold_it (And.intro @q_frq @q_qfr))) (And.intro (And.intro @q_qfq @q_ors) (And.intro @q_orn (And.intro @q_qrn @nb_nn))))) (And.intro (And.intro (And.intro (And.intro @nb_pn @nb_cn) (And.intro @asIt_it @mr_mp)) (And.intro (And.intro @mr_raw @me_mp) (And.intro @me_om (And.intro @mr_ft @mr_tt)))) (And.intro (And.intro (And.intro @mr_fn @mr_tn) (And.intro @q_pk (And.intro @q_pkt @q_pkf))) (And.intro (And.intro @gD_t @gD_f) (And.intro @pk_or (And.intro @pk_and @q_f0)))))) (And.intro (And.intro (And.intro (And.intro (And.intro @q_f1 @asI_it) (And.intro @asI_u8 @isSc_u8)) (And.intro (And.intro @one_u8 @asI_u32) (And.intro @isSc_u32 (And.intro @one_u32 @asI_u64)))) (And.intro (And.intro (And.intro @isSc_u64 @one_u64) (And.intro @isSc_it (And.intro @one_it @isSc_b))) (And.intro (And.intro @isSc_s @fits_raw) (And.intro @fits_agg (And.intro @sh_beq @fits_lst))))) (And.intro (And.intro (And.intro (And.intro @fits_sl @fits_ptr) (And.intro @fits_mp (And.intro @fits_om @fits_cptr))) (And.intro (And.intro @fits_nils @cv_8_8) (And.intro @cv_8_32 (And.intro @cv_8_64 @cv_8_it)))) (And.intro (And.intro (And.intro @cv_it_8 @cv_32_8) (And.intro @cv_32_32 (And.intro @cv_32_64 @cv_32_it))) (And.intro (And.intro @cv_it_32 @cv_64_8) (And.intro @cv_64_32 (And.intro @cv_64_64 @cv_64_it)))))))) (And.intro (And.intro (And.intro (And.intro (And.intro (And.intro (And.intro @cv_it_64 @cv_it_it) (And.intro @b_add8 @b_sub8)) (And.intro (And.intro @b_mul8 @b_and8) (And.intro @b_or8 (And.intro @b_xor8 @b_andNot8)))) (And.intro (And.intro (And.intro @b_quo8 @b_rem8) (And.intro @b_eql8 (And.intro @b_neq8 @b_lss8))) (And.intro (And.intro @b_leq8 @b_gtr8) (And.intro @b_geq8 (And.intro @b_shl8_it @b_shr8_it))))) (And.intro (And.intro (And.intro (And.intro @b_shl8_8 @b_shr8_8) (And.intro @b_shl8_32 @b_shr8_32)) (And.intro (And.intro @b_shl8_64 @b_shr8_64) (And.intro @u_not8 (And.intro @b_add32 @b_sub32)))) (And.intro (And.intro (And.intro @b_mul32 @b_and32) (And.intro @b_or32 (And.intro @b_xor32 @b_andNot32))) (And.intro (And.intro @b_quo32 @b_rem32) (And.intro @b_eql32 (And.intro @b_neq32 @b_lss32)))))) (And.intro (And.intro (And.intro (And.intro (And.intro @b_leq32 @b_gtr32) (And.intro @b_geq32 @b_shl32_it)) (And.intro (And.intro @b_shr32_it @b_shl32_8) (And.intro @b_shr32_8 (And.intro @b_shl32_32 @b_shr32_32)))) (And.intro (And.intro (And.intro @b_shl32_64 @b_shr32_64) (And.intro @u_not32 (And.intro @b_add64 @b_sub64))) (And.intro (And.intro @b_mul64 @b_and64) (And.intro @b_or64 (And.intro @b_xor64 @b_andNot64))))) (And.intro (And.intro (And.intro (And.intro @b_quo64 @b_rem64) (And.intro @b_eql64 @b_neq64)) (And.intro (And.intro @b_lss64 @b_leq64) (And.intro @b_gtr64 (And.intro @b_geq64 @b_shl64_it)))) (And.intro (And.intro (And.intro @b_shr64_it @b_shl64_8) (And.intro @b_shr64_8 (And.intro @b_shl64_32 @b_shr64_32))) (And.intro (And.intro @b_shl64_64 @b_shr64_64) (And.intro @u_not64 (And.intro @b_addi @b_subi))))))) (And.intro (And.intro (And.intro (And.intro (And.intro (And.intro @b_muli @b_quoi) (And.intro @b_remi @b_eqli)) (And.intro (And.intro @b_lssi @b_leqi) (And.intro @b_gtri (And.intro @b_geqi @b_neqi)))) (And.intro (And.intro (And.intro @b_adds @b_eqls) (And.intro @b_neqs (And.intro @u_notb @u_negi))) (And.intro (And.intro @Int.toNat_natCast @cond_true.{1}) (And.intro @cond_false.{1} (And.intro @Option.bind_some.{0,
 0} @Option.map_some.{0, 0}))))) (And.intro (And.intro (And.intro (And.intro @Option.getD_some.{0} @Option.getD_none.{0}) (And.intro @true_and @and_true)) (And.intro (And.intro @eq_self.{1} @List.length_nil.{0}) (And.intro @List.length_cons.{0} (And.intro @List.length_append.{0} @List.length_set.{0})))) (And.intro (And.intro (And.intro @List.length_map.{0, 0} @List.set_cons_zero.{0}) (And.intro @List.set_cons_succ.{0} (And.intro @List.replicate_succ.{0} @List.replicate_zero.{0}))) (And.intro (And.intro @List.getElem?_cons_zero.{0} @List.getElem?_cons_succ.{0}) (And.intro @List.nil_append.{0} (And.intro @List.cons_append.{0} @q_rn)))))) (And.intro (And.intro (And.intro (And.intro (And.intro @q_rr @q_re) (And.intro @List.map_cons.{0, 0} @List.map_nil.{0, 0})) (And.intro (And.intro @Int.ofNat_zero @Bool.not_true) (And.intro @Bool.not_false (And.intro @if_true.{1} @Option.some.injEq.{0})))) (And.intro (And.intro (And.intro @forall_eq'.{1} @List.drop_zero.{0}) (And.intro @List.take_succ_cons.{0} (And.intro @List.take_zero.{0} @List.drop_succ_cons.{0}))) (And.intro (And.intro @List.take_nil.{0} @List.drop_nil.{0}) (And.intro @ne_eq.{1} (And.intro @not_false_eq_true @BitVec.ofNat_eq_ofNat))))) (And.intro (And.intro (And.intro (And.intro @Nat.zero_add @Bool.and_true) (And.intro @Bool.and_false (And.intro @Bool.true_and @Bool.false_and))) (And.intro (And.intro @Bool.or_true @Bool.or_false) (And.intro @Bool.true_or (And.intro @Bool.false_or @Bool.not_eq_true)))) (And.intro (And.intro (And.intro @Bool.not_eq_false @decide_true) (And.intro @decide_false (And.intro @Nat.zero_le @and_self))) (And.intro (And.intro @Int.cast_ofNat_Int @Int.natCast_zero) (And.intro @Int.natCast_one (And.intro @Int.le_refl @Nat.le_refl)))))))))
def amC := (And.intro (And.intro (And.intro (And.intro (And.intro (And.intro @q_call @q_afun) (And.intro @in_d @hl_n)) (And.intro (And.intro @hl_c @hr_raw) (And.intro @hr_ptr @hr_sl))) (And.intro
 (And.intro (And.intro @hr_aptr @hr_lst) (And.intro @hr_cptr @hr_mp)) (And.intro (And.intro @hr_om @hr_agg) (And.intro @hr_tup (And.intro @pu_leaf @pu_ref))))) (And.intro (And.intro (And.intro
 (And.intro @pu_nil @pu_cons) (And.intro @pu_ar @mo_n)) (And.intro (And.intro @mo_c @vw_raw) (And.intro @vw_om (And.intro @vw_mp @vw_lst)))) (And.intro (And.intro (And.intro @vw_agg @vw_ptr)
 (And.intro @vw_sl @sf_raw)) (And.intro (And.intro @sf_mp @sf_om) (And.intro @sf_ptr (And.intro @sf_sl @sf_lst)))))) (And.intro (And.intro (And.intro (And.intro (And.intro @sf_cptr @sf_agg)
 (And.intro @sf_tup @sL_n)) (And.intro (And.intro @sL_c @sr_n) (And.intro @sr_s (And.intro @sr_o @nl_raw)))) (And.intro (And.intro (And.intro @nl_mp @nl_ptr) (And.intro @nl_sl @nl_agg)) (And.intro
 (And.intro @nl_tup @nL_n) (And.intro @nL_c (And.intro @nr_n @nr_s))))) (And.intro (And.intro (And.intro (And.intro @nr_o @fn1_ev) (And.intro @fn2_ev @fn3_ev)) (And.intro (And.intro @ble_most
 @ble_lit) (And.intro @rdBs_lst (And.intro @rdBs_nil @rd8_eq)))) (And.intro (And.intro (And.intro @rd32_eq @rd64_eq) (And.intro @rdI_eq @bs_len)) (And.intro (And.intro @bs_take_len
 @Option.bind_none.{0, 0}) (And.intro @bs_take (And.intro @bs_drop @bs_set)))))))
def amR := (And.intro (And.intro @lv_app0 (And.intro @lv_appk @set_app0)) (And.intro (And.intro @set_appk @List.append_assoc.{0}) (And.intro @List.append_nil.{0} @Nat.add_assoc)))
end Go.Am
namespace Go.Am
set_option linter.unusedSimpArgs false
set_option linter.unusedVariables false
attribute [local congr] bnd_congr kCond_congr kGd_congr kPick_congr kCall_congr kIdx_congr kSlice_congr kLoop_congr cond_congr' aBin_congr aBounds_congr aApp_congr aCopy_congr kFn_congr
namespace Job
open Go.Am.F
set_option maxRecDepth 10000
theorem take_succ_eq {a b : List (BitVec 8)} {i : Nat} (h : a.take i = b.take i) (ha : i < a.length) (hb : i < b.length) (hg : a.getD i 0#8 = b.getD i 0#8) : a.take (i + 1) = b.take (i + 1) := by
 rw [List.take_succ_eq_append_getElem ha, List.take_succ_eq_append_getElem hb, h]
 have : a[i] = b[i] := by simpa [ha, hb] using hg
 rw [this]
noncomputable abbrev P : Program := Go.Proofs.Tryd.prog
def fSame : Fn := fn2 rdBs rdBs (fun a b => Nat.ble a.length most && Nat.ble b.length most) fun a b => (.raw (.bool (decide (a = b))), [])
theorem same_ok (C : Ctx) (hC : CtxOK C P) : Meets C.glob P 17 (Fn.run fSame) := by
 refine fn_meets (m_ref01_Same C hC) fun ds rows r h => ?_
 obtain ⟨d, e, a, b, rfl, rfl, hd, he, hp, rfl⟩ := fn2_some h
 have ha := rdBs_some hd
 have hb := rdBs_some he
 simp only [Bool.and_eq_true, Nat.ble_eq] at hp
 obtain ⟨hp1, hp2⟩ := hp
 unfold most at hp1 hp2
 refine ⟨rfl, afun_mk rfl ?_⟩
 unfold a_ref01_Same r_ref01_Same
 simp only [↓amD, amU, simprocAttr, zipEnv, ha.slen, hb.slen]
 by_cases hlen : a.length = b.length
 ·have h1 : (a.length : Int) = b.length := by omega
  simp only [↓amD, amU, simprocAttr, zipEnv, h1, decide_true, ha.slen]
  refine kLoop_inv (fun k env rows => ∃ i : Nat, k = b.length - i ∧ i ≤ b.length ∧ has env [(0, d), (1, e), (12, .raw (it b.length)), (13, .raw (it i))] ∧ a.take i = b.take i) ?_ b.length ⟨0, by simp, by omega, ?_, by simp⟩
  ·rintro k env rows ⟨i, rfl, hi, hh, heq⟩ R hR
   simp only [has] at hh
   obtain ⟨h0, h1', h12, h13, -⟩ := hh
   simp only [↓amD, amU, simprocAttr, zipEnv, h0, h1', h12, h13]
   by_cases hlt : (i : Int) < b.length
   ·have hii : i < a.length := by omega
    have hib : i < b.length := by omega
    have ea : ∀ (k : D → Rows → Prop) rows, kIdx (.leaf (.int .u8)) (i : Int) rows k d = k (.cptr (.raw (u8 (a.getD i 0#8)))) rows := fun k rows => by have := kIdx_bs (k := k) (rows := rows) (n := i) ha (by omega); simpa using this
    have eb : ∀ (k : D → Rows → Prop) rows, kIdx (.leaf (.int .u8)) (i : Int) rows k e = k (.cptr (.raw (u8 (b.getD i 0#8)))) rows := fun k rows => by have := kIdx_bs (k := k) (rows := rows) (n := i) hb (by omega); simpa using this
    simp only [↓amD, amU, simprocAttr, zipEnv, hlt, decide_true, h0, h1', h12, h13, ea, eb]
    by_cases hab : a.getD i 0#8 = b.getD i 0#8
    ·have hw : wz ((i : Int) + 1) = ((i + 1 : Nat) : Int) := by rw [wz_id (by omega)]; omega
     try simp only [↓amD, amU, simprocAttr, zipEnv, hab, decide_true, h0, h1', h12, h13, hw]
     refine hR (b.length - (i + 1)) _ _ (by omega) ⟨i + 1, rfl, by omega, ?_, take_succ_eq heq hii hib hab⟩
     simp only [has, ↓amD, amU, simprocAttr, zipEnv, h0, h1', h12, h13]
    ·try simp only [↓amD, amU, simprocAttr, zipEnv, hab, decide_false, h0, h1', h12, h13]
     have hne : a ≠ b := by rintro rfl; exact hab rfl
     try simp only [hne, decide_false]
     exact .val _ rfl
   ·have hie : i = b.length := by omega
    have hab : a = b := by
     rw [hie, List.take_length, ← hlen, List.take_length] at heq
     exact heq
    simp only [↓amD, amU, simprocAttr, zipEnv, hlt, decide_false, h0, h1', h12, h13]
    try simp only [hab, decide_true]
    exact .val _ rfl
  ·simp only [has, ↓amD, amU, simprocAttr, zipEnv]
 ·have h1 : ¬ (a.length : Int) = b.length := by omega
  simp only [↓amD, amU, simprocAttr, zipEnv, h1, decide_false]
  have hne : a ≠ b := by rintro rfl; exact hlen rfl
  try simp only [hne, decide_false]
  exact .val _ rfl
def fCut : Fn := fn2 rdBs rdI (fun a n => Nat.ble a.length 9223372036854775807 && Nat.ble (a.take n.toNat).length most) fun a n => outBs (a.take n.toNat) false
theorem cut_ok (C : Ctx) (hC : CtxOK C P) : Meets C.glob P 9 (Fn.run fCut) := by
 refine fn_meets (m_ref01_Cut C hC) fun ds rows r h => ?_
 obtain ⟨d, e, a, n, rfl, rfl, hd, he, hp, rfl⟩ := fn2_some h
 have ha := rdBs_some hd
 cases rdI_some he
 simp only [Bool.and_eq_true, Nat.ble_eq] at hp
 obtain ⟨hp, hp2⟩ := hp
 unfold most at hp2
 rw [List.length_take] at hp2
 refine ⟨rfl, afun_mk rfl ?_⟩
 unfold a_ref01_Cut r_ref01_Cut
 simp only [↓amD, amU, simprocAttr, zipEnv, ha.slen]
 refine kLoop_inv (fun k env rows => ∃ (i : Nat) (x : D), k = a.length - i ∧ i ≤ a.length ∧ has env [(1, .raw (it n)), (8, d), (5, x), (9, .raw (it a.length)), (10, .raw (it i))] ∧ Own (.leaf u8s) x rows (bs ((a.take i).take n.toNat))) ?_ a.length ⟨0, _, by simp, by omega, ?_, .inl ⟨by simp [bs], rfl⟩⟩
 ·rintro k env rows ⟨i, x, rfl, hi, hh, how⟩ R hR
  simp only [has] at hh
  obtain ⟨h1, h8, h5, h9, h10, -⟩ := hh
  simp only [↓amD, amU, simprocAttr, zipEnv, h1, h8, h5, h9, h10]
  by_cases hlt : (i : Int) < a.length
  ·have hii : i < a.length := by omega
   have ea : ∀ (k : D → Rows → Prop) rows, kIdx (.leaf (.int .u8)) (i : Int) rows k d = k (.cptr (.raw (u8 (a.getD i 0#8)))) rows := fun k rows => by have := kIdx_bs (k := k) (rows := rows) (n := i) ha (by omega); simpa using this
   have hw : wz ((i : Int) + 1) = ((i + 1 : Nat) : Int) := by rw [wz_id (by omega)]; omega
   simp only [↓amD, amU, simprocAttr, zipEnv, hlt, decide_true, h1, h8, h5, h9, h10, ea]
   by_cases hin : (i : Int) < n
   ·simp only [↓amD, amU, simprocAttr, zipEnv, hin, decide_true, h1, h8, h5, h9, h10, hw]
    have hl1 := Nat.le_trans (List.length_take_le' n.toNat (a.take i)) (List.length_take_le i a)
    refine app_own how.push (by rw [bs_len]; simp only [List.length_cons, List.length_nil]; unfold most; omega) (by rw [bs_len]; simp only [List.length_cons, List.length_nil]; unfold most; omega) ?_
    intro x' rows' how' _ _ _
    simp only [↓amD, amU, simprocAttr, zipEnv, h1, h8, h5, h9, h10, hw]
    refine hR (a.length - (i + 1)) _ _ (by omega) ⟨i + 1, x', rfl, by omega, ?_, ?_⟩
    ·simp only [has, ↓amD, amU, simprocAttr, zipEnv, h1, h8, h5, h9, h10]
    ·have : bs ((a.take (i + 1)).take n.toNat) = bs ((a.take i).take n.toNat) ++ [.raw (u8 (a.getD i 0#8))] := by
      have e1 : (a.take (i + 1)).take n.toNat = a.take (i + 1) := List.take_of_length_le (by simp; omega)
      have e2 : (a.take i).take n.toNat = a.take i := List.take_of_length_le (by simp; omega)
      rw [e1, e2, take_succ_getD (z := 0#8) hii, bs_snoc]
     rw [this]; exact how'
   ·simp only [↓amD, amU, simprocAttr, zipEnv, hin, decide_false, h1, h8, h5, h9, h10, hw]
    refine hR (a.length - (i + 1)) _ _ (by omega) ⟨i + 1, x, rfl, by omega, ?_, ?_⟩
    ·simp only [has, ↓amD, amU, simprocAttr, zipEnv, h1, h8, h5, h9, h10]
    ·have : (a.take (i + 1)).take n.toNat = (a.take i).take n.toNat := by
      rw [List.take_take, List.take_take]; congr 1; omega
     rw [this]; exact how
  ·have hie : i = a.length := by omega
   simp only [↓amD, amU, simprocAttr, zipEnv, hlt, decide_false, h1, h8, h5, h9, h10, how.nTup]
   rw [hie, List.take_length] at how
   exact how.expo
 ·simp only [has, ↓amD, amU, simprocAttr, zipEnv]
def fValue : Fn := fn1 rdBs (fun a => Nat.ble a.length most) fun a => (.raw (u64 (a.foldl (fun n b => 256#64 * n + b.setWidth 64) 0#64)), [])
theorem value_ok (C : Ctx) (hC : CtxOK C P) : Meets C.glob P 73 (Fn.run fValue) := by
 refine fn_meets (m_ref01_Value C hC) fun ds rows r h => ?_
 obtain ⟨d, a, rfl, rfl, hd, hp, rfl⟩ := fn1_some h
 have ha := rdBs_some hd
 simp only [Nat.ble_eq] at hp
 unfold most at hp
 refine ⟨rfl, afun_mk rfl ?_⟩
 unfold a_ref01_Value r_ref01_Value
 simp only [↓amD, amU, simprocAttr, zipEnv, ha.slen]
 refine kLoop_inv (fun k env rows => ∃ (i : Nat), k = a.length - i ∧ i ≤ a.length ∧ has env [(6, d), (3, .raw (u64 ((a.take i).foldl (fun n b => 256#64 * n + b.setWidth 64) 0#64))), (7, .raw (it a.length)), (8, .raw (it i))]) ?_ a.length ⟨0, by simp, by omega, ?_⟩
 ·rintro k env rows ⟨i, rfl, hi, hh⟩ R hR
  simp only [has] at hh
  obtain ⟨h6, h3, h7, h8, -⟩ := hh
  simp only [↓amD, amU, simprocAttr, zipEnv, h6, h3, h7, h8]
  by_cases hlt : (i : Int) < a.length
  ·have hii : i < a.length := by omega
   have ea : ∀ (k : D → Rows → Prop) rows, kIdx (.leaf (.int .u8)) (i : Int) rows k d = k (.cptr (.raw (u8 (a.getD i 0#8)))) rows := fun k rows => by have := kIdx_bs (k := k) (rows := rows) (n := i) ha (by omega); simpa using this
   have hw : wz ((i : Int) + 1) = ((i + 1 : Nat) : Int) := by rw [wz_id (by omega)]; omega
   simp only [↓amD, amU, simprocAttr, zipEnv, hlt, decide_true, h6, h3, h7, h8, ea, hw]
   refine hR (a.length - (i + 1)) _ _ (by omega) ⟨i + 1, rfl, by omega, ?_⟩
   have e1 : a.take (i + 1) = a.take i ++ [a.getD i 0#8] := take_succ_getD hii
   simp only [has, ↓amD, amU, simprocAttr, zipEnv, h6, h3, h7, h8, e1, List.foldl_append, List.foldl_cons, List.foldl_nil]
  ·have hie : i = a.length := by omega
   simp only [↓amD, amU, simprocAttr, zipEnv, hlt, decide_false, h6, h3, h7, h8]
   rw [hie, List.take_length]
   exact .val _ rfl
 ·simp only [has, ↓amD, amU, simprocAttr, zipEnv, List.foldl_nil, List.take_zero]
def numL : Nat → BitVec 64 → List (BitVec 8)
 | 0, _ => []
 | k + 1, n => numL k (n / 256#64) ++ [(n % 256#64).setWidth 8]
theorem numL_len (k : Nat) (n : BitVec 64) : (numL k n).length = k := by
 induction k generalizing n with
 | zero => rfl
 | succ k ih => simp [numL, ih]
theorem rep_get {α : Type} (x : α) (i : Nat) (l : List α) : (x :: (List.replicate i x ++ l))[i]? = some x := by
 induction i with
 | zero => rfl
 | succ i ih => simpa [List.replicate_succ] using ih
theorem rep_set {α : Type} (x v : α) (i : Nat) (l : List α) : (x :: (List.replicate i x ++ l)).set i v = List.replicate i x ++ v :: l := by
 induction i with
 | zero => rfl
 | succ i ih => simpa [List.replicate_succ] using ih
def fNumS : Fn := fn2 rd64 rdI (fun _ k => decide (0 ≤ k) && decide (k ≤ 1099511627776)) fun n k => outBs (numL k.toNat n) false
theorem num_sl (C : Ctx) (hC : CtxOK C P) : Meets C.glob P 42 (Fn.run fNumS) := by
 refine fn_meets (m_ref01_Num C hC) fun ds rows r h => ?_
 obtain ⟨d, e, n, k, rfl, rfl, hd, he, hp, rfl⟩ := fn2_some h
 cases rd64_some hd
 cases rdI_some he
 simp only [Bool.and_eq_true, decide_eq_true_eq] at hp
 obtain ⟨hp1, hp2⟩ := hp
 obtain ⟨k, rfl⟩ := Int.eq_ofNat_of_zero_le hp1
 clear h hd he
 refine ⟨rfl, afun_mk rfl ?_⟩
 unfold a_ref01_Num r_ref01_Num
 have hw : wz ((k : Int) - 1) = (k : Int) - 1 := wz_id (by omega)
 simp only [↓amD, amU, simprocAttr, zipEnv, hp1, hp2, hw, Int.mul_one, Int.toNat_natCast]
 refine kLoop_inv (fun q env rows => ∃ (i : Nat) (m : BitVec 64) (suf : List (BitVec 8)), q = i ∧ i ≤ k ∧ has env [(0, .raw (u64 m)), (5, .sl (.leaf u8s) 0 [] 0 k true), (6, .raw (it ((i : Int) - 1)))] ∧ rows = [some ⟨.leaf u8s, List.replicate i (.raw (u8 0#8)) ++ bs suf⟩] ∧ numL k n = numL i m ++ suf ∧ i + suf.length = k) ?_ k ⟨k, n, [], rfl, Nat.le_refl _, ?_, ?_, by simp, by simp⟩
 ·rintro q env rows ⟨i, m, suf, rfl, hi, hh, rfl, hnum, hlen⟩ R hR
  simp only [has] at hh
  obtain ⟨h0, h5, h6, -⟩ := hh
  simp only [↓amD, amU, simprocAttr, zipEnv, h0, h5, h6]
  cases q with
  | zero =>
   have h00 : decide ((0 : Int) ≤ ((0 : Nat) : Int) - 1) = false := by simp
   simp only [↓amD, amU, simprocAttr, zipEnv, h00, h0, h5, h6]
   have hn : numL k n = suf := by simpa [numL] using hnum
   have hk : k = suf.length := by omega
   rw [hn, hk]
   exact .own _ 0 0 _ true false _ rfl rfl (fun h => by cases h)
  | succ i =>
   have h1 : decide ((0 : Int) ≤ ((i + 1 : Nat) : Int) - 1) = true := by simp
   have h2 : (((i + 1 : Nat) : Int) - 1).toNat = i := by omega
   have h3 : ((0 : Int) ≤ ((i + 1 : Nat) : Int) - 1) = True := eq_true (by omega)
   have h4 : (((i + 1 : Nat) : Int) - 1 < (k : Int)) = True := eq_true (by omega)
   have h7 : wz ((((i + 1 : Nat) : Int) - 1) - 1) = (i : Int) - 1 := by rw [wz_id (by omega)]; omega
   simp only [↓amD, amU, simprocAttr, zipEnv, h1, h2, h3, h4, h7, h0, h5, h6, rep_get, rep_set]
   refine hR i _ _ (by omega) ⟨i, m / 256#64, (m % 256#64).setWidth 8 :: suf, rfl, by omega, ?_, ?_, ?_, by simp; omega⟩
   ·simp only [has, ↓amD, amU, simprocAttr, zipEnv, h0, h5, h6]
   ·simp [bs]
   ·rw [hnum]; simp [numL]
 ·simp only [has, ↓amD, amU, simprocAttr, zipEnv]
 ·simp [bs]
def wordB (n : BitVec 32) : List (BitVec 8) := [(n >>> 24).setWidth 8, (n >>> 16).setWidth 8, (n >>> 8).setWidth 8, n.setWidth 8]
def numS (p : List (BitVec 8)) : BitVec 32 := (p.getD 0 0#8).setWidth 32 <<< 24 ||| (p.getD 1 0#8).setWidth 32 <<< 16 ||| (p.getD 2 0#8).setWidth 32 <<< 8 ||| (p.getD 3 0#8).setWidth 32
theorem num4 (n : BitVec 32) : numL 4 (n.setWidth 64) = wordB n := by
 have hn := n.isLt
 simp only [numL, wordB, List.nil_append, List.cons_append, List.cons.injEq, and_true]
 refine ⟨?_, ?_, ?_, ?_⟩ <;> apply BitVec.eq_of_toNat_eq <;> simp [BitVec.toNat_udiv, BitVec.toNat_umod, BitVec.toNat_setWidth, Nat.shiftRight_eq_div_pow] <;> omega
theorem kNum (rows : Rows) (k : D → Rows → Prop) (n : BitVec 32) : kCall fNumS rows k [.raw (u64 (n.setWidth 64)), .raw (it 4)] = k (.sl (.leaf u8s) (0 + rows.length) [] 0 4 false) (rows ++ [some ⟨.leaf u8s, bs (wordB n)⟩]) := by
 refine (kCall_val rfl (fn2_eq (rd64_eq _) (rdI_eq 4) (by decide))).trans ?_
 show k (shift rows.length (outBs (numL 4 (n.setWidth 64)) false).1) (rows ++ shiftRows rows.length (outBs (numL 4 (n.setWidth 64)) false).2) = _
 rw [num4]
 rfl
def rdBss : D → Option (List (List (BitVec 8)))
 | .lst s l _ => bif s == .ref then mapO rdBs l else none
 | _ => none
theorem rdBss_some {d : D} {ls : List (List (BitVec 8))} (h : rdBss d = some ls) : ∃ l e, d = .lst .ref l e ∧ mapO rdBs l = some ls := by
 unfold rdBss at h
 split at h
 ·rename_i s l e
  cases hb : (s == Sh.ref) with
  | false => rw [hb] at h; cases h
  | true =>
   rw [hb] at h
   have : s = .ref := by simpa using hb
   subst this
   exact ⟨l, e, rfl, h⟩
 ·cases h
def fJoin : Fn := fn1 rdBss (fun ls => Nat.ble ls.length most && Nat.ble ls.flatten.length most) fun ls => outBs ls.flatten false
theorem join_ok (C : Ctx) (hC : CtxOK C P) : Meets C.glob P 44 (Fn.run fJoin) := by
 refine fn_meets (m_ref01_Join C hC) fun ds rows r h => ?_
 obtain ⟨d, ls, rfl, rfl, hd, hp, rfl⟩ := fn1_some h
 obtain ⟨l, e, rfl, hl⟩ := rdBss_some hd
 simp only [Bool.and_eq_true, Nat.ble_eq] at hp
 obtain ⟨hp1, hp2⟩ := hp
 unfold most at hp1 hp2
 obtain ⟨hlen, hget⟩ := mapO_get hl
 clear h hd
 refine ⟨rfl, afun_mk rfl ?_⟩
 unfold a_ref01_Join r_ref01_Join
 simp only [↓amD, amU, simprocAttr, zipEnv]
 refine kLoop_inv (fun k env rows => ∃ (i : Nat) (x : D), k = l.length - i ∧ i ≤ l.length ∧ has env [(6, .lst .ref l e), (3, x), (7, .raw (it l.length)), (8, .raw (it i))] ∧ Own (.leaf u8s) x rows (bs (ls.take i).flatten)) ?_ l.length ⟨0, _, by simp, by omega, ?_, .inl ⟨by simp [bs], rfl⟩⟩
 ·rintro k env rows ⟨i, x, rfl, hi, hh, how⟩ R hR
  simp only [has] at hh
  obtain ⟨h6, h3, h7, h8, -⟩ := hh
  simp only [↓amD, amU, simprocAttr, zipEnv, h6, h3, h7, h8]
  by_cases hlt : i < l.length
  ·have hltI : ((i : Int) < (l.length : Int)) = True := eq_true (by omega)
   have hlt2 : i < ls.length := by omega
   have hw : wz ((i : Int) + 1) = ((i + 1 : Nat) : Int) := by rw [wz_id (by omega)]; omega
   have hli : l[i]? = some l[i] := List.getElem?_eq_getElem hlt
   have hb := rdBs_some (hget i _ _ hli (List.getElem?_eq_getElem hlt2))
   have h0i : ((0 : Int) ≤ (i : Int)) = True := eq_true (by omega)
   have hfit : D.fits l[i] .ref = true := by rcases hb with ⟨h, _⟩ | ⟨e, h⟩ <;> rw [h] <;> rfl
   have hsrc : ∀ rows, srcOf rows (.leaf (.int .u8)) l[i] = some (bs ls[i]) := by
    intro rows
    rcases hb with ⟨h, h2⟩ | ⟨e, h⟩
    ·rw [h, h2]; rfl
    ·rw [h]; simp [srcOf, Am.sshape, Am.elems]
   simp only [↓amD, amU, simprocAttr, zipEnv, hltI, decide_true, h6, h3, h7, h8, hli, h0i, hfit, hsrc, hb.slen, bs_len]
   have e1 : (ls.take (i + 1)).flatten = (ls.take i).flatten ++ ls[i] := by
    rw [List.take_succ_eq_append_getElem hlt2, List.flatten_append, List.flatten_cons, List.flatten_nil, List.append_nil]
   have e2 : ((ls.take (i + 1)).flatten).length ≤ ls.flatten.length := by
    have : ls = ls.take (i + 1) ++ ls.drop (i + 1) := (List.take_append_drop _ _).symm
    calc ((ls.take (i + 1)).flatten).length ≤ ((ls.take (i + 1) ++ ls.drop (i + 1)).flatten).length := by simp only [List.flatten_append, List.length_append]; omega
     _ = ls.flatten.length := by rw [← this]
   have e3 : ((ls.take (i + 1)).flatten).length = ((ls.take i).flatten).length + ls[i].length := by rw [e1, List.length_append]
   refine app_own how (by rw [bs_len, bs_len]; unfold most; omega) (by rw [bs_len, bs_len]; unfold most; omega) ?_
   intro x' rows' how' _ _ _
   simp only [↓amD, amU, simprocAttr, zipEnv, h6, h3, h7, h8, hw]
   refine hR (l.length - (i + 1)) _ _ (by omega) ⟨i + 1, x', rfl, by omega, ?_, ?_⟩
   ·simp only [has, ↓amD, amU, simprocAttr, zipEnv, h6, h3, h7, h8]
   ·rw [e1, ← bs_app]; exact how'
  ·have hie : i = l.length := by omega
   have hltI : ((i : Int) < (l.length : Int)) = False := eq_false (by omega)
   simp only [↓amD, amU, simprocAttr, zipEnv, hltI, decide_false, h6, h3, h7, h8, how.nTup]
   rw [hie, ← hlen, List.take_length] at how
   exact how.expo
 ·simp only [has, ↓amD, amU, simprocAttr, zipEnv]
def valS (a : List (BitVec 8)) : BitVec 64 := a.foldl (fun n b => 256#64 * n + b.setWidth 64) 0#64
theorem kVal (rows : Rows) (k : D → Rows → Prop) (x : List (BitVec 8)) (e : Bool) (h : x.length ≤ 64) : kCall fValue rows k [.lst (.leaf (.int .u8)) (bs x) e] = k (.raw (u64 (valS x))) rows := by
 refine (kCall_val rfl (fn1_eq (rdBs_lst x e) (by unfold most; simp; omega))).trans ?_
 simp [shift, shiftRows, valS]
theorem BsIn.sub {rows : Rows} {r off len : Nat} {ex : Bool} {l : List (BitVec 8)} (h : live rows r = some ⟨.leaf u8s, bs l⟩) (hle : off + len ≤ l.length) : BsIn rows (.sl (.leaf u8s) r [] off len ex) ((l.drop off).take len) := by
 refine ⟨⟨.lst (.leaf u8s) (bs ((l.drop off).take len)) ex, ?_, .inr ⟨ex, rfl⟩⟩, fun h => by simp [hasRef] at h⟩
 simp only [Am.view]
 have : Am.elems rows (.sl (.leaf u8s) r [] off len ex) = some (bs ((l.drop off).take len)) := by simp only [Am.elems, h]; simp [bs]
 rw [this]
 have hl : (bs ((l.drop off).take len)).length = len := by simp [bs]; omega
 simp [Sh.pure, hl]
theorem live_set_ne {rows : Rows} {r r' : Nat} {x : Option Row} (h : r ≠ r') : live (rows.set r x) r' = live rows r' := by
 simp only [live, List.getElem?_set_ne h]
theorem BsIn.push {rows more : Rows} {d : D} {l : List (BitVec 8)} (h : Own (.leaf u8s) d rows (bs l)) : BsIn (rows ++ more) d l := h.push.to
theorem kCut (rows : Rows) (k : D → Rows → Prop) (d : D) (p : List (BitVec 8)) (n : Int) (h : IsBs d p) (hp : p.length ≤ 9223372036854775807) (hp2 : (p.take n.toNat).length ≤ 1099511627776) : kCall fCut rows k [d, .raw (it n)] = k (.sl (.leaf u8s) (0 + rows.length) [] 0 (p.take n.toNat).length false) (rows ++ [some ⟨.leaf u8s, bs (p.take n.toNat)⟩]) := by
 refine (kCall_val (by rcases h with ⟨rfl, -⟩ | ⟨e, rfl⟩ <;> rfl) (fn2_eq h.rd (rdI_eq n) (by rw [Bool.and_eq_true, Nat.ble_eq, Nat.ble_eq]; exact ⟨hp, hp2⟩))).trans ?_
 rfl
theorem kSame (rows : Rows) (k : D → Rows → Prop) (d e : D) (p q : List (BitVec 8)) (h : BsIn rows d p) (h' : BsIn rows e q) (hp : p.length ≤ 1099511627776) (hq : q.length ≤ 1099511627776) : kCall fSame rows k [d, e] = k (.raw (.bool (decide (p = q)))) rows := by
 refine (kCall_bs2 h h' (by simp [most, hp, hq]) rfl).trans ?_
 simp [shift, shiftRows]
theorem BsIn.own {rows : Rows} {r : Nat} {ex : Bool} {l : List (BitVec 8)} (h : live rows r = some ⟨L8, bs l⟩) (n : Nat) (hn : n = l.length) : BsIn rows (.sl L8 r [] 0 n ex) l := by
 subst hn
 exact Own.to (.inr ⟨r, ex, by rw [bs_len], h⟩)
theorem shl_or (a b i : Nat) (h : b < 2 ^ i) : a <<< i ||| b = a * 2 ^ i + b := by
 rw [← Nat.shiftLeft_add_eq_or_of_lt h, Nat.shiftLeft_eq]
theorem num4_nat (a b c d : BitVec 8) : (numS [a, b, c, d]).toNat = a.toNat * 16777216 + b.toNat * 65536 + c.toNat * 256 + d.toNat := by
 have ha := a.isLt
 have hb := b.isLt
 have hc := c.isLt
 have hd := d.isLt
 have e : (numS [a, b, c, d]).toNat = a.toNat <<< 24 ||| b.toNat <<< 16 ||| c.toNat <<< 8 ||| d.toNat := by
  simp only [numS, List.getD_cons_zero, List.getD_cons_succ, BitVec.toNat_or, BitVec.toNat_shiftLeft, BitVec.toNat_setWidth, Nat.shiftLeft_eq]
  rw [Nat.mod_eq_of_lt (a := a.toNat % 2 ^ 32 * 2 ^ 24) (by omega), Nat.mod_eq_of_lt (a := b.toNat % 2 ^ 32 * 2 ^ 16) (by omega), Nat.mod_eq_of_lt (a := c.toNat % 2 ^ 32 * 2 ^ 8) (by omega),
   Nat.mod_eq_of_lt (a := a.toNat) (by omega), Nat.mod_eq_of_lt (a := b.toNat) (by omega), Nat.mod_eq_of_lt (a := c.toNat) (by omega), Nat.mod_eq_of_lt (a := d.toNat) (by omega)]
 rw [e, Nat.or_assoc, Nat.or_assoc, shl_or c.toNat d.toNat 8 (by omega), shl_or b.toNat _ 16 (by omega), shl_or a.toNat _ 24 (by omega)]
 omega
theorem val4_nat (a b c d : BitVec 8) : (valS [a, b, c, d]).toNat = a.toNat * 16777216 + b.toNat * 65536 + c.toNat * 256 + d.toNat := by
 have ha := a.isLt
 have hb := b.isLt
 have hc := c.isLt
 have hd := d.isLt
 simp only [valS, List.foldl_cons, List.foldl_nil, BitVec.toNat_add, BitVec.toNat_mul, BitVec.toNat_setWidth, BitVec.toNat_ofNat]
 omega
theorem val_num (a b c d : BitVec 8) : (valS [a, b, c, d]).setWidth 32 = numS [a, b, c, d] := by
 apply BitVec.eq_of_toNat_eq
 rw [BitVec.toNat_setWidth, val4_nat, num4_nat]
 have ha := a.isLt
 have hb := b.isLt
 have hc := c.isLt
 have hd := d.isLt
 omega
theorem numS_take (p : List (BitVec 8)) (n : Nat) (h : 4 ≤ n) : numS (p.take n) = numS p := by
 unfold numS
 simp only [List.getD_eq_getElem?_getD]
 rw [List.getElem?_take_of_lt (by omega), List.getElem?_take_of_lt (by omega), List.getElem?_take_of_lt (by omega), List.getElem?_take_of_lt (by omega)]
def ub (l : List (BitVec 8)) : List UInt8 := l.map fun b => UInt8.ofNat b.toNat
theorem byte_bs (l : List (BitVec 8)) : mapO toByte (bs l) = some (ub l) := by
 induction l with
 | nil => rfl
 | cons a l ih =>
  have h1 : toByte (.raw (u8 a)) = some (UInt8.ofNat a.toNat) := by
   simp only [u8, toByte, Int.toNat_natCast]
  simp only [bs, List.map_cons, mapO, h1] at ih ⊢
  rw [ih]
  rfl
theorem ub_inj (a b : List (BitVec 8)) : ub a = ub b ↔ a = b := by
 constructor
 ·intro h
  refine (List.map_inj_right fun x y hxy => ?_).1 h
  have h2 := congrArg UInt8.toNat hxy
  have hx := x.isLt
  have hy := y.isLt
  rw [UInt8.toNat_ofNat', UInt8.toNat_ofNat'] at h2
  exact BitVec.eq_of_toNat_eq (by omega)
 ·rintro rfl; rfl
theorem ub_beq (a b : List (BitVec 8)) : (ub a == ub b) = decide (a = b) := by
 by_cases h : a = b
 ·subst h; simp
 ·have : ub a ≠ ub b := fun e => h ((ub_inj a b).1 e)
  simp [h, this]
end Job
end Go.Am
