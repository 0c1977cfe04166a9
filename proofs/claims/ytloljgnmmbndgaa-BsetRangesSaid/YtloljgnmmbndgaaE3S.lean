/-
  THE RULES OF SIMPLIFICATION, in bundles.
-/
import Derived.Test.YtloljgnmmbndgaaE3V
namespace Go.Den

theorem syA : type_of% @codeR_skip ∧ type_of% @codeR_ret ∧ type_of% @codeR_exit ∧ type_of% @codeR_ops ∧ type_of% @codeR_seq ∧ type_of% @codeR_block ∧ type_of% @codeR_loop ∧ type_of% @codeR_cond ∧ type_of% @condC_true ∧ type_of% @condC_false ∧ type_of% @seqK_normal ∧ type_of% @seqK_ret ∧ type_of% @seqK_exit ∧ type_of% @blockK_normal ∧ type_of% @blockK_ret ∧ type_of% @blockK_same ∧ type_of% @blockK_ne ∧ type_of% @round_exit :=
  ⟨@codeR_skip, @codeR_ret, @codeR_exit, @codeR_ops, @codeR_seq, @codeR_block, @codeR_loop, @codeR_cond, @condC_true, @condC_false, @seqK_normal, @seqK_ret, @seqK_exit, @blockK_normal, @blockK_ret, @blockK_same, @blockK_ne, @round_exit⟩

theorem syB : type_of% @round_ret ∧ type_of% @opsR_nil ∧ type_of% @opsR_ins ∧ type_of% @opsR_int2 ∧ type_of% @opsR_shift ∧ type_of% @opsR_conv ∧ type_of% @opsR_un ∧ type_of% @opsR_eqb ∧ type_of% @opsR_str2 ∧ type_of% @opsR_sidx ∧ type_of% @opsR_slen ∧ type_of% @opsR_ssl ∧ type_of% @opsR_lenS ∧ type_of% @opsR_slS ∧ type_of% @opsR_look ∧ type_of% @opsR_lenM ∧ type_of% @opsR_b2s ∧ type_of% @opsI_val :=
  ⟨@round_ret, @opsR_nil, @opsR_ins, @opsR_int2, @opsR_shift, @opsR_conv, @opsR_un, @opsR_eqb, @opsR_str2, @opsR_sidx, @opsR_slen, @opsR_ssl, @opsR_lenS, @opsR_slS, @opsR_look, @opsR_lenM, @opsR_b2s, @opsI_val⟩

theorem syC : type_of% @opsI_valO ∧ type_of% @opsI_new ∧ type_of% @opsI_eff ∧ type_of% @opsI_call ∧ type_of% @evl_tmp ∧ type_of% @evl_const ∧ type_of% @evls_nil ∧ type_of% @evls_cons ∧ type_of% @SE_same ∧ type_of% @SE_ne ∧ type_of% @SE_put ∧ type_of% @SE_put_none ∧ type_of% @int2_add ∧ type_of% @int2_sub ∧ type_of% @int2_mul ∧ type_of% @int2_quo ∧ type_of% @int2_rem ∧ type_of% @int2_eql :=
  ⟨@opsI_valO, @opsI_new, @opsI_eff, @opsI_call, @evl_tmp, @evl_const, @evls_nil, @evls_cons, @SE_same, @SE_ne, @SE_put, @SE_put_none, @int2_add, @int2_sub, @int2_mul, @int2_quo, @int2_rem, @int2_eql⟩

theorem syD : type_of% @int2_neq ∧ type_of% @int2_lss ∧ type_of% @int2_leq ∧ type_of% @int2_gtr ∧ type_of% @int2_geq ∧ type_of% @int2_and ∧ type_of% @int2_or ∧ type_of% @int2_xor ∧ type_of% @shift_shl ∧ type_of% @shift_shr ∧ type_of% @conv_int ∧ type_of% @un_not ∧ type_of% @un_neg ∧ type_of% @eqb_eq ∧ type_of% @eqb_ne ∧ type_of% @slen_str ∧ type_of% @isJK_int ∧ type_of% @isJK_bool :=
  ⟨@int2_neq, @int2_lss, @int2_leq, @int2_gtr, @int2_geq, @int2_and, @int2_or, @int2_xor, @shift_shl, @shift_shr, @conv_int, @un_not, @un_neg, @eqb_eq, @eqb_ne, @slen_str, @isJK_int, @isJK_bool⟩

theorem syE : type_of% @isJK_string ∧ type_of% @isJK_agg ∧ type_of% @isJK_ptr ∧ type_of% @isJK_slice ∧ type_of% @isJK_FL ∧ type_of% @isJK_FO ∧ type_of% @cells_agg ∧ type_of% @cells_int ∧ type_of% @cells_bool ∧ type_of% @cells_string ∧ type_of% @cells_slice ∧ type_of% @cells_func ∧ type_of% @cells_ptr ∧ type_of% @oneCell_int ∧ type_of% @oneCell_bool ∧ type_of% @oneCell_string ∧ type_of% @oneCell_slice ∧ type_of% @oneCell_ptr :=
  ⟨@isJK_string, @isJK_agg, @isJK_ptr, @isJK_slice, @isJK_FL, @isJK_FO, @cells_agg, @cells_int, @cells_bool, @cells_string, @cells_slice, @cells_func, @cells_ptr, @oneCell_int, @oneCell_bool, @oneCell_string, @oneCell_slice, @oneCell_ptr⟩

theorem syF : type_of% @oneCell_FL ∧ type_of% @oneCell_FO ∧ type_of% @noRefs_int ∧ type_of% @noRefs_bool ∧ type_of% @noRefs_string ∧ type_of% @noRefs_FL ∧ type_of% @noRefsL_nil ∧ type_of% @noRefsL_cons ∧ type_of% @load1_HP ∧ type_of% @load1X_X ∧ type_of% @loadN_HP ∧ type_of% @loadNX_X ∧ type_of% @store_HP ∧ type_of% @storeX_X ∧ type_of% @exact_X ∧ type_of% @asNat_int ∧ type_of% @cond_true.{1} ∧ type_of% @cond_false.{1} :=
  ⟨@oneCell_FL, @oneCell_FO, @noRefs_int, @noRefs_bool, @noRefs_string, @noRefs_FL, @noRefsL_nil, @noRefsL_cons, @load1_HP, @load1X_X, @loadN_HP, @loadNX_X, @store_HP, @storeX_X, @exact_X, @asNat_int, @cond_true.{1}, @cond_false.{1}⟩

theorem syG : type_of% @nble ∧ type_of% @nblt ∧ type_of% @nbeq ∧ type_of% @decide_eq_true_eq ∧ type_of% @wrap_i64 ∧ type_of% @wrap_u8 ∧ type_of% @wrap_u64 ∧ type_of% @Int.tdiv_eq_ediv_of_nonneg ∧ type_of% @Int.tmod_eq_emod_of_nonneg ∧ type_of% @List.nil_append.{0} ∧ type_of% @List.cons_append.{0} ∧ type_of% @List.append_assoc.{0} ∧ type_of% @List.length_cons.{0} ∧ type_of% @List.length_nil.{0} ∧ type_of% @List.getElem?_cons_zero.{0} ∧ type_of% @List.getElem?_cons_succ.{0} ∧ type_of% @List.set_cons_zero.{0} ∧ type_of% @List.set_cons_succ.{0} :=
  ⟨@nble, @nblt, @nbeq, @decide_eq_true_eq, @wrap_i64, @wrap_u8, @wrap_u64, @Int.tdiv_eq_ediv_of_nonneg, @Int.tmod_eq_emod_of_nonneg, @List.nil_append.{0}, @List.cons_append.{0}, @List.append_assoc.{0}, @List.length_cons.{0}, @List.length_nil.{0}, @List.getElem?_cons_zero.{0}, @List.getElem?_cons_succ.{0}, @List.set_cons_zero.{0}, @List.set_cons_succ.{0}⟩

theorem syH : type_of% @Nat.zero_add ∧ type_of% @Nat.add_zero ∧ type_of% @Bool.true_and ∧ type_of% @Bool.and_true ∧ type_of% @Bool.and_self ∧ type_of% @Bool.not_false ∧ type_of% @Bool.not_true ∧ type_of% @Int.toNat_natCast ∧ type_of% @HP_n ∧ type_of% @List.drop_zero.{0} ∧ type_of% @List.drop_succ_cons.{0} ∧ type_of% @List.take_zero.{0} ∧ type_of% @List.take_succ_cons.{0} ∧ type_of% @bif_pos ∧ type_of% @bif_neg ∧ type_of% @Nat.add_eq ∧ type_of% @Nat.mul_eq ∧ type_of% @Nat.mul_one :=
  ⟨@Nat.zero_add, @Nat.add_zero, @Bool.true_and, @Bool.and_true, @Bool.and_self, @Bool.not_false, @Bool.not_true, @Int.toNat_natCast, @HP_n, @List.drop_zero.{0}, @List.drop_succ_cons.{0}, @List.take_zero.{0}, @List.take_succ_cons.{0}, @bif_pos, @bif_neg, @Nat.add_eq, @Nat.mul_eq, @Nat.mul_one⟩

theorem syI : type_of% @condC_pos ∧ type_of% @condC_neg ∧ type_of% @SE_get0 ∧ type_of% @arr_toList ∧ type_of% @arr_size ∧ type_of% @slots_all ∧ type_of% @resR_nil ∧ type_of% @resR_cons ∧ type_of% @resC_some ∧ type_of% @resA_tmp ∧ type_of% @resA_cell1 ∧ type_of% @resA_cellN ∧ type_of% @resV_val ∧ type_of% @resV_valO ∧ type_of% @load1F_FP ∧ type_of% @loadNF_FP ∧ type_of% @len_FL ∧ type_of% @len_FO :=
  ⟨@condC_pos, @condC_neg, @SE_get0, @arr_toList, @arr_size, @slots_all, @resR_nil, @resR_cons, @resC_some, @resA_tmp, @resA_cell1, @resA_cellN, @resV_val, @resV_valO, @load1F_FP, @loadNF_FP, @len_FL, @len_FO⟩

theorem syJ : type_of% @len_slice ∧ type_of% @iaddrS_FL ∧ type_of% @iaddrS_FO ∧ type_of% @codeR_draw ∧ type_of% @opsD_ins ∧ type_of% @opsD_int2 ∧ type_of% @opsD_conv ∧ type_of% @opsD_un ∧ type_of% @opsD_str2 ∧ type_of% @opsD_sidx ∧ type_of% @opsD_slen ∧ type_of% @opsD_ssl ∧ type_of% @opsD_lenS ∧ type_of% @opsD_slS ∧ type_of% @opsD_eqc ∧ type_of% @opsD_nil ∧ type_of% @opsDI_val ∧ type_of% @opsDI_valO :=
  ⟨@len_slice, @iaddrS_FL, @iaddrS_FO, @codeR_draw, @opsD_ins, @opsD_int2, @opsD_conv, @opsD_un, @opsD_str2, @opsD_sidx, @opsD_slen, @opsD_ssl, @opsD_lenS, @opsD_slS, @opsD_eqc, @opsD_nil, @opsDI_val, @opsDI_valO⟩

theorem syK : type_of% @opsDI_new ∧ type_of% @opsDI_eff ∧ type_of% @opsDI_call ∧ type_of% @fillR_nil ∧ type_of% @fillRes_some ∧ type_of% @buildRes_some ∧ type_of% @opsR_eqc ∧ type_of% @opsR_mm ∧ type_of% @List.map_cons.{0, 0} ∧ type_of% @List.map_nil.{0, 0} ∧ type_of% @get_app ∧ type_of% @get_app0 ∧ type_of% @set_app ∧ type_of% @set_app0 ∧ type_of% @List.length_append.{0} ∧ type_of% @idx1_agg ∧ type_of% @fldN_agg ∧ type_of% @idxN_agg :=
  ⟨@opsDI_new, @opsDI_eff, @opsDI_call, @fillR_nil, @fillRes_some, @buildRes_some, @opsR_eqc, @opsR_mm, @List.map_cons.{0, 0}, @List.map_nil.{0, 0}, @get_app, @get_app0, @set_app, @set_app0, @List.length_append.{0}, @idx1_agg, @fldN_agg, @idxN_agg⟩

theorem syL : type_of% @fld1_agg ∧ type_of% @ext_tuple ∧ type_of% @pick_sym ∧ type_of% @faddr_ptr ∧ type_of% @faddr_FP ∧ type_of% @iaddrA_ptr ∧ type_of% @iaddrA_FP ∧ type_of% @opsR_guard ∧ type_of% @opsGd_bool ∧ type_of% @ite_val ∧ type_of% @valO_some ∧ type_of% @ite_and ∧ type_of% @ite_or ∧ type_of% @Bool.decide_eq_true ∧ type_of% @Bool.decide_eq_false ∧ type_of% @if_true.{1} ∧ type_of% @if_false.{1} ∧ type_of% @str2_eql :=
  ⟨@fld1_agg, @ext_tuple, @pick_sym, @faddr_ptr, @faddr_FP, @iaddrA_ptr, @iaddrA_FP, @opsR_guard, @opsGd_bool, @ite_val, @valO_some, @ite_and, @ite_or, @Bool.decide_eq_true, @Bool.decide_eq_false, @if_true.{1}, @if_false.{1}, @str2_eql⟩

theorem syM : type_of% @str2_neq ∧ type_of% @str2_add ∧ type_of% @sidx_str ∧ type_of% @ssl_both ∧ type_of% @ssl_hi ∧ type_of% @ssl_lo ∧ type_of% @Option.map_some.{0, 0} ∧ type_of% @Option.map_none.{0, 0} ∧ type_of% @eq_self.{1} ∧ type_of% @decide_true ∧ type_of% @decide_false ∧ type_of% @opsD_guard ∧ type_of% @opsD_eqb ∧ type_of% @opsD_mm ∧ type_of% @opsD_shift ∧ type_of% @opsD_look ∧ type_of% @opsD_lenM ∧ type_of% @opsD_b2s :=
  ⟨@str2_neq, @str2_add, @sidx_str, @ssl_both, @ssl_hi, @ssl_lo, @Option.map_some.{0, 0}, @Option.map_none.{0, 0}, @eq_self.{1}, @decide_true, @decide_false, @opsD_guard, @opsD_eqb, @opsD_mm, @opsD_shift, @opsD_look, @opsD_lenM, @opsD_b2s⟩

theorem syN : type_of% @look_HP ∧ type_of% @lookX_S ∧ type_of% @okd_true ∧ type_of% @okd_false ∧ type_of% @upd_HP ∧ type_of% @behind_nil ∧ type_of% @behindW_nil ∧ type_of% @iaddrS_slice ∧ type_of% @okV_some ∧ type_of% @okV_none ∧ type_of% @opsDG_do ∧ type_of% @opsDG_skip ∧ type_of% @gselV_tt ∧ type_of% @gselV_tf ∧ type_of% @gselV_ft ∧ type_of% @gselV_ff ∧ type_of% @List.all_cons.{0} ∧ type_of% @List.all_nil.{0} :=
  ⟨@look_HP, @lookX_S, @okd_true, @okd_false, @upd_HP, @behind_nil, @behindW_nil, @iaddrS_slice, @okV_some, @okV_none, @opsDG_do, @opsDG_skip, @gselV_tt, @gselV_tf, @gselV_ft, @gselV_ff, @List.all_cons.{0}, @List.all_nil.{0}⟩

end Go.Den
