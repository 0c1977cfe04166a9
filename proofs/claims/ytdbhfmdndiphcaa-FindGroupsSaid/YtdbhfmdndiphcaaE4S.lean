/-
  THE RULES OF SIMPLIFICATION, in bundles.
-/
import Derived.Test.YtdbhfmdndiphcaaE4W
namespace Go.Den

theorem sy0 : type_of% @codeR_skip ∧ type_of% @codeR_ret ∧ type_of% @codeR_exit ∧ type_of% @codeR_ops ∧ type_of% @codeR_seq ∧ type_of% @codeR_block ∧ type_of% @codeR_cond ∧ type_of% @condC_true ∧ type_of% @condC_false ∧ type_of% @seqK_normal ∧ type_of% @seqK_ret ∧ type_of% @seqK_exit ∧ type_of% @blockK_normal ∧ type_of% @blockK_ret ∧ type_of% @blockK_same ∧ type_of% @blockK_ne ∧ type_of% @opsR_nil ∧ type_of% @opsR_ins :=
  ⟨@codeR_skip, @codeR_ret, @codeR_exit, @codeR_ops, @codeR_seq, @codeR_block, @codeR_cond, @condC_true, @condC_false, @seqK_normal, @seqK_ret, @seqK_exit, @blockK_normal, @blockK_ret, @blockK_same, @blockK_ne, @opsR_nil, @opsR_ins⟩

theorem sy1 : type_of% @opsR_int2 ∧ type_of% @opsR_shift ∧ type_of% @opsR_conv ∧ type_of% @opsR_un ∧ type_of% @opsR_eqb ∧ type_of% @opsR_str2 ∧ type_of% @opsR_sidx ∧ type_of% @opsR_slen ∧ type_of% @opsR_ssl ∧ type_of% @opsR_lenS ∧ type_of% @opsR_slS ∧ type_of% @opsR_look ∧ type_of% @opsR_lenM ∧ type_of% @opsR_b2s ∧ type_of% @opsI_val ∧ type_of% @opsI_valO ∧ type_of% @opsI_new ∧ type_of% @opsI_eff :=
  ⟨@opsR_int2, @opsR_shift, @opsR_conv, @opsR_un, @opsR_eqb, @opsR_str2, @opsR_sidx, @opsR_slen, @opsR_ssl, @opsR_lenS, @opsR_slS, @opsR_look, @opsR_lenM, @opsR_b2s, @opsI_val, @opsI_valO, @opsI_new, @opsI_eff⟩

theorem sy2 : type_of% @opsI_call ∧ type_of% @evl_tmp ∧ type_of% @evl_const ∧ type_of% @evls_nil ∧ type_of% @evls_cons ∧ type_of% @SE_put ∧ type_of% @SE_put_none ∧ type_of% @int2_add ∧ type_of% @int2_sub ∧ type_of% @int2_mul ∧ type_of% @int2_quo ∧ type_of% @int2_rem ∧ type_of% @int2_eql ∧ type_of% @int2_neq ∧ type_of% @int2_lss ∧ type_of% @int2_leq ∧ type_of% @int2_gtr ∧ type_of% @int2_geq :=
  ⟨@opsI_call, @evl_tmp, @evl_const, @evls_nil, @evls_cons, @SE_put, @SE_put_none, @int2_add, @int2_sub, @int2_mul, @int2_quo, @int2_rem, @int2_eql, @int2_neq, @int2_lss, @int2_leq, @int2_gtr, @int2_geq⟩

theorem sy3 : type_of% @int2_and ∧ type_of% @int2_or ∧ type_of% @int2_xor ∧ type_of% @shift_shl ∧ type_of% @shift_shr ∧ type_of% @conv_int ∧ type_of% @un_not ∧ type_of% @un_neg ∧ type_of% @eqb_eq ∧ type_of% @eqb_ne ∧ type_of% @slen_str ∧ type_of% @isJK_int ∧ type_of% @isJK_bool ∧ type_of% @isJK_string ∧ type_of% @isJK_agg ∧ type_of% @isJK_ptr ∧ type_of% @isJK_slice ∧ type_of% @isJK_FL :=
  ⟨@int2_and, @int2_or, @int2_xor, @shift_shl, @shift_shr, @conv_int, @un_not, @un_neg, @eqb_eq, @eqb_ne, @slen_str, @isJK_int, @isJK_bool, @isJK_string, @isJK_agg, @isJK_ptr, @isJK_slice, @isJK_FL⟩

theorem sy4 : type_of% @isJK_FO ∧ type_of% @cells_agg ∧ type_of% @cells_int ∧ type_of% @cells_bool ∧ type_of% @cells_string ∧ type_of% @cells_slice ∧ type_of% @cells_func ∧ type_of% @cells_ptr ∧ type_of% @oneCell_int ∧ type_of% @oneCell_bool ∧ type_of% @oneCell_string ∧ type_of% @oneCell_slice ∧ type_of% @oneCell_ptr ∧ type_of% @oneCell_FL ∧ type_of% @oneCell_FO ∧ type_of% @noRefs_int ∧ type_of% @noRefs_bool ∧ type_of% @noRefs_string :=
  ⟨@isJK_FO, @cells_agg, @cells_int, @cells_bool, @cells_string, @cells_slice, @cells_func, @cells_ptr, @oneCell_int, @oneCell_bool, @oneCell_string, @oneCell_slice, @oneCell_ptr, @oneCell_FL, @oneCell_FO, @noRefs_int, @noRefs_bool, @noRefs_string⟩

theorem sy5 : type_of% @noRefs_FL ∧ type_of% @noRefsL_nil ∧ type_of% @load1_HP ∧ type_of% @load1X_X ∧ type_of% @loadN_HP ∧ type_of% @loadNX_X ∧ type_of% @store_HP ∧ type_of% @storeX_X ∧ type_of% @exact_X ∧ type_of% @asNat_int ∧ type_of% @cond_true.{1} ∧ type_of% @cond_false.{1} ∧ type_of% @nble ∧ type_of% @nblt ∧ type_of% @nbeq ∧ type_of% @decide_eq_true_eq ∧ type_of% @wrap_i64 ∧ type_of% @wrap_u8 :=
  ⟨@noRefs_FL, @noRefsL_nil, @load1_HP, @load1X_X, @loadN_HP, @loadNX_X, @store_HP, @storeX_X, @exact_X, @asNat_int, @cond_true.{1}, @cond_false.{1}, @nble, @nblt, @nbeq, @decide_eq_true_eq, @wrap_i64, @wrap_u8⟩

theorem sy6 : type_of% @wrap_u64 ∧ type_of% @Int.tdiv_eq_ediv_of_nonneg ∧ type_of% @Int.tmod_eq_emod_of_nonneg ∧ type_of% @List.nil_append.{0} ∧ type_of% @List.cons_append.{0} ∧ type_of% @List.append_assoc.{0} ∧ type_of% @List.length_cons.{0} ∧ type_of% @List.length_nil.{0} ∧ type_of% @List.getElem?_cons_zero.{0} ∧ type_of% @List.getElem?_cons_succ.{0} ∧ type_of% @List.set_cons_zero.{0} ∧ type_of% @List.set_cons_succ.{0} ∧ type_of% @Nat.zero_add ∧ type_of% @Nat.add_zero ∧ type_of% @Bool.true_and ∧ type_of% @Bool.and_true ∧ type_of% @Bool.and_self ∧ type_of% @Bool.not_false :=
  ⟨@wrap_u64, @Int.tdiv_eq_ediv_of_nonneg, @Int.tmod_eq_emod_of_nonneg, @List.nil_append.{0}, @List.cons_append.{0}, @List.append_assoc.{0}, @List.length_cons.{0}, @List.length_nil.{0}, @List.getElem?_cons_zero.{0}, @List.getElem?_cons_succ.{0}, @List.set_cons_zero.{0}, @List.set_cons_succ.{0}, @Nat.zero_add, @Nat.add_zero, @Bool.true_and, @Bool.and_true, @Bool.and_self, @Bool.not_false⟩

theorem sy7 : type_of% @Bool.not_true ∧ type_of% @Int.toNat_natCast ∧ type_of% @HP_n ∧ type_of% @List.drop_zero.{0} ∧ type_of% @List.drop_succ_cons.{0} ∧ type_of% @List.take_zero.{0} ∧ type_of% @List.take_succ_cons.{0} ∧ type_of% @bif_pos ∧ type_of% @bif_neg ∧ type_of% @Nat.add_eq ∧ type_of% @Nat.mul_eq ∧ type_of% @Nat.mul_one ∧ type_of% @condC_pos ∧ type_of% @condC_neg ∧ type_of% @arr_toList ∧ type_of% @arr_size ∧ type_of% @slots_all ∧ type_of% @resR_nil :=
  ⟨@Bool.not_true, @Int.toNat_natCast, @HP_n, @List.drop_zero.{0}, @List.drop_succ_cons.{0}, @List.take_zero.{0}, @List.take_succ_cons.{0}, @bif_pos, @bif_neg, @Nat.add_eq, @Nat.mul_eq, @Nat.mul_one, @condC_pos, @condC_neg, @arr_toList, @arr_size, @slots_all, @resR_nil⟩

theorem sy8 : type_of% @resR_cons ∧ type_of% @resC_some ∧ type_of% @resA_tmp ∧ type_of% @resA_cell1 ∧ type_of% @resA_cellN ∧ type_of% @resV_val ∧ type_of% @resV_valO ∧ type_of% @load1F_FP ∧ type_of% @loadNF_FP ∧ type_of% @len_FL ∧ type_of% @len_FO ∧ type_of% @len_slice ∧ type_of% @iaddrS_FL ∧ type_of% @iaddrS_FO ∧ type_of% @codeR_draw ∧ type_of% @opsD_ins ∧ type_of% @opsD_int2 ∧ type_of% @opsD_conv :=
  ⟨@resR_cons, @resC_some, @resA_tmp, @resA_cell1, @resA_cellN, @resV_val, @resV_valO, @load1F_FP, @loadNF_FP, @len_FL, @len_FO, @len_slice, @iaddrS_FL, @iaddrS_FO, @codeR_draw, @opsD_ins, @opsD_int2, @opsD_conv⟩

theorem sy9 : type_of% @opsD_un ∧ type_of% @opsD_str2 ∧ type_of% @opsD_sidx ∧ type_of% @opsD_slen ∧ type_of% @opsD_ssl ∧ type_of% @opsD_lenS ∧ type_of% @opsD_slS ∧ type_of% @opsD_eqc ∧ type_of% @opsD_nil ∧ type_of% @opsDI_val ∧ type_of% @opsDI_valO ∧ type_of% @opsDI_new ∧ type_of% @opsDI_eff ∧ type_of% @opsDI_call ∧ type_of% @fillR_nil ∧ type_of% @fillRes_some ∧ type_of% @buildRes_some ∧ type_of% @opsR_eqc :=
  ⟨@opsD_un, @opsD_str2, @opsD_sidx, @opsD_slen, @opsD_ssl, @opsD_lenS, @opsD_slS, @opsD_eqc, @opsD_nil, @opsDI_val, @opsDI_valO, @opsDI_new, @opsDI_eff, @opsDI_call, @fillR_nil, @fillRes_some, @buildRes_some, @opsR_eqc⟩

theorem sy10 : type_of% @opsR_mm ∧ type_of% @List.map_cons.{0, 0} ∧ type_of% @List.map_nil.{0, 0} ∧ type_of% @get_app ∧ type_of% @get_app0 ∧ type_of% @set_app ∧ type_of% @set_app0 ∧ type_of% @List.length_append.{0} ∧ type_of% @idx1_agg ∧ type_of% @fldN_agg ∧ type_of% @idxN_agg ∧ type_of% @fld1_agg ∧ type_of% @ext_tuple ∧ type_of% @faddr_ptr ∧ type_of% @faddr_FP ∧ type_of% @iaddrA_ptr ∧ type_of% @iaddrA_FP ∧ type_of% @opsR_guard :=
  ⟨@opsR_mm, @List.map_cons.{0, 0}, @List.map_nil.{0, 0}, @get_app, @get_app0, @set_app, @set_app0, @List.length_append.{0}, @idx1_agg, @fldN_agg, @idxN_agg, @fld1_agg, @ext_tuple, @faddr_ptr, @faddr_FP, @iaddrA_ptr, @iaddrA_FP, @opsR_guard⟩

theorem sy11 : type_of% @valO_some ∧ type_of% @Bool.decide_eq_true ∧ type_of% @Bool.decide_eq_false ∧ type_of% @if_true.{1} ∧ type_of% @if_false.{1} ∧ type_of% @str2_eql ∧ type_of% @str2_neq ∧ type_of% @str2_add ∧ type_of% @sidx_str ∧ type_of% @ssl_both ∧ type_of% @ssl_hi ∧ type_of% @ssl_lo ∧ type_of% @Option.map_some.{0, 0} ∧ type_of% @Option.map_none.{0, 0} ∧ type_of% @eq_self.{1} ∧ type_of% @decide_true ∧ type_of% @decide_false ∧ type_of% @opsD_guard :=
  ⟨@valO_some, @Bool.decide_eq_true, @Bool.decide_eq_false, @if_true.{1}, @if_false.{1}, @str2_eql, @str2_neq, @str2_add, @sidx_str, @ssl_both, @ssl_hi, @ssl_lo, @Option.map_some.{0, 0}, @Option.map_none.{0, 0}, @eq_self.{1}, @decide_true, @decide_false, @opsD_guard⟩

theorem sy12 : type_of% @opsD_eqb ∧ type_of% @opsD_mm ∧ type_of% @opsD_shift ∧ type_of% @opsD_look ∧ type_of% @opsD_lenM ∧ type_of% @opsD_b2s ∧ type_of% @look_HP ∧ type_of% @lookX_S ∧ type_of% @okd_true ∧ type_of% @okd_false ∧ type_of% @upd_HP ∧ type_of% @iaddrS_slice ∧ type_of% @okV_some ∧ type_of% @okV_none ∧ type_of% @opsDG_do ∧ type_of% @opsDG_skip ∧ type_of% @gselV_tt ∧ type_of% @gselV_tf :=
  ⟨@opsD_eqb, @opsD_mm, @opsD_shift, @opsD_look, @opsD_lenM, @opsD_b2s, @look_HP, @lookX_S, @okd_true, @okd_false, @upd_HP, @iaddrS_slice, @okV_some, @okV_none, @opsDG_do, @opsDG_skip, @gselV_tt, @gselV_tf⟩

theorem sy13 : type_of% @gselV_ft ∧ type_of% @gselV_ff ∧ type_of% @List.all_cons.{0} ∧ type_of% @List.all_nil.{0} ∧ type_of% @codeR_loop ∧ type_of% @noRefsL_cons ∧ type_of% @atomL_nil ∧ type_of% @atomL_cons ∧ type_of% @atomL_append ∧ type_of% @atom_int ∧ type_of% @atom_bool ∧ type_of% @atom_string ∧ type_of% @atom_FL ∧ type_of% @atom_FP ∧ type_of% @atom_nilP ∧ type_of% @atom_nilF ∧ type_of% @atom_nilI ∧ type_of% @sealL_nil' :=
  ⟨@gselV_ft, @gselV_ff, @List.all_cons.{0}, @List.all_nil.{0}, @codeR_loop, @noRefsL_cons, @atomL_nil, @atomL_cons, @atomL_append, @atom_int, @atom_bool, @atom_string, @atom_FL, @atom_FP, @atom_nilP, @atom_nilF, @atom_nilI, @sealL_nil'⟩

theorem sy14 : type_of% @sealL_cons' ∧ type_of% @sealC_some ∧ type_of% @one2_some ∧ type_of% @seal_int ∧ type_of% @seal_bool ∧ type_of% @seal_string ∧ type_of% @seal_complex ∧ type_of% @seal_FL ∧ type_of% @seal_FO ∧ type_of% @seal_FP ∧ type_of% @seal_nilS ∧ type_of% @seal_noS ∧ type_of% @seal_ptr ∧ type_of% @seal_map ∧ type_of% @seal_nilF ∧ type_of% @seal_nilI ∧ type_of% @seal_agg ∧ type_of% @seal_tuple :=
  ⟨@sealL_cons', @sealC_some, @one2_some, @seal_int, @seal_bool, @seal_string, @seal_complex, @seal_FL, @seal_FO, @seal_FP, @seal_nilS, @seal_noS, @seal_ptr, @seal_map, @seal_nilF, @seal_nilI, @seal_agg, @seal_tuple⟩

theorem sy15 : type_of% @seal_func ∧ type_of% @aggO_some ∧ type_of% @tupO_some ∧ type_of% @funO_some ∧ type_of% @EJ_n ∧ type_of% @EJ_g ∧ type_of% @SE_n ∧ type_of% @SE_g ∧ type_of% @E0_n ∧ type_of% @E0_g ∧ type_of% @zipR_nil ∧ type_of% @zipR_cons ∧ type_of% @envL_SE ∧ type_of% @lvOk_nil ∧ type_of% @lvOk_cons ∧ type_of% @evs_nil ∧ type_of% @evs_cons ∧ type_of% @normA_X :=
  ⟨@seal_func, @aggO_some, @tupO_some, @funO_some, @EJ_n, @EJ_g, @SE_n, @SE_g, @E0_n, @E0_g, @zipR_nil, @zipR_cons, @envL_SE, @lvOk_nil, @lvOk_cons, @evs_nil, @evs_cons, @normA_X⟩

theorem sy16 : type_of% @cloL_nil ∧ type_of% @cloL_cons ∧ type_of% @memN_nil ∧ type_of% @memN_cons ∧ type_of% @normX_some ∧ type_of% @noDup_nil ∧ type_of% @noDup_cons ∧ type_of% @pins_nil ∧ type_of% @pins_cons ∧ type_of% @hasL_nil ∧ type_of% @hasL_cons ∧ type_of% @brefs_nil ∧ type_of% @brefs_cons ∧ type_of% @refsOk_nil ∧ type_of% @refsOk_cons ∧ type_of% @okKey_dec ∧ type_of% @renLs_nil ∧ type_of% @renLs_cons :=
  ⟨@cloL_nil, @cloL_cons, @memN_nil, @memN_cons, @normX_some, @noDup_nil, @noDup_cons, @pins_nil, @pins_cons, @hasL_nil, @hasL_cons, @brefs_nil, @brefs_cons, @refsOk_nil, @refsOk_cons, @okKey_dec, @renLs_nil, @renLs_cons⟩

theorem sy17 : type_of% @renO_some ∧ type_of% @renBX_X ∧ type_of% @renBX_map ∧ type_of% @renBX_tok ∧ type_of% @exactB_X ∧ type_of% @exactB_map ∧ type_of% @exactB_tok ∧ type_of% @refsB_X ∧ type_of% @refsB_map ∧ type_of% @refsB_tok ∧ type_of% @nm1_at ∧ type_of% @idxOf_cons ∧ type_of% @upto_0 ∧ type_of% @upto_1 ∧ type_of% @upto_2 ∧ type_of% @upto_3 ∧ type_of% @upto_4 ∧ type_of% @upto_5 :=
  ⟨@renO_some, @renBX_X, @renBX_map, @renBX_tok, @exactB_X, @exactB_map, @exactB_tok, @refsB_X, @refsB_map, @refsB_tok, @nm1_at, @idxOf_cons, @upto_0, @upto_1, @upto_2, @upto_3, @upto_4, @upto_5⟩

theorem sy18 : type_of% @upto_6 ∧ type_of% @refsL_nil ∧ type_of% @refsL_cons ∧ type_of% @refs_atom ∧ type_of% @refs_ptr ∧ type_of% @refs_nilS ∧ type_of% @refs_row ∧ type_of% @refs_row0 ∧ type_of% @refs_rowC ∧ type_of% @refs_map ∧ type_of% @refs_FO ∧ type_of% @refs_agg ∧ type_of% @refs_tuple ∧ type_of% @refs_func ∧ type_of% @refsM_nil ∧ type_of% @refsM_cons ∧ type_of% @renVL_nil ∧ type_of% @renVL_cons :=
  ⟨@upto_6, @refsL_nil, @refsL_cons, @refs_atom, @refs_ptr, @refs_nilS, @refs_row, @refs_row0, @refs_rowC, @refs_map, @refs_FO, @refs_agg, @refs_tuple, @refs_func, @refsM_nil, @refsM_cons, @renVL_nil, @renVL_cons⟩

theorem sy19 : type_of% @ren_atom ∧ type_of% @ren_ptr ∧ type_of% @renSpot_0 ∧ type_of% @ren_nilS ∧ type_of% @ren_row ∧ type_of% @ren_row0 ∧ type_of% @ren_rowC ∧ type_of% @ren_map ∧ type_of% @ren_FO ∧ type_of% @ren_agg ∧ type_of% @ren_tuple ∧ type_of% @ren_func ∧ type_of% @renM_nil ∧ type_of% @renM_cons ∧ type_of% @loopA_any ∧ type_of% @loopX_some ∧ type_of% @loopY_some ∧ type_of% @roundX_some :=
  ⟨@ren_atom, @ren_ptr, @renSpot_0, @ren_nilS, @ren_row, @ren_row0, @ren_rowC, @ren_map, @ren_FO, @ren_agg, @ren_tuple, @ren_func, @renM_nil, @renM_cons, @loopA_any, @loopX_some, @loopY_some, @roundX_some⟩

theorem sy20 : type_of% @roundY_some ∧ type_of% @round_again ∧ type_of% @round_out ∧ type_of% @round_back ∧ type_of% @retR_end ∧ type_of% @retR_fall ∧ type_of% @valK_some ∧ type_of% @valK2_some ∧ type_of% @outK_some ∧ type_of% @one_1 ∧ type_of% @one_0 ∧ type_of% @one_2 ∧ type_of% @raise_nil ∧ type_of% @raise_HP ∧ type_of% @AH0_HP ∧ type_of% @frzHP_nil ∧ type_of% @frzHP_cons ∧ type_of% @frzSet_X :=
  ⟨@roundY_some, @round_again, @round_out, @round_back, @retR_end, @retR_fall, @valK_some, @valK2_some, @outK_some, @one_1, @one_0, @one_2, @raise_nil, @raise_HP, @AH0_HP, @frzHP_nil, @frzHP_cons, @frzSet_X⟩

theorem sy21 : type_of% @callS1_some ∧ type_of% @callS2_some ∧ type_of% @callS3_live ∧ type_of% @callS3_none ∧ type_of% @callS3_pure ∧ type_of% @callS3_rows ∧ type_of% @opsK_did ∧ type_of% @opsDC_did ∧ type_of% @mergeL_nil ∧ type_of% @mergeL_cons ∧ type_of% @bk_at ∧ type_of% @getN_0 ∧ type_of% @getN_s ∧ type_of% @fzn1_agg ∧ type_of% @fzn1_int ∧ type_of% @fzn1_bool ∧ type_of% @fzn1_string ∧ type_of% @fzn1_complex :=
  ⟨@callS1_some, @callS2_some, @callS3_live, @callS3_none, @callS3_pure, @callS3_rows, @opsK_did, @opsDC_did, @mergeL_nil, @mergeL_cons, @bk_at, @getN_0, @getN_s, @fzn1_agg, @fzn1_int, @fzn1_bool, @fzn1_string, @fzn1_complex⟩

theorem sy22 : type_of% @fzn1_FL ∧ type_of% @fzn1_FP ∧ type_of% @fzn1_nilP ∧ type_of% @fzn1_nilI ∧ type_of% @frzV_tuple ∧ type_of% @frzV_agg ∧ type_of% @frzV_int ∧ type_of% @frzV_bool ∧ type_of% @frzV_string ∧ type_of% @frzV_complex ∧ type_of% @frzV_FL ∧ type_of% @frzV_FP ∧ type_of% @frzV_nilP ∧ type_of% @frzV_nilI ∧ type_of% @fl_int ∧ type_of% @fl_bool ∧ type_of% @fl_string ∧ type_of% @fl_complex :=
  ⟨@fzn1_FL, @fzn1_FP, @fzn1_nilP, @fzn1_nilI, @frzV_tuple, @frzV_agg, @frzV_int, @frzV_bool, @frzV_string, @frzV_complex, @frzV_FL, @frzV_FP, @frzV_nilP, @frzV_nilI, @fl_int, @fl_bool, @fl_string, @fl_complex⟩

theorem sy23 : type_of% @fl_FL ∧ type_of% @fl_FO ∧ type_of% @fl_ptr ∧ type_of% @fl_map ∧ type_of% @fl_agg ∧ type_of% @fl_tuple ∧ type_of% @flatL_nil ∧ type_of% @flatL_cons ∧ type_of% @frIds_cons ∧ type_of% @frIds_nil ∧ type_of% @gd_skip ∧ type_of% @gd_skip' ∧ type_of% @gd_do ∧ type_of% @gd_do' ∧ type_of% @noRefs_FO ∧ type_of% @noRefs_ptr ∧ type_of% @noRefs_slice ∧ type_of% @noRefs_map :=
  ⟨@fl_FL, @fl_FO, @fl_ptr, @fl_map, @fl_agg, @fl_tuple, @flatL_nil, @flatL_cons, @frIds_cons, @frIds_nil, @gd_skip, @gd_skip', @gd_do, @gd_do', @noRefs_FO, @noRefs_ptr, @noRefs_slice, @noRefs_map⟩

theorem sy24 : type_of% @noRefs_FP ∧ type_of% @noRefs_nilP ∧ type_of% @Option.isSome_some.{0} ∧ type_of% @Bool.or_false ∧ type_of% @Bool.false_or ∧ type_of% @Bool.or_true ∧ type_of% @Bool.true_or ∧ type_of% @Bool.and_false ∧ type_of% @Bool.false_and ∧ type_of% @List.append_nil.{0} ∧ type_of% @pick_true ∧ type_of% @pick_false ∧ type_of% @lkE_nil ∧ type_of% @lkE_cons ∧ type_of% @look_E0 ∧ type_of% @look_EJ ∧ type_of% @lkB_true ∧ type_of% @lkB_false :=
  ⟨@noRefs_FP, @noRefs_nilP, @Option.isSome_some.{0}, @Bool.or_false, @Bool.false_or, @Bool.or_true, @Bool.true_or, @Bool.and_false, @Bool.false_and, @List.append_nil.{0}, @pick_true, @pick_false, @lkE_nil, @lkE_cons, @look_E0, @look_EJ, @lkB_true, @lkB_false⟩

theorem sy25 : type_of% @lkH_true ∧ type_of% @app_FL ∧ type_of% @app_FL0 ∧ type_of% @app_FO_FL0 ∧ type_of% @app_row1 ∧ type_of% @appR_X ∧ type_of% @exactX_X ∧ type_of% @appN_nil ∧ type_of% @appN_FO ∧ type_of% @appT_tok ∧ type_of% @seal_rowP ∧ type_of% @pfX_X ∧ type_of% @rowS_X ∧ type_of% @cells_map ∧ type_of% @cells_complex ∧ type_of% @cells_nilF ∧ type_of% @isJK_map ∧ type_of% @isJK_complex :=
  ⟨@lkH_true, @app_FL, @app_FL0, @app_FO_FL0, @app_row1, @appR_X, @exactX_X, @appN_nil, @appN_FO, @appT_tok, @seal_rowP, @pfX_X, @rowS_X, @cells_map, @cells_complex, @cells_nilF, @isJK_map, @isJK_complex⟩

theorem sy26 : type_of% @isJK_nilF ∧ type_of% @isJK_FP ∧ type_of% @isJK_fun ∧ type_of% @oneCell_map ∧ type_of% @oneCell_complex ∧ type_of% @oneCell_nilF ∧ type_of% @oneCell_FP ∧ type_of% @nilc_ptr ∧ type_of% @nilc_FP ∧ type_of% @callK_none ∧ type_of% @mm_min2 ∧ type_of% @mm_max2 ∧ type_of% @mm_max3 :=
  ⟨@isJK_nilF, @isJK_FP, @isJK_fun, @oneCell_map, @oneCell_complex, @oneCell_nilF, @oneCell_FP, @nilc_ptr, @nilc_FP, @callK_none, @mm_min2, @mm_max2, @mm_max3⟩

end Go.Den
