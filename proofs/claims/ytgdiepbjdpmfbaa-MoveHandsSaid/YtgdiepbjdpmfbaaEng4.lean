/-
  Symbolic execution (part 4).
-/
import Derived.Test.YtgdiepbjdpmfbaaEng3
import Derived.Shelf.SlIterI.Sorted
import Derived.Shelf.SlIterI.Nil
/-
  Symbolic execution: the equations that evaluation uses, stated once.
-/
namespace Go.Sx
set_option linter.all false
set_option linter.unusedVariables false
set_option linter.unusedSimpArgs false
set_option linter.unusedSectionVars false
theorem eqn_beqN_eq_1 : True := by first | (have := @beqN.eq_1; trivial) | trivial
theorem eqn_beqN_eq_def : True := by first | (have := @beqN.eq_def; trivial) | trivial
theorem eqn_bleN_eq_1 : True := by first | (have := @bleN.eq_1; trivial) | trivial
theorem eqn_bleN_eq_def : True := by first | (have := @bleN.eq_def; trivial) | trivial
theorem eqn_bltN_eq_1 : True := by first | (have := @bltN.eq_1; trivial) | trivial
theorem eqn_bltN_eq_def : True := by first | (have := @bltN.eq_def; trivial) | trivial
theorem eqn_U_eq_1 : True := by first | (have := @U.eq_1; trivial) | trivial
theorem eqn_U_eq_def : True := by first | (have := @U.eq_def; trivial) | trivial
theorem eqn_Ty_T_eq_1 : True := by first | (have := @Ty.T.eq_1; trivial) | trivial
theorem eqn_Ty_T_eq_def : True := by first | (have := @Ty.T.eq_def; trivial) | trivial
theorem eqn_Ty_dflt_eq_1 : True := by first | (have := @Ty.dflt.eq_1; trivial) | trivial
theorem eqn_Ty_dflt_eq_def : True := by first | (have := @Ty.dflt.eq_def; trivial) | trivial
theorem eqn_Ty_size_eq_1 : True := by first | (have := @Ty.size.eq_1; trivial) | trivial
theorem eqn_Ty_size_eq_def : True := by first | (have := @Ty.size.eq_def; trivial) | trivial
theorem eqn_Ty_agg_eq_1 : True := by first | (have := @Ty.agg.eq_1; trivial) | trivial
theorem eqn_Ty_agg_eq_def : True := by first | (have := @Ty.agg.eq_def; trivial) | trivial
theorem eqn_KT_T_eq_1 : True := by first | (have := @KT.T.eq_1; trivial) | trivial
theorem eqn_KT_T_eq_def : True := by first | (have := @KT.T.eq_def; trivial) | trivial
theorem eqn_dec_eq_1 : True := by first | (have := @dec.eq_1; trivial) | trivial
theorem eqn_dec_eq_def : True := by first | (have := @dec.eq_def; trivial) | trivial
theorem eqn_castL_eq_1 : True := by first | (have := @castL.eq_1; trivial) | trivial
theorem eqn_castL_eq_def : True := by first | (have := @castL.eq_def; trivial) | trivial
theorem eqn_lstOf_eq_1 : True := by first | (have := @lstOf.eq_1; trivial) | trivial
theorem eqn_lstOf_eq_def : True := by first | (have := @lstOf.eq_def; trivial) | trivial
theorem eqn_enc_eq_1 : True := by first | (have := @enc.eq_1; trivial) | trivial
theorem eqn_enc_eq_def : True := by first | (have := @enc.eq_def; trivial) | trivial
theorem eqn_getA_eq_1 : True := by first | (have := @getA.eq_1; trivial) | trivial
theorem eqn_getA_eq_def : True := by first | (have := @getA.eq_def; trivial) | trivial
theorem eqn_putA_eq_1 : True := by first | (have := @putA.eq_1; trivial) | trivial
theorem eqn_putA_eq_def : True := by first | (have := @putA.eq_def; trivial) | trivial
theorem eqn_delA_eq_1 : True := by first | (have := @delA.eq_1; trivial) | trivial
theorem eqn_delA_eq_def : True := by first | (have := @delA.eq_def; trivial) | trivial
theorem eqn_getM_eq_1 : True := by first | (have := @getM.eq_1; trivial) | trivial
theorem eqn_getM_eq_def : True := by first | (have := @getM.eq_def; trivial) | trivial
theorem eqn_putM_eq_1 : True := by first | (have := @putM.eq_1; trivial) | trivial
theorem eqn_putM_eq_def : True := by first | (have := @putM.eq_def; trivial) | trivial
theorem eqn_delM_eq_1 : True := by first | (have := @delM.eq_1; trivial) | trivial
theorem eqn_delM_eq_def : True := by first | (have := @delM.eq_def; trivial) | trivial
theorem eqn_TI_isAgg_eq_1 : True := by first | (have := @TI.isAgg.eq_1; trivial) | trivial
theorem eqn_TI_isAgg_eq_def : True := by first | (have := @TI.isAgg.eq_def; trivial) | trivial
theorem eqn_look_eq_1 : True := by first | (have := @look.eq_1; trivial) | trivial
theorem eqn_look_eq_def : True := by first | (have := @look.eq_def; trivial) | trivial
theorem eqn_nth_eq_1 : True := by first | (have := @nth.eq_1; trivial) | trivial
theorem eqn_nth_eq_def : True := by first | (have := @nth.eq_def; trivial) | trivial
theorem eqn_setNth_eq_1 : True := by first | (have := @setNth.eq_1; trivial) | trivial
theorem eqn_setNth_eq_def : True := by first | (have := @setNth.eq_def; trivial) | trivial
theorem eqn_takeN_eq_1 : True := by first | (have := @takeN.eq_1; trivial) | trivial
theorem eqn_takeN_eq_def : True := by first | (have := @takeN.eq_def; trivial) | trivial
theorem eqn_cut_eq_1 : True := by first | (have := @cut.eq_1; trivial) | trivial
theorem eqn_cut_eq_def : True := by first | (have := @cut.eq_def; trivial) | trivial
theorem eqn_paste_eq_1 : True := by first | (have := @paste.eq_1; trivial) | trivial
theorem eqn_paste_eq_def : True := by first | (have := @paste.eq_def; trivial) | trivial
theorem eqn_ofLit1_eq_1 : True := by first | (have := @ofLit1.eq_1; trivial) | trivial
theorem eqn_ofLit1_eq_def : True := by first | (have := @ofLit1.eq_def; trivial) | trivial
theorem eqn_ofLit_eq_1 : True := by first | (have := @ofLit.eq_1; trivial) | trivial
theorem eqn_ofLit_eq_def : True := by first | (have := @ofLit.eq_def; trivial) | trivial
theorem eqn_evalOp_eq_1 : True := by first | (have := @evalOp.eq_1; trivial) | trivial
theorem eqn_evalOp_eq_def : True := by first | (have := @evalOp.eq_def; trivial) | trivial
theorem eqn_evalOps_eq_1 : True := by first | (have := @evalOps.eq_1; trivial) | trivial
theorem eqn_evalOps_eq_def : True := by first | (have := @evalOps.eq_def; trivial) | trivial
theorem eqn_inI64_eq_1 : True := by first | (have := @inI64.eq_1; trivial) | trivial
theorem eqn_inI64_eq_def : True := by first | (have := @inI64.eq_def; trivial) | trivial
theorem eqn_one_eq_1 : True := by first | (have := @one.eq_1; trivial) | trivial
theorem eqn_one_eq_def : True := by first | (have := @one.eq_def; trivial) | trivial
theorem eqn_pureP_eq_1 : True := by first | (have := @pureP.eq_1; trivial) | trivial
theorem eqn_pureP_eq_def : True := by first | (have := @pureP.eq_def; trivial) | trivial
theorem eqn_tt_eq_1 : True := by first | (have := @tt.eq_1; trivial) | trivial
theorem eqn_tt_eq_def : True := by first | (have := @tt.eq_def; trivial) | trivial
theorem eqn_cellsOf_eq_1 : True := by first | (have := @cellsOf.eq_1; trivial) | trivial
theorem eqn_cellsOf_eq_def : True := by first | (have := @cellsOf.eq_def; trivial) | trivial
theorem eqn_ival_eq_1 : True := by first | (have := @ival.eq_1; trivial) | trivial
theorem eqn_ival_eq_def : True := by first | (have := @ival.eq_def; trivial) | trivial
theorem eqn_ivalS_eq_1 : True := by first | (have := @ivalS.eq_1; trivial) | trivial
theorem eqn_ivalS_eq_def : True := by first | (have := @ivalS.eq_def; trivial) | trivial
theorem eqn_bval_eq_1 : True := by first | (have := @bval.eq_1; trivial) | trivial
theorem eqn_bval_eq_def : True := by first | (have := @bval.eq_def; trivial) | trivial
theorem eqn_fit_eq_1 : True := by first | (have := @fit.eq_1; trivial) | trivial
theorem eqn_fit_eq_def : True := by first | (have := @fit.eq_def; trivial) | trivial
theorem eqn_arith_eq_1 : True := by first | (have := @arith.eq_1; trivial) | trivial
theorem eqn_arith_eq_def : True := by first | (have := @arith.eq_def; trivial) | trivial
theorem eqn_inBytes_eq_1 : True := by first | (have := @inBytes.eq_1; trivial) | trivial
theorem eqn_inBytes_eq_def : True := by first | (have := @inBytes.eq_def; trivial) | trivial
theorem eqn_strBA_eq_1 : True := by first | (have := @strBA.eq_1; trivial) | trivial
theorem eqn_binop1_eq_1 : True := by first | (have := @binop1.eq_1; trivial) | trivial
theorem eqn_binop1_eq_def : True := by first | (have := @binop1.eq_def; trivial) | trivial
theorem eqn_softP_eq_1 : True := by first | (have := @softP.eq_1; trivial) | trivial
theorem eqn_softP_eq_def : True := by first | (have := @softP.eq_def; trivial) | trivial
theorem eqn_binopP_eq_1 : True := by first | (have := @binopP.eq_1; trivial) | trivial
theorem eqn_binopP_eq_def : True := by first | (have := @binopP.eq_def; trivial) | trivial
theorem eqn_unopP_eq_1 : True := by first | (have := @unopP.eq_1; trivial) | trivial
theorem eqn_unopP_eq_def : True := by first | (have := @unopP.eq_def; trivial) | trivial
theorem eqn_litNat_eq_1 : True := by first | (have := @litNat.eq_1; trivial) | trivial
theorem eqn_litNat_eq_def : True := by first | (have := @litNat.eq_def; trivial) | trivial
theorem eqn_convertP_eq_1 : True := by first | (have := @convertP.eq_1; trivial) | trivial
theorem eqn_convertP_eq_def : True := by first | (have := @convertP.eq_def; trivial) | trivial
theorem eqn_srcOk_eq_1 : True := by first | (have := @srcOk.eq_1; trivial) | trivial
theorem eqn_srcOk_eq_def : True := by first | (have := @srcOk.eq_def; trivial) | trivial
theorem eqn_pack_eq_1 : True := by first | (have := @pack.eq_1; trivial) | trivial
theorem eqn_pack_eq_def : True := by first | (have := @pack.eq_def; trivial) | trivial
theorem eqn_partOf_eq_1 : True := by first | (have := @partOf.eq_1; trivial) | trivial
theorem eqn_partOf_eq_def : True := by first | (have := @partOf.eq_def; trivial) | trivial
theorem eqn_loadP_eq_1 : True := by first | (have := @loadP.eq_1; trivial) | trivial
theorem eqn_loadP_eq_def : True := by first | (have := @loadP.eq_def; trivial) | trivial
theorem eqn_storable_eq_1 : True := by first | (have := @storable.eq_1; trivial) | trivial
theorem eqn_storable_eq_def : True := by first | (have := @storable.eq_def; trivial) | trivial
theorem eqn_storeQ_eq_1 : True := by first | (have := @storeQ.eq_1; trivial) | trivial
theorem eqn_storeQ_eq_def : True := by first | (have := @storeQ.eq_def; trivial) | trivial
theorem eqn_viewOf_eq_1 : True := by first | (have := @viewOf.eq_1; trivial) | trivial
theorem eqn_viewOf_eq_def : True := by first | (have := @viewOf.eq_def; trivial) | trivial
theorem eqn_storeP_eq_1 : True := by first | (have := @storeP.eq_1; trivial) | trivial
theorem eqn_storeP_eq_def : True := by first | (have := @storeP.eq_def; trivial) | trivial
theorem eqn_fieldP_eq_1 : True := by first | (have := @fieldP.eq_1; trivial) | trivial
theorem eqn_fieldP_eq_def : True := by first | (have := @fieldP.eq_def; trivial) | trivial
theorem eqn_indexP_eq_1 : True := by first | (have := @indexP.eq_1; trivial) | trivial
theorem eqn_indexP_eq_def : True := by first | (have := @indexP.eq_def; trivial) | trivial
theorem eqn_intArg_eq_1 : True := by first | (have := @intArg.eq_1; trivial) | trivial
theorem eqn_intArg_eq_def : True := by first | (have := @intArg.eq_def; trivial) | trivial
theorem eqn_loOf_eq_1 : True := by first | (have := @loOf.eq_1; trivial) | trivial
theorem eqn_loOf_eq_def : True := by first | (have := @loOf.eq_def; trivial) | trivial
theorem eqn_hiOf_eq_1 : True := by first | (have := @hiOf.eq_1; trivial) | trivial
theorem eqn_hiOf_eq_def : True := by first | (have := @hiOf.eq_def; trivial) | trivial
theorem eqn_isSlice_eq_1 : True := by first | (have := @isSlice.eq_1; trivial) | trivial
theorem eqn_isSlice_eq_def : True := by first | (have := @isSlice.eq_def; trivial) | trivial
theorem eqn_isZero_eq_1 : True := by first | (have := @isZero.eq_1; trivial) | trivial
theorem eqn_isZero_eq_def : True := by first | (have := @isZero.eq_def; trivial) | trivial
theorem eqn_sliceP_eq_1 : True := by first | (have := @sliceP.eq_1; trivial) | trivial
theorem eqn_sliceP_eq_def : True := by first | (have := @sliceP.eq_def; trivial) | trivial
theorem eqn_lenP_eq_1 : True := by first | (have := @lenP.eq_1; trivial) | trivial
theorem eqn_lenP_eq_def : True := by first | (have := @lenP.eq_def; trivial) | trivial
theorem eqn_maxOf_eq_1 : True := by first | (have := @maxOf.eq_1; trivial) | trivial
theorem eqn_maxOf_eq_def : True := by first | (have := @maxOf.eq_def; trivial) | trivial
theorem eqn_minmaxP_eq_1 : True := by first | (have := @minmaxP.eq_1; trivial) | trivial
theorem eqn_minmaxP_eq_def : True := by first | (have := @minmaxP.eq_def; trivial) | trivial
theorem eqn_castK_eq_1 : True := by first | (have := @castK.eq_1; trivial) | trivial
theorem eqn_castK_eq_def : True := by first | (have := @castK.eq_def; trivial) | trivial
theorem eqn_castM_eq_1 : True := by first | (have := @castM.eq_1; trivial) | trivial
theorem eqn_castM_eq_def : True := by first | (have := @castM.eq_def; trivial) | trivial
theorem eqn_srcOf_eq_1 : True := by first | (have := @srcOf.eq_1; trivial) | trivial
theorem eqn_srcOf_eq_def : True := by first | (have := @srcOf.eq_def; trivial) | trivial
theorem eqn_srcOfS_eq_1 : True := by first | (have := @srcOfS.eq_1; trivial) | trivial
theorem eqn_srcOfS_eq_def : True := by first | (have := @srcOfS.eq_def; trivial) | trivial
theorem eqn_appendOk_eq_1 : True := by first | (have := @appendOk.eq_1; trivial) | trivial
theorem eqn_appendOk_eq_def : True := by first | (have := @appendOk.eq_def; trivial) | trivial
theorem eqn_u8i_eq_1 : True := by first | (have := @u8i.eq_1; trivial) | trivial
theorem eqn_u8i_eq_def : True := by first | (have := @u8i.eq_def; trivial) | trivial
theorem eqn_Src_ids_eq_1 : True := by first | (have := @Src.ids.eq_1; trivial) | trivial
theorem eqn_Src_ids_eq_def : True := by first | (have := @Src.ids.eq_def; trivial) | trivial
theorem eqn_Src_list_eq_1 : True := by first | (have := @Src.list.eq_1; trivial) | trivial
theorem eqn_Src_list_eq_def : True := by first | (have := @Src.list.eq_def; trivial) | trivial
theorem eqn_maxRow_eq_1 : True := by first | (have := @maxRow.eq_1; trivial) | trivial
theorem eqn_maxRow_eq_def : True := by first | (have := @maxRow.eq_def; trivial) | trivial
theorem eqn_appendQ_eq_1 : True := by first | (have := @appendQ.eq_1; trivial) | trivial
theorem eqn_appendQ_eq_def : True := by first | (have := @appendQ.eq_def; trivial) | trivial
theorem eqn_appendP_eq_1 : True := by first | (have := @appendP.eq_1; trivial) | trivial
theorem eqn_appendP_eq_def : True := by first | (have := @appendP.eq_def; trivial) | trivial
theorem eqn_allocP_eq_1 : True := by first | (have := @allocP.eq_1; trivial) | trivial
theorem eqn_allocP_eq_def : True := by first | (have := @allocP.eq_def; trivial) | trivial
theorem eqn_buildCells_eq_1 : True := by first | (have := @buildCells.eq_1; trivial) | trivial
theorem eqn_buildCells_eq_def : True := by first | (have := @buildCells.eq_def; trivial) | trivial
theorem eqn_places_eq_1 : True := by first | (have := @places.eq_1; trivial) | trivial
theorem eqn_places_eq_def : True := by first | (have := @places.eq_def; trivial) | trivial
theorem eqn_buildP_eq_1 : True := by first | (have := @buildP.eq_1; trivial) | trivial
theorem eqn_buildP_eq_def : True := by first | (have := @buildP.eq_def; trivial) | trivial
theorem eqn_encAll_eq_1 : True := by first | (have := @encAll.eq_1; trivial) | trivial
theorem eqn_encAll_eq_def : True := by first | (have := @encAll.eq_def; trivial) | trivial
theorem eqn_inOrder_eq_1 : True := by first | (have := @inOrder.eq_1; trivial) | trivial
theorem eqn_inOrder_eq_def : True := by first | (have := @inOrder.eq_def; trivial) | trivial
theorem eqn_isLitV_eq_1 : True := by first | (have := @isLitV.eq_1; trivial) | trivial
theorem eqn_isLitV_eq_def : True := by first | (have := @isLitV.eq_def; trivial) | trivial
theorem eqn_buildSliceP_eq_1 : True := by first | (have := @buildSliceP.eq_1; trivial) | trivial
theorem eqn_buildSliceP_eq_def : True := by first | (have := @buildSliceP.eq_def; trivial) | trivial
theorem eqn_makeSliceP_eq_1 : True := by first | (have := @makeSliceP.eq_1; trivial) | trivial
theorem eqn_makeSliceP_eq_def : True := by first | (have := @makeSliceP.eq_def; trivial) | trivial
theorem eqn_makeMapP_eq_1 : True := by first | (have := @makeMapP.eq_1; trivial) | trivial
theorem eqn_makeMapP_eq_def : True := by first | (have := @makeMapP.eq_def; trivial) | trivial
theorem eqn_keyV_eq_1 : True := by first | (have := @keyV.eq_1; trivial) | trivial
theorem eqn_keyV_eq_def : True := by first | (have := @keyV.eq_def; trivial) | trivial
theorem eqn_elV_eq_1 : True := by first | (have := @elV.eq_1; trivial) | trivial
theorem eqn_elV_eq_def : True := by first | (have := @elV.eq_def; trivial) | trivial
theorem eqn_velt_eq_1 : True := by first | (have := @velt.eq_1; trivial) | trivial
theorem eqn_velt_eq_def : True := by first | (have := @velt.eq_def; trivial) | trivial
theorem eqn_aggV_eq_1 : True := by first | (have := @aggV.eq_1; trivial) | trivial
theorem eqn_aggV_eq_def : True := by first | (have := @aggV.eq_def; trivial) | trivial
theorem eqn_lookupP_eq_1 : True := by first | (have := @lookupP.eq_1; trivial) | trivial
theorem eqn_lookupP_eq_def : True := by first | (have := @lookupP.eq_def; trivial) | trivial
theorem eqn_mapUpdateP_eq_1 : True := by first | (have := @mapUpdateP.eq_1; trivial) | trivial
theorem eqn_mapUpdateP_eq_def : True := by first | (have := @mapUpdateP.eq_def; trivial) | trivial
theorem eqn_deleteP_eq_1 : True := by first | (have := @deleteP.eq_1; trivial) | trivial
theorem eqn_deleteP_eq_def : True := by first | (have := @deleteP.eq_def; trivial) | trivial
theorem eqn_Con_eq_1 : True := by first | (have := @Con.eq_1; trivial) | trivial
theorem eqn_Con_eq_def : True := by first | (have := @Con.eq_def; trivial) | trivial
theorem eqn_argParts_eq_1 : True := by first | (have := @argParts.eq_1; trivial) | trivial
theorem eqn_argParts_eq_def : True := by first | (have := @argParts.eq_def; trivial) | trivial
theorem eqn_evalOpt_eq_1 : True := by first | (have := @evalOpt.eq_1; trivial) | trivial
theorem eqn_evalOpt_eq_def : True := by first | (have := @evalOpt.eq_def; trivial) | trivial
theorem eqn_szOf_eq_1 : True := by first | (have := @szOf.eq_1; trivial) | trivial
theorem eqn_szOf_eq_def : True := by first | (have := @szOf.eq_def; trivial) | trivial
theorem eqn_lenOk_eq_1 : True := by first | (have := @lenOk.eq_1; trivial) | trivial
theorem eqn_lenOk_eq_def : True := by first | (have := @lenOk.eq_def; trivial) | trivial
theorem eqn_callP_eq_1 : True := by first | (have := @callP.eq_1; trivial) | trivial
theorem eqn_callP_eq_def : True := by first | (have := @callP.eq_def; trivial) | trivial
theorem eqn_PO_of_eq_1 : True := by first | (have := @PO.of.eq_1; trivial) | trivial
theorem eqn_PO_of_eq_def : True := by first | (have := @PO.of.eq_def; trivial) | trivial
theorem eqn_cellOf_eq_1 : True := by first | (have := @cellOf.eq_1; trivial) | trivial
theorem eqn_cellOf_eq_def : True := by first | (have := @cellOf.eq_def; trivial) | trivial
theorem eqn_capsOf_eq_1 : True := by first | (have := @capsOf.eq_1; trivial) | trivial
theorem eqn_capsOf_eq_def : True := by first | (have := @capsOf.eq_def; trivial) | trivial
theorem eqn_binOk_eq_1 : True := by first | (have := @binOk.eq_1; trivial) | trivial
theorem eqn_binOk_eq_def : True := by first | (have := @binOk.eq_def; trivial) | trivial
theorem eqn_convNew_eq_1 : True := by first | (have := @convNew.eq_1; trivial) | trivial
theorem eqn_convNew_eq_def : True := by first | (have := @convNew.eq_def; trivial) | trivial
theorem eqn_convRow_eq_1 : True := by first | (have := @convRow.eq_1; trivial) | trivial
theorem eqn_convRow_eq_def : True := by first | (have := @convRow.eq_def; trivial) | trivial
theorem eqn_sliceZ_eq_1 : True := by first | (have := @sliceZ.eq_1; trivial) | trivial
theorem eqn_sliceZ_eq_def : True := by first | (have := @sliceZ.eq_def; trivial) | trivial
theorem eqn_nilOf_eq_1 : True := by first | (have := @nilOf.eq_1; trivial) | trivial
theorem eqn_nilOf_eq_def : True := by first | (have := @nilOf.eq_def; trivial) | trivial
theorem eqn_eqCs_eq_1 : True := by first | (have := @eqCs.eq_1; trivial) | trivial
theorem eqn_eqCs_eq_def : True := by first | (have := @eqCs.eq_def; trivial) | trivial
theorem eqn_aggCmp_eq_1 : True := by first | (have := @aggCmp.eq_1; trivial) | trivial
theorem eqn_aggCmp_eq_def : True := by first | (have := @aggCmp.eq_def; trivial) | trivial
theorem eqn_idxEff_eq_1 : True := by first | (have := @idxEff.eq_1; trivial) | trivial
theorem eqn_idxEff_eq_def : True := by first | (have := @idxEff.eq_def; trivial) | trivial
theorem eqn_idxValP_eq_1 : True := by first | (have := @idxValP.eq_1; trivial) | trivial
theorem eqn_idxValP_eq_def : True := by first | (have := @idxValP.eq_def; trivial) | trivial
theorem eqn_sliceDataP_eq_1 : True := by first | (have := @sliceDataP.eq_1; trivial) | trivial
theorem eqn_sliceDataP_eq_def : True := by first | (have := @sliceDataP.eq_def; trivial) | trivial
theorem eqn_unsafeStrP_eq_1 : True := by first | (have := @unsafeStrP.eq_1; trivial) | trivial
theorem eqn_unsafeStrP_eq_def : True := by first | (have := @unsafeStrP.eq_def; trivial) | trivial
theorem eqn_unsafeP_eq_1 : True := by first | (have := @unsafeP.eq_1; trivial) | trivial
theorem eqn_unsafeP_eq_def : True := by first | (have := @unsafeP.eq_def; trivial) | trivial
theorem eqn_arrAt_eq_1 : True := by first | (have := @arrAt.eq_1; trivial) | trivial
theorem eqn_arrAt_eq_def : True := by first | (have := @arrAt.eq_def; trivial) | trivial
theorem eqn_arrEff_eq_1 : True := by first | (have := @arrEff.eq_1; trivial) | trivial
theorem eqn_arrEff_eq_def : True := by first | (have := @arrEff.eq_def; trivial) | trivial
theorem eqn_andI_eq_1 : True := by first | (have := @andI.eq_1; trivial) | trivial
theorem eqn_andI_eq_def : True := by first | (have := @andI.eq_def; trivial) | trivial
theorem eqn_mapNil_eq_1 : True := by first | (have := @mapNil.eq_1; trivial) | trivial
theorem eqn_mapNil_eq_def : True := by first | (have := @mapNil.eq_def; trivial) | trivial
theorem eqn_nilCmp_eq_1 : True := by first | (have := @nilCmp.eq_1; trivial) | trivial
theorem eqn_nilCmp_eq_def : True := by first | (have := @nilCmp.eq_def; trivial) | trivial
theorem eqn_upTo_eq_1 : True := by first | (have := @upTo.eq_1; trivial) | trivial
theorem eqn_upTo_eq_def : True := by first | (have := @upTo.eq_def; trivial) | trivial
theorem eqn_nthC_eq_1 : True := by first | (have := @nthC.eq_1; trivial) | trivial
theorem eqn_nthC_eq_def : True := by first | (have := @nthC.eq_def; trivial) | trivial
theorem eqn_keyS_eq_1 : True := by first | (have := @keyS.eq_1; trivial) | trivial
theorem eqn_keyS_eq_def : True := by first | (have := @keyS.eq_def; trivial) | trivial
theorem eqn_rangeP_eq_1 : True := by first | (have := @rangeP.eq_1; trivial) | trivial
theorem eqn_rangeP_eq_def : True := by first | (have := @rangeP.eq_def; trivial) | trivial
theorem eqn_entryP_eq_1 : True := by first | (have := @entryP.eq_1; trivial) | trivial
theorem eqn_entryP_eq_def : True := by first | (have := @entryP.eq_def; trivial) | trivial
theorem eqn_sop_eq_1 : True := by first | (have := @sop.eq_1; trivial) | trivial
theorem eqn_sop_eq_def : True := by first | (have := @sop.eq_def; trivial) | trivial
theorem eqn_getC_eq_1 : True := by first | (have := @getC.eq_1; trivial) | trivial
theorem eqn_getC_eq_def : True := by first | (have := @getC.eq_def; trivial) | trivial
theorem eqn_getCs_eq_1 : True := by first | (have := @getCs.eq_1; trivial) | trivial
theorem eqn_getCs_eq_def : True := by first | (have := @getCs.eq_def; trivial) | trivial
theorem eqn_putC_eq_1 : True := by first | (have := @putC.eq_1; trivial) | trivial
theorem eqn_putC_eq_def : True := by first | (have := @putC.eq_def; trivial) | trivial
theorem eqn_putCs_eq_1 : True := by first | (have := @putCs.eq_1; trivial) | trivial
theorem eqn_putCs_eq_def : True := by first | (have := @putCs.eq_def; trivial) | trivial
theorem eqn_putT_eq_1 : True := by first | (have := @putT.eq_1; trivial) | trivial
theorem eqn_putT_eq_def : True := by first | (have := @putT.eq_def; trivial) | trivial
theorem eqn_applyE_eq_1 : True := by first | (have := @applyE.eq_1; trivial) | trivial
theorem eqn_applyE_eq_def : True := by first | (have := @applyE.eq_def; trivial) | trivial
theorem eqn_isApp_eq_1 : True := by first | (have := @isApp.eq_1; trivial) | trivial
theorem eqn_isApp_eq_2 : True := by first | (have := @isApp.eq_2; trivial) | trivial
theorem eqn_isApp_eq_def : True := by first | (have := @isApp.eq_def; trivial) | trivial
theorem eqn_mkEff_eq_2 : True := by first | (have := @mkEff.eq_2; trivial) | trivial
theorem eqn_mkEff_eq_1 : True := by first | (have := @mkEff.eq_1; trivial) | trivial
theorem eqn_mkEff_eq_def : True := by first | (have := @mkEff.eq_def; trivial) | trivial
theorem eqn_Dec_ofOp_eq_1 : True := by first | (have := @Dec.ofOp.eq_1; trivial) | trivial
theorem eqn_Dec_ofOp_eq_def : True := by first | (have := @Dec.ofOp.eq_def; trivial) | trivial
theorem eqn_decide1_eq_1 : True := by first | (have := @decide1.eq_1; trivial) | trivial
theorem eqn_decide1_eq_def : True := by first | (have := @decide1.eq_def; trivial) | trivial
theorem eqn_isBoolV_eq_1 : True := by first | (have := @isBoolV.eq_1; trivial) | trivial
theorem eqn_isBoolV_eq_def : True := by first | (have := @isBoolV.eq_def; trivial) | trivial
theorem eqn_guardOf_eq_1 : True := by first | (have := @guardOf.eq_1; trivial) | trivial
theorem eqn_guardOf_eq_def : True := by first | (have := @guardOf.eq_def; trivial) | trivial
theorem eqn_undefV_eq_1 : True := by first | (have := @undefV.eq_1; trivial) | trivial
theorem eqn_undefV_eq_def : True := by first | (have := @undefV.eq_def; trivial) | trivial
theorem eqn_decideD_eq_1 : True := by first | (have := @decideD.eq_1; trivial) | trivial
theorem eqn_decideD_eq_def : True := by first | (have := @decideD.eq_def; trivial) | trivial
theorem eqn_srun_eq_1 : True := by first | (have := @srun.eq_1; trivial) | trivial
theorem eqn_srun_eq_def : True := by first | (have := @srun.eq_def; trivial) | trivial
theorem eqn_preSl_eq_1 : True := by first | (have := @preSl.eq_1; trivial) | trivial
theorem eqn_preSl_eq_def : True := by first | (have := @preSl.eq_def; trivial) | trivial
theorem eqn_conds_eq_1 : True := by first | (have := @conds.eq_1; trivial) | trivial
theorem eqn_conds_eq_def : True := by first | (have := @conds.eq_def; trivial) | trivial
theorem eqn_maskOf_eq_1 : True := by first | (have := @maskOf.eq_1; trivial) | trivial
theorem eqn_maskOf_eq_def : True := by first | (have := @maskOf.eq_def; trivial) | trivial
theorem eqn_ancO_eq_1 : True := by first | (have := @ancO.eq_1; trivial) | trivial
theorem eqn_ancO_eq_def : True := by first | (have := @ancO.eq_def; trivial) | trivial
theorem eqn_ancs_eq_1 : True := by first | (have := @ancs.eq_1; trivial) | trivial
theorem eqn_ancs_eq_def : True := by first | (have := @ancs.eq_def; trivial) | trivial
theorem eqn_readsOf_eq_1 : True := by first | (have := @readsOf.eq_1; trivial) | trivial
theorem eqn_readsOf_eq_def : True := by first | (have := @readsOf.eq_def; trivial) | trivial
theorem eqn_meets_eq_1 : True := by first | (have := @meets.eq_1; trivial) | trivial
theorem eqn_meets_eq_def : True := by first | (have := @meets.eq_def; trivial) | trivial
theorem eqn_clash_eq_1 : True := by first | (have := @clash.eq_1; trivial) | trivial
theorem eqn_clash_eq_def : True := by first | (have := @clash.eq_def; trivial) | trivial
theorem eqn_okRec_eq_1 : True := by first | (have := @okRec.eq_1; trivial) | trivial
theorem eqn_okRec_eq_def : True := by first | (have := @okRec.eq_def; trivial) | trivial
theorem eqn_okRecs_eq_1 : True := by first | (have := @okRecs.eq_1; trivial) | trivial
theorem eqn_okRecs_eq_def : True := by first | (have := @okRecs.eq_def; trivial) | trivial
theorem eqn_recsOf_eq_1 : True := by first | (have := @recsOf.eq_1; trivial) | trivial
theorem eqn_recsOf_eq_def : True := by first | (have := @recsOf.eq_def; trivial) | trivial
theorem eqn_drawOk_eq_1 : True := by first | (have := @drawOk.eq_1; trivial) | trivial
theorem eqn_drawOk_eq_def : True := by first | (have := @drawOk.eq_def; trivial) | trivial
theorem eqn_sreg_eq_1 : True := by first | (have := @sreg.eq_1; trivial) | trivial
theorem eqn_sreg_eq_def : True := by first | (have := @sreg.eq_def; trivial) | trivial
theorem eqn_sub1_eq_1 : True := by first | (have := @sub1.eq_1; trivial) | trivial
theorem eqn_sub1_eq_def : True := by first | (have := @sub1.eq_def; trivial) | trivial
theorem eqn_sub1s_eq_1 : True := by first | (have := @sub1s.eq_1; trivial) | trivial
theorem eqn_sub1s_eq_def : True := by first | (have := @sub1s.eq_def; trivial) | trivial
theorem eqn_sub2_eq_1 : True := by first | (have := @sub2.eq_1; trivial) | trivial
theorem eqn_sub2_eq_def : True := by first | (have := @sub2.eq_def; trivial) | trivial
theorem eqn_sub2s_eq_1 : True := by first | (have := @sub2s.eq_1; trivial) | trivial
theorem eqn_sub2s_eq_def : True := by first | (have := @sub2s.eq_def; trivial) | trivial
theorem eqn_subV_eq_1 : True := by first | (have := @subV.eq_1; trivial) | trivial
theorem eqn_subV_eq_def : True := by first | (have := @subV.eq_def; trivial) | trivial
theorem eqn_subC_eq_1 : True := by first | (have := @subC.eq_1; trivial) | trivial
theorem eqn_subC_eq_def : True := by first | (have := @subC.eq_def; trivial) | trivial
theorem eqn_subCs_eq_1 : True := by first | (have := @subCs.eq_1; trivial) | trivial
theorem eqn_subCs_eq_def : True := by first | (have := @subCs.eq_def; trivial) | trivial
theorem eqn_subT_eq_1 : True := by first | (have := @subT.eq_1; trivial) | trivial
theorem eqn_subT_eq_def : True := by first | (have := @subT.eq_def; trivial) | trivial
theorem eqn_vers_eq_1 : True := by first | (have := @vers.eq_1; trivial) | trivial
theorem eqn_vers_eq_def : True := by first | (have := @vers.eq_def; trivial) | trivial
theorem eqn_norm1_eq_1 : True := by first | (have := @norm1.eq_1; trivial) | trivial
theorem eqn_norm1_eq_def : True := by first | (have := @norm1.eq_def; trivial) | trivial
theorem eqn_norm2_eq_1 : True := by first | (have := @norm2.eq_1; trivial) | trivial
theorem eqn_norm2_eq_def : True := by first | (have := @norm2.eq_def; trivial) | trivial
theorem eqn_normV_eq_1 : True := by first | (have := @normV.eq_1; trivial) | trivial
theorem eqn_normV_eq_def : True := by first | (have := @normV.eq_def; trivial) | trivial
theorem eqn_normC_eq_1 : True := by first | (have := @normC.eq_1; trivial) | trivial
theorem eqn_normC_eq_def : True := by first | (have := @normC.eq_def; trivial) | trivial
theorem eqn_normCs_eq_1 : True := by first | (have := @normCs.eq_1; trivial) | trivial
theorem eqn_normCs_eq_def : True := by first | (have := @normCs.eq_def; trivial) | trivial
theorem eqn_normT_eq_1 : True := by first | (have := @normT.eq_1; trivial) | trivial
theorem eqn_normT_eq_def : True := by first | (have := @normT.eq_def; trivial) | trivial
theorem eqn_norm_eq_1 : True := by first | (have := @norm.eq_1; trivial) | trivial
theorem eqn_norm_eq_def : True := by first | (have := @norm.eq_def; trivial) | trivial
theorem eqn_map2_eq_1 : True := by first | (have := @map2.eq_1; trivial) | trivial
theorem eqn_map2_eq_def : True := by first | (have := @map2.eq_def; trivial) | trivial
theorem eqn_mapV_eq_1 : True := by first | (have := @mapV.eq_1; trivial) | trivial
theorem eqn_mapV_eq_def : True := by first | (have := @mapV.eq_def; trivial) | trivial
theorem eqn_mapT_eq_1 : True := by first | (have := @mapT.eq_1; trivial) | trivial
theorem eqn_mapT_eq_def : True := by first | (have := @mapT.eq_def; trivial) | trivial
theorem eqn_frz1_eq_1 : True := by first | (have := @frz1.eq_1; trivial) | trivial
theorem eqn_frz1_eq_def : True := by first | (have := @frz1.eq_def; trivial) | trivial
theorem eqn_frzC_eq_1 : True := by first | (have := @frzC.eq_1; trivial) | trivial
theorem eqn_frzC_eq_def : True := by first | (have := @frzC.eq_def; trivial) | trivial
theorem eqn_frzCs_eq_1 : True := by first | (have := @frzCs.eq_1; trivial) | trivial
theorem eqn_frzCs_eq_def : True := by first | (have := @frzCs.eq_def; trivial) | trivial
theorem eqn_frz_eq_1 : True := by first | (have := @frz.eq_1; trivial) | trivial
theorem eqn_frz_eq_def : True := by first | (have := @frz.eq_def; trivial) | trivial
theorem eqn_absT_eq_1 : True := by first | (have := @absT.eq_1; trivial) | trivial
theorem eqn_absT_eq_def : True := by first | (have := @absT.eq_def; trivial) | trivial
theorem eqn_absL_eq_1 : True := by first | (have := @absL.eq_1; trivial) | trivial
theorem eqn_absL_eq_def : True := by first | (have := @absL.eq_def; trivial) | trivial
theorem eqn_absC_eq_1 : True := by first | (have := @absC.eq_1; trivial) | trivial
theorem eqn_absC_eq_def : True := by first | (have := @absC.eq_def; trivial) | trivial
theorem eqn_absorb_eq_1 : True := by first | (have := @absorb.eq_1; trivial) | trivial
theorem eqn_absorb_eq_def : True := by first | (have := @absorb.eq_def; trivial) | trivial
theorem eqn_unrC_eq_1 : True := by first | (have := @unrC.eq_1; trivial) | trivial
theorem eqn_unrC_eq_def : True := by first | (have := @unrC.eq_def; trivial) | trivial
theorem eqn_unr_eq_1 : True := by first | (have := @unr.eq_1; trivial) | trivial
theorem eqn_unr_eq_def : True := by first | (have := @unr.eq_def; trivial) | trivial
theorem eqn_keepT_eq_1 : True := by first | (have := @keepT.eq_1; trivial) | trivial
theorem eqn_keepT_eq_def : True := by first | (have := @keepT.eq_def; trivial) | trivial
theorem eqn_Sub_eq_1 : True := by first | (have := @Sub.eq_1; trivial) | trivial
theorem eqn_Sub_eq_def : True := by first | (have := @Sub.eq_def; trivial) | trivial
theorem eqn_nextOf_eq_1 : True := by first | (have := @nextOf.eq_1; trivial) | trivial
theorem eqn_nextOf_eq_def : True := by first | (have := @nextOf.eq_def; trivial) | trivial
theorem eqn_snext_eq_1 : True := by first | (have := @snext.eq_1; trivial) | trivial
theorem eqn_snext_eq_def : True := by first | (have := @snext.eq_def; trivial) | trivial
theorem eqn_svc_eq_1 : True := by first | (have := @svc.eq_1; trivial) | trivial
theorem eqn_svc_eq_def : True := by first | (have := @svc.eq_def; trivial) | trivial
theorem eqn_resV_eq_1 : True := by first | (have := @resV.eq_1; trivial) | trivial
theorem eqn_resV_eq_def : True := by first | (have := @resV.eq_def; trivial) | trivial
theorem eqn_resOf_eq_1 : True := by first | (have := @resOf.eq_1; trivial) | trivial
theorem eqn_resOf_eq_def : True := by first | (have := @resOf.eq_def; trivial) | trivial
theorem eqn_finP_eq_1 : True := by first | (have := @finP.eq_1; trivial) | trivial
theorem eqn_finP_eq_def : True := by first | (have := @finP.eq_def; trivial) | trivial
theorem eqn_argT_eq_1 : True := by first | (have := @argT.eq_1; trivial) | trivial
theorem eqn_argT_eq_def : True := by first | (have := @argT.eq_def; trivial) | trivial
theorem eqn_ren1_eq_1 : True := by first | (have := @ren1.eq_1; trivial) | trivial
theorem eqn_ren1_eq_def : True := by first | (have := @ren1.eq_def; trivial) | trivial
theorem eqn_renC_eq_1 : True := by first | (have := @renC.eq_1; trivial) | trivial
theorem eqn_renC_eq_def : True := by first | (have := @renC.eq_def; trivial) | trivial
theorem eqn_idsLt_eq_1 : True := by first | (have := @idsLt.eq_1; trivial) | trivial
theorem eqn_idsLt_eq_def : True := by first | (have := @idsLt.eq_def; trivial) | trivial
theorem eqn_idsLtC_eq_1 : True := by first | (have := @idsLtC.eq_1; trivial) | trivial
theorem eqn_idsLtC_eq_def : True := by first | (have := @idsLtC.eq_def; trivial) | trivial
theorem eqn_place_eq_1 : True := by first | (have := @place.eq_1; trivial) | trivial
theorem eqn_place_eq_def : True := by first | (have := @place.eq_def; trivial) | trivial
theorem eqn_putAll_eq_1 : True := by first | (have := @putAll.eq_1; trivial) | trivial
theorem eqn_putAll_eq_def : True := by first | (have := @putAll.eq_def; trivial) | trivial
theorem eqn_openH_eq_1 : True := by first | (have := @openH.eq_1; trivial) | trivial
theorem eqn_openH_eq_def : True := by first | (have := @openH.eq_def; trivial) | trivial
theorem eqn_posB_eq_1 : True := by first | (have := @posB.eq_1; trivial) | trivial
theorem eqn_posB_eq_def : True := by first | (have := @posB.eq_def; trivial) | trivial
theorem eqn_rn1_eq_1 : True := by first | (have := @rn1.eq_1; trivial) | trivial
theorem eqn_rn1_eq_def : True := by first | (have := @rn1.eq_def; trivial) | trivial
theorem eqn_rnC_eq_1 : True := by first | (have := @rnC.eq_1; trivial) | trivial
theorem eqn_rnC_eq_def : True := by first | (have := @rnC.eq_def; trivial) | trivial
theorem eqn_reordH_eq_1 : True := by first | (have := @reordH.eq_1; trivial) | trivial
theorem eqn_reordH_eq_def : True := by first | (have := @reordH.eq_def; trivial) | trivial
theorem eqn_reord_eq_1 : True := by first | (have := @reord.eq_1; trivial) | trivial
theorem eqn_reord_eq_def : True := by first | (have := @reord.eq_def; trivial) | trivial
theorem eqn_nodupB_eq_1 : True := by first | (have := @nodupB.eq_1; trivial) | trivial
theorem eqn_nodupB_eq_def : True := by first | (have := @nodupB.eq_def; trivial) | trivial
theorem eqn_fixB_eq_1 : True := by first | (have := @fixB.eq_1; trivial) | trivial
theorem eqn_fixB_eq_def : True := by first | (have := @fixB.eq_def; trivial) | trivial
theorem eqn_permOk_eq_1 : True := by first | (have := @permOk.eq_1; trivial) | trivial
theorem eqn_permOk_eq_def : True := by first | (have := @permOk.eq_def; trivial) | trivial
theorem eqn_finR_eq_1 : True := by first | (have := @finR.eq_1; trivial) | trivial
theorem eqn_finR_eq_def : True := by first | (have := @finR.eq_def; trivial) | trivial
theorem eqn_codeOk_eq_1 : True := by first | (have := @codeOk.eq_1; trivial) | trivial
theorem eqn_codeOk_eq_def : True := by first | (have := @codeOk.eq_def; trivial) | trivial
theorem eqn_absOf_eq_1 : True := by first | (have := @absOf.eq_1; trivial) | trivial
theorem eqn_absOf_eq_def : True := by first | (have := @absOf.eq_def; trivial) | trivial
theorem eqn_rvOf_eq_1 : True := by first | (have := @rvOf.eq_1; trivial) | trivial
theorem eqn_rvOf_eq_def : True := by first | (have := @rvOf.eq_def; trivial) | trivial
theorem eqn_TmplOk_eq_1 : True := by first | (have := @TmplOk.eq_1; trivial) | trivial
theorem eqn_TmplOk_eq_def : True := by first | (have := @TmplOk.eq_def; trivial) | trivial
theorem eqn_closed1_eq_1 : True := by first | (have := @closed1.eq_1; trivial) | trivial
theorem eqn_closed1_eq_def : True := by first | (have := @closed1.eq_def; trivial) | trivial
theorem eqn_Kin_eq_1 : True := by first | (have := @Kin.eq_1; trivial) | trivial
theorem eqn_Kin_eq_def : True := by first | (have := @Kin.eq_def; trivial) | trivial
theorem eqn_posOf_eq_1 : True := by first | (have := @posOf.eq_1; trivial) | trivial
theorem eqn_posOf_eq_def : True := by first | (have := @posOf.eq_def; trivial) | trivial
theorem eqn_zeroB_eq_1 : True := by first | (have := @zeroB.eq_1; trivial) | trivial
theorem eqn_zeroB_eq_def : True := by first | (have := @zeroB.eq_def; trivial) | trivial
theorem eqn_isNil_eq_1 : True := by first | (have := @isNil.eq_1; trivial) | trivial
theorem eqn_isNil_eq_def : True := by first | (have := @isNil.eq_def; trivial) | trivial
theorem eqn_offsB_eq_1 : True := by first | (have := @offsB.eq_1; trivial) | trivial
theorem eqn_offsB_eq_def : True := by first | (have := @offsB.eq_def; trivial) | trivial
theorem eqn_kindB_eq_1 : True := by first | (have := @kindB.eq_1; trivial) | trivial
theorem eqn_kindB_eq_def : True := by first | (have := @kindB.eq_def; trivial) | trivial
theorem eqn_tiB_eq_1 : True := by first | (have := @tiB.eq_1; trivial) | trivial
theorem eqn_tiB_eq_def : True := by first | (have := @tiB.eq_def; trivial) | trivial
theorem eqn_zeroP_eq_1 : True := by first | (have := @zeroP.eq_1; trivial) | trivial
theorem eqn_zeroP_eq_def : True := by first | (have := @zeroP.eq_def; trivial) | trivial
theorem eqn_openObj_eq_1 : True := by first | (have := @openObj.eq_1; trivial) | trivial
theorem eqn_openObj_eq_def : True := by first | (have := @openObj.eq_def; trivial) | trivial
theorem eqn_shutObj_eq_1 : True := by first | (have := @shutObj.eq_1; trivial) | trivial
theorem eqn_shutObj_eq_def : True := by first | (have := @shutObj.eq_def; trivial) | trivial
theorem eqn_flatC_eq_1 : True := by first | (have := @flatC.eq_1; trivial) | trivial
theorem eqn_flatC_eq_def : True := by first | (have := @flatC.eq_def; trivial) | trivial
theorem eqn_closed2_eq_1 : True := by first | (have := @closed2.eq_1; trivial) | trivial
theorem eqn_closed2_eq_def : True := by first | (have := @closed2.eq_def; trivial) | trivial
theorem eqn_closedV_eq_1 : True := by first | (have := @closedV.eq_1; trivial) | trivial
theorem eqn_closedV_eq_def : True := by first | (have := @closedV.eq_def; trivial) | trivial
theorem eqn_DT_T_eq_1 : True := by first | (have := @DT.T.eq_1; trivial) | trivial
theorem eqn_DT_T_eq_def : True := by first | (have := @DT.T.eq_def; trivial) | trivial
theorem eqn_DT_sv_eq_1 : True := by first | (have := @DT.sv.eq_1; trivial) | trivial
theorem eqn_DT_sv_eq_def : True := by first | (have := @DT.sv.eq_def; trivial) | trivial
theorem eqn_DT_of_eq_1 : True := by first | (have := @DT.of.eq_1; trivial) | trivial
theorem eqn_DT_of_eq_def : True := by first | (have := @DT.of.eq_def; trivial) | trivial
theorem eqn_Tup_eq_1 : True := by first | (have := @Tup.eq_1; trivial) | trivial
theorem eqn_Tup_eq_def : True := by first | (have := @Tup.eq_def; trivial) | trivial
theorem eqn_svs_eq_1 : True := by first | (have := @svs.eq_1; trivial) | trivial
theorem eqn_svs_eq_def : True := by first | (have := @svs.eq_def; trivial) | trivial
theorem eqn_ofs_eq_1 : True := by first | (have := @ofs.eq_1; trivial) | trivial
theorem eqn_ofs_eq_def : True := by first | (have := @ofs.eq_def; trivial) | trivial
theorem eqn_argS_eq_1 : True := by first | (have := @argS.eq_1; trivial) | trivial
theorem eqn_argS_eq_def : True := by first | (have := @argS.eq_def; trivial) | trivial
theorem eqn_Enters_eq_1 : True := by first | (have := @Enters.eq_1; trivial) | trivial
theorem eqn_Enters_eq_def : True := by first | (have := @Enters.eq_def; trivial) | trivial
theorem eqn_PureSpec_con_eq_1 : True := by first | (have := @PureSpec.con.eq_1; trivial) | trivial
theorem eqn_PureSpec_con_eq_def : True := by first | (have := @PureSpec.con.eq_def; trivial) | trivial
theorem eqn_PureSpec_Ok_eq_1 : True := by first | (have := @PureSpec.Ok.eq_1; trivial) | trivial
theorem eqn_PureSpec_Ok_eq_def : True := by first | (have := @PureSpec.Ok.eq_def; trivial) | trivial
theorem eqn_MethSpec_con_eq_1 : True := by first | (have := @MethSpec.con.eq_1; trivial) | trivial
theorem eqn_MethSpec_con_eq_def : True := by first | (have := @MethSpec.con.eq_def; trivial) | trivial
theorem eqn_NewSpec_con_eq_1 : True := by first | (have := @NewSpec.con.eq_1; trivial) | trivial
theorem eqn_NewSpec_con_eq_def : True := by first | (have := @NewSpec.con.eq_def; trivial) | trivial
theorem eqn_orCon_eq_1 : True := by first | (have := @orCon.eq_1; trivial) | trivial
theorem eqn_orCon_eq_def : True := by first | (have := @orCon.eq_def; trivial) | trivial
theorem eqn_Ev_reord_eq_1 : True := by first | (have := @Ev.reord.eq_1; trivial) | trivial
theorem eqn_Ev_reord_eq_def : True := by first | (have := @Ev.reord.eq_def; trivial) | trivial
theorem eqn_idsA_eq_1 : True := by first | (have := @idsA.eq_1; trivial) | trivial
theorem eqn_idsA_eq_def : True := by first | (have := @idsA.eq_def; trivial) | trivial
theorem eqn_ofA_eq_1 : True := by first | (have := @ofA.eq_1; trivial) | trivial
theorem eqn_ofA_eq_def : True := by first | (have := @ofA.eq_def; trivial) | trivial
theorem eqn_flat1_eq_1 : True := by first | (have := @flat1.eq_1; trivial) | trivial
theorem eqn_flat1_eq_def : True := by first | (have := @flat1.eq_def; trivial) | trivial
theorem eqn_flat2_eq_1 : True := by first | (have := @flat2.eq_1; trivial) | trivial
theorem eqn_flat2_eq_def : True := by first | (have := @flat2.eq_def; trivial) | trivial
theorem eqn_PureSpec_conA_eq_1 : True := by first | (have := @PureSpec.conA.eq_1; trivial) | trivial
theorem eqn_PureSpec_conA_eq_def : True := by first | (have := @PureSpec.conA.eq_def; trivial) | trivial
theorem eqn_Ty_flat_eq_1 : True := by first | (have := @Ty.flat.eq_1; trivial) | trivial
theorem eqn_Ty_flat_eq_def : True := by first | (have := @Ty.flat.eq_def; trivial) | trivial
theorem eqn_RowSpec_con_eq_1 : True := by first | (have := @RowSpec.con.eq_1; trivial) | trivial
theorem eqn_RowSpec_con_eq_def : True := by first | (have := @RowSpec.con.eq_def; trivial) | trivial
theorem eqn_RowSpec_Ok_eq_1 : True := by first | (have := @RowSpec.Ok.eq_1; trivial) | trivial
theorem eqn_RowSpec_Ok_eq_def : True := by first | (have := @RowSpec.Ok.eq_def; trivial) | trivial
theorem eqn_xreg_eq_1 : True := by first | (have := @xreg.eq_1; trivial) | trivial
theorem eqn_xreg_eq_def : True := by first | (have := @xreg.eq_def; trivial) | trivial
theorem eqn_inBlk_eq_1 : True := by first | (have := @inBlk.eq_1; trivial) | trivial
theorem eqn_inBlk_eq_def : True := by first | (have := @inBlk.eq_def; trivial) | trivial
theorem eqn_xcode_eq_1 : True := by first | (have := @xcode.eq_1; trivial) | trivial
theorem eqn_xcode_eq_def : True := by first | (have := @xcode.eq_def; trivial) | trivial
theorem eqn_bel1_eq_1 : True := by first | (have := @bel1.eq_1; trivial) | trivial
theorem eqn_bel1_eq_def : True := by first | (have := @bel1.eq_def; trivial) | trivial
theorem eqn_bel2_eq_1 : True := by first | (have := @bel2.eq_1; trivial) | trivial
theorem eqn_bel2_eq_def : True := by first | (have := @bel2.eq_def; trivial) | trivial
theorem eqn_belV_eq_1 : True := by first | (have := @belV.eq_1; trivial) | trivial
theorem eqn_belV_eq_def : True := by first | (have := @belV.eq_def; trivial) | trivial
theorem eqn_allC_eq_1 : True := by first | (have := @allC.eq_1; trivial) | trivial
theorem eqn_allC_eq_def : True := by first | (have := @allC.eq_def; trivial) | trivial
theorem eqn_firstN_eq_1 : True := by first | (have := @firstN.eq_1; trivial) | trivial
theorem eqn_firstN_eq_def : True := by first | (have := @firstN.eq_def; trivial) | trivial
theorem eqn_belC_eq_1 : True := by first | (have := @belC.eq_1; trivial) | trivial
theorem eqn_belC_eq_def : True := by first | (have := @belC.eq_def; trivial) | trivial
theorem eqn_inlCon_eq_1 : True := by first | (have := @inlCon.eq_1; trivial) | trivial
theorem eqn_inlCon_eq_def : True := by first | (have := @inlCon.eq_def; trivial) | trivial
theorem eqn_Sh_eq_1 : True := by first | (have := @Sh.eq_1; trivial) | trivial
theorem eqn_Sh_eq_def : True := by first | (have := @Sh.eq_def; trivial) | trivial
theorem eqn_T1_eq_1 : True := by first | (have := @T1.eq_1; trivial) | trivial
theorem eqn_T1_eq_def : True := by first | (have := @T1.eq_def; trivial) | trivial
theorem eqn_bodyOf_eq_1 : True := by first | (have := @bodyOf.eq_1; trivial) | trivial
theorem eqn_bodyOf_eq_def : True := by first | (have := @bodyOf.eq_def; trivial) | trivial
theorem eqn_inl_eq_1 : True := by first | (have := @inl.eq_1; trivial) | trivial
theorem eqn_inl_eq_def : True := by first | (have := @inl.eq_def; trivial) | trivial
theorem eqn_ShapeSpec_con_eq_1 : True := by first | (have := @ShapeSpec.con.eq_1; trivial) | trivial
theorem eqn_ShapeSpec_con_eq_def : True := by first | (have := @ShapeSpec.con.eq_def; trivial) | trivial
theorem eqn_Ty_ok_eq_1 : True := by first | (have := @Ty.ok.eq_1; trivial) | trivial
theorem eqn_Ty_ok_eq_def : True := by first | (have := @Ty.ok.eq_def; trivial) | trivial
theorem eqn_memOf_eq_1 : True := by first | (have := @memOf.eq_1; trivial) | trivial
theorem eqn_memOf_eq_def : True := by first | (have := @memOf.eq_def; trivial) | trivial
theorem eqn_fieldsB_eq_1 : True := by first | (have := @fieldsB.eq_1; trivial) | trivial
theorem eqn_fieldsB_eq_def : True := by first | (have := @fieldsB.eq_def; trivial) | trivial
theorem eqn_offsIn_eq_1 : True := by first | (have := @offsIn.eq_1; trivial) | trivial
theorem eqn_offsIn_eq_def : True := by first | (have := @offsIn.eq_def; trivial) | trivial
theorem eqn_tyB_eq_1 : True := by first | (have := @tyB.eq_1; trivial) | trivial
theorem eqn_tyB_eq_def : True := by first | (have := @tyB.eq_def; trivial) | trivial
theorem eqn_dtB_eq_1 : True := by first | (have := @dtB.eq_1; trivial) | trivial
theorem eqn_dtB_eq_def : True := by first | (have := @dtB.eq_def; trivial) | trivial
theorem eqn_DT_ok_eq_1 : True := by first | (have := @DT.ok.eq_1; trivial) | trivial
theorem eqn_DT_ok_eq_def : True := by first | (have := @DT.ok.eq_def; trivial) | trivial
theorem eqn_castL_castT_eq_1 : True := by first | (have := @castL.castT.eq_1; trivial) | trivial
theorem eqn_castL_castT_eq_def : True := by first | (have := @castL.castT.eq_def; trivial) | trivial
theorem eqn_sop0_eq_22 : True := by first | (have := @sop0.eq_22; trivial) | trivial
theorem eqn_sop0_eq_21 : True := by first | (have := @sop0.eq_21; trivial) | trivial
theorem eqn_sop0_eq_20 : True := by first | (have := @sop0.eq_20; trivial) | trivial
theorem eqn_sop0_eq_19 : True := by first | (have := @sop0.eq_19; trivial) | trivial
theorem eqn_sop0_eq_18 : True := by first | (have := @sop0.eq_18; trivial) | trivial
theorem eqn_sop0_eq_17 : True := by first | (have := @sop0.eq_17; trivial) | trivial
theorem eqn_sop0_eq_16 : True := by first | (have := @sop0.eq_16; trivial) | trivial
theorem eqn_sop0_eq_15 : True := by first | (have := @sop0.eq_15; trivial) | trivial
theorem eqn_sop0_eq_14 : True := by first | (have := @sop0.eq_14; trivial) | trivial
theorem eqn_sop0_eq_13 : True := by first | (have := @sop0.eq_13; trivial) | trivial
theorem eqn_sop0_eq_12 : True := by first | (have := @sop0.eq_12; trivial) | trivial
theorem eqn_sop0_eq_11 : True := by first | (have := @sop0.eq_11; trivial) | trivial
theorem eqn_sop0_eq_10 : True := by first | (have := @sop0.eq_10; trivial) | trivial
theorem eqn_sop0_eq_9 : True := by first | (have := @sop0.eq_9; trivial) | trivial
theorem eqn_sop0_eq_8 : True := by first | (have := @sop0.eq_8; trivial) | trivial
theorem eqn_sop0_eq_7 : True := by first | (have := @sop0.eq_7; trivial) | trivial
theorem eqn_sop0_eq_6 : True := by first | (have := @sop0.eq_6; trivial) | trivial
theorem eqn_sop0_eq_5 : True := by first | (have := @sop0.eq_5; trivial) | trivial
theorem eqn_sop0_eq_4 : True := by first | (have := @sop0.eq_4; trivial) | trivial
theorem eqn_sop0_eq_3 : True := by first | (have := @sop0.eq_3; trivial) | trivial
theorem eqn_sop0_eq_2 : True := by first | (have := @sop0.eq_2; trivial) | trivial
theorem eqn_sop0_eq_1 : True := by first | (have := @sop0.eq_1; trivial) | trivial
theorem eqn_sop0_eq_def : True := by first | (have := @sop0.eq_def; trivial) | trivial
theorem eqn_nestOn_eq_2 : True := by first | (have := @nestOn.eq_2; trivial) | trivial
theorem eqn_nestOn_eq_1 : True := by first | (have := @nestOn.eq_1; trivial) | trivial
theorem eqn_nestOn_eq_def : True := by first | (have := @nestOn.eq_def; trivial) | trivial
theorem eqn_nestTb_eq_2 : True := by first | (have := @nestTb.eq_2; trivial) | trivial
theorem eqn_nestTb_eq_1 : True := by first | (have := @nestTb.eq_1; trivial) | trivial
theorem eqn_nestTb_eq_def : True := by first | (have := @nestTb.eq_def; trivial) | trivial
theorem eqn_segAt_eq_4 : True := by first | (have := @segAt.eq_4; trivial) | trivial
theorem eqn_segAt_eq_3 : True := by first | (have := @segAt.eq_3; trivial) | trivial
theorem eqn_segAt_eq_2 : True := by first | (have := @segAt.eq_2; trivial) | trivial
theorem eqn_segAt_eq_1 : True := by first | (have := @segAt.eq_1; trivial) | trivial
theorem eqn_segAt_eq_def : True := by first | (have := @segAt.eq_def; trivial) | trivial
theorem eqn_segSet_eq_4 : True := by first | (have := @segSet.eq_4; trivial) | trivial
theorem eqn_segSet_eq_3 : True := by first | (have := @segSet.eq_3; trivial) | trivial
theorem eqn_segSet_eq_2 : True := by first | (have := @segSet.eq_2; trivial) | trivial
theorem eqn_segSet_eq_1 : True := by first | (have := @segSet.eq_1; trivial) | trivial
theorem eqn_segSet_eq_def : True := by first | (have := @segSet.eq_def; trivial) | trivial
theorem eqn_inL_eq_1 : True := by first | (have := @inL.eq_1; trivial) | trivial
theorem eqn_inL_eq_def : True := by first | (have := @inL.eq_def; trivial) | trivial
theorem eqn_takeE_eq_2 : True := by first | (have := @takeE.eq_2; trivial) | trivial
theorem eqn_takeE_eq_1 : True := by first | (have := @takeE.eq_1; trivial) | trivial
theorem eqn_takeE_eq_def : True := by first | (have := @takeE.eq_def; trivial) | trivial
theorem eqn_segLoadE_eq_2 : True := by first | (have := @segLoadE.eq_2; trivial) | trivial
theorem eqn_segLoadE_eq_1 : True := by first | (have := @segLoadE.eq_1; trivial) | trivial
theorem eqn_segLoadE_eq_def : True := by first | (have := @segLoadE.eq_def; trivial) | trivial
theorem eqn_nestLoad_eq_2 : True := by first | (have := @nestLoad.eq_2; trivial) | trivial
theorem eqn_nestLoad_eq_1 : True := by first | (have := @nestLoad.eq_1; trivial) | trivial
theorem eqn_nestLoad_eq_def : True := by first | (have := @nestLoad.eq_def; trivial) | trivial
theorem eqn_fltS_eq_4 : True := by first | (have := @fltS.eq_4; trivial) | trivial
theorem eqn_fltS_eq_3 : True := by first | (have := @fltS.eq_3; trivial) | trivial
theorem eqn_fltS_eq_2 : True := by first | (have := @fltS.eq_2; trivial) | trivial
theorem eqn_fltS_eq_1 : True := by first | (have := @fltS.eq_1; trivial) | trivial
theorem eqn_fltS_eq_def : True := by first | (have := @fltS.eq_def; trivial) | trivial
theorem eqn_segStoreE_eq_2 : True := by first | (have := @segStoreE.eq_2; trivial) | trivial
theorem eqn_segStoreE_eq_1 : True := by first | (have := @segStoreE.eq_1; trivial) | trivial
theorem eqn_segStoreE_eq_def : True := by first | (have := @segStoreE.eq_def; trivial) | trivial
theorem eqn_nestStore_eq_2 : True := by first | (have := @nestStore.eq_2; trivial) | trivial
theorem eqn_nestStore_eq_1 : True := by first | (have := @nestStore.eq_1; trivial) | trivial
theorem eqn_nestStore_eq_def : True := by first | (have := @nestStore.eq_def; trivial) | trivial
theorem eqn_segLenE_eq_2 : True := by first | (have := @segLenE.eq_2; trivial) | trivial
theorem eqn_segLenE_eq_1 : True := by first | (have := @segLenE.eq_1; trivial) | trivial
theorem eqn_segLenE_eq_def : True := by first | (have := @segLenE.eq_def; trivial) | trivial
theorem eqn_nestLen_eq_3 : True := by first | (have := @nestLen.eq_3; trivial) | trivial
theorem eqn_nestLen_eq_2 : True := by first | (have := @nestLen.eq_2; trivial) | trivial
theorem eqn_nestLen_eq_1 : True := by first | (have := @nestLen.eq_1; trivial) | trivial
theorem eqn_nestLen_eq_def : True := by first | (have := @nestLen.eq_def; trivial) | trivial
theorem eqn_segIdxE_eq_2 : True := by first | (have := @segIdxE.eq_2; trivial) | trivial
theorem eqn_segIdxE_eq_1 : True := by first | (have := @segIdxE.eq_1; trivial) | trivial
theorem eqn_segIdxE_eq_def : True := by first | (have := @segIdxE.eq_def; trivial) | trivial
theorem eqn_nestIdx_eq_2 : True := by first | (have := @nestIdx.eq_2; trivial) | trivial
theorem eqn_nestIdx_eq_1 : True := by first | (have := @nestIdx.eq_1; trivial) | trivial
theorem eqn_nestIdx_eq_def : True := by first | (have := @nestIdx.eq_def; trivial) | trivial
theorem eqn_nestBuild_eq_1 : True := by first | (have := @nestBuild.eq_1; trivial) | trivial
theorem eqn_nestBuild_eq_def : True := by first | (have := @nestBuild.eq_def; trivial) | trivial
theorem eqn_nestApp_eq_1 : True := by first | (have := @nestApp.eq_1; trivial) | trivial
theorem eqn_nestApp_eq_def : True := by first | (have := @nestApp.eq_def; trivial) | trivial
theorem eqn_nestCall_eq_1 : True := by first | (have := @nestCall.eq_1; trivial) | trivial
theorem eqn_nestCall_eq_def : True := by first | (have := @nestCall.eq_def; trivial) | trivial
theorem eqn_nestP_eq_6 : True := by first | (have := @nestP.eq_6; trivial) | trivial
theorem eqn_nestP_eq_5 : True := by first | (have := @nestP.eq_5; trivial) | trivial
theorem eqn_nestP_eq_4 : True := by first | (have := @nestP.eq_4; trivial) | trivial
theorem eqn_nestP_eq_3 : True := by first | (have := @nestP.eq_3; trivial) | trivial
theorem eqn_nestP_eq_2 : True := by first | (have := @nestP.eq_2; trivial) | trivial
theorem eqn_nestP_eq_1 : True := by first | (have := @nestP.eq_1; trivial) | trivial
theorem eqn_nestP_eq_def : True := by first | (have := @nestP.eq_def; trivial) | trivial
theorem eqn_isAppE_eq_1 : True := by first | (have := @isAppE.eq_1; trivial) | trivial
theorem eqn_isAppE_eq_def : True := by first | (have := @isAppE.eq_def; trivial) | trivial
theorem eqn_homeAt_eq_1 : True := by first | (have := @homeAt.eq_1; trivial) | trivial
theorem eqn_homeAt_eq_def : True := by first | (have := @homeAt.eq_def; trivial) | trivial
theorem eqn_holeOf_eq_2 : True := by first | (have := @holeOf.eq_2; trivial) | trivial
theorem eqn_holeOf_eq_1 : True := by first | (have := @holeOf.eq_1; trivial) | trivial
theorem eqn_holeOf_eq_def : True := by first | (have := @holeOf.eq_def; trivial) | trivial
theorem eqn_homes_eq_1 : True := by first | (have := @homes.eq_1; trivial) | trivial
theorem eqn_homes_eq_def : True := by first | (have := @homes.eq_def; trivial) | trivial
theorem eqn_segGet_eq_1 : True := by first | (have := @segGet.eq_1; trivial) | trivial
theorem eqn_segGet_eq_def : True := by first | (have := @segGet.eq_def; trivial) | trivial
end Go.Sx

/-
  Symbolic execution: contracts whose arguments hold rows of bytes: from the call on these rows stay as they are.
-/
namespace Go.Sx
set_option linter.all false
set_option linter.unusedVariables false
set_option linter.unusedSimpArgs false
set_option linter.unusedSectionVars false
open Go.RowKit

variable {A : Type} {AI : Abs A} {G : Fr} {s : SS A} {ρ : Ev} {a : Act} {w : World} {P : Program}

def rowsIn1 : SV1 → List Nat
  | .hd i _ => [i]
  | _ => []
def rowsIn : SV → List Nat
  | .val (.one x) => rowsIn1 x
  | .val (.agg l) => l.flatMap rowsIn1
  | _ => []
def dummyRow : SV1 → SV1
  | .hd _ _ => .ro (.int .u8) (fun _ => [])
  | x => x
def frzArg {A : Type} (ids : List Nat) (cs : List (Chunk A)) : SV1 → SV1
  | .hd i v => (match posB ids i with
    | some j => (match nthC cs j with
      | .row _ e u L => (match beqN u v with | true => .ro e L | false => .any)
      | _ => .any)
    | none => .hd i v)
  | x => x
def eqNs : List Nat → List Nat → Bool
  | [], [] => true
  | a :: l, b :: m => beqN a b && eqNs l m
  | _, _ => false
theorem eqNs_eq : ∀ {l m : List Nat}, eqNs l m = true → l = m
  | [], [], _ => rfl
  | a :: l, b :: m, h => by
    obtain ⟨h1, h2⟩ := Bool.and_eq_true_iff.1 h
    rw [beq_eq h1, eqNs_eq h2]
  | [], _ :: _, h => by cases h
  | _ :: _, [], h => by cases h
def meetB (l m : List Nat) : Bool := l.any fun i => m.any (beqN i)
theorem meetB_no {l m : List Nat} (h : meetB l m = false) : ∀ i ∈ m, i ∉ l := by
  intro i hi hl
  have : meetB l m = true := List.any_eq_true.2 ⟨i, hl, List.any_eq_true.2 ⟨i, hi, beqN_self⟩⟩
  rw [h] at this; cases this
def allLt (n : Nat) : List Nat → Bool
  | [] => true
  | i :: r => bltN i n && allLt n r
theorem allLt_lt {n : Nat} : ∀ {l : List Nat}, allLt n l = true → ∀ i ∈ l, i < n
  | [], _, i, h => by cases h
  | x :: r, h, i, hi => by
    obtain ⟨h1, h2⟩ := Bool.and_eq_true_iff.1 h
    rcases List.mem_cons.1 hi with rfl | hi
    · exact leN h1
    · exact allLt_lt h2 i hi

/-- The rows in the arguments are frozen, then it is the contract k. -/
def frzCon (k : Con A) : Con A := fun args fresh => match args.flatMap rowsIn with
  | [] => k args fresh
  | i :: r => match nodupB (i :: r) && allLt fresh (i :: r) with
    | true => (match k (args.map (mapV dummyRow)) fresh with
      | some p0 => (match meetB (i :: r) p0.ids with
        | false => some ⟨(i :: r) ++ p0.ids, p0.nf, true, fun cs d => (match takeN cs (i :: r).length with
          | some c1 => (match k (args.map (mapV (frzArg (i :: r) c1))) fresh with
            | some p => (match eqNs p.ids p0.ids with
              | true => (match p.eff (cs.drop (i :: r).length) d with
                | .done C v cs' => .done C v ((i :: r).map (fun _ => .gone) ++ cs')
                | .need b => .need b
                | .fail => .fail)
              | false => .fail)
            | none => .fail)
          | none => .fail)⟩
        | true => none)
      | none => none)
    | false => none

theorem posB_none : ∀ {p : List Nat} {i : Nat}, posB p i = none → i ∉ p
  | [], i, _ => by simp
  | x :: r, i, h => by
    unfold posB at h
    split at h
    · cases h
    · rename_i hb
      split at h
      · cases h
      · rename_i hn
        have := posB_none hn
        simp only [List.mem_cons, not_or]
        exact ⟨fun e => (by subst e; rw [beqN_self] at hb; cases hb), this⟩
theorem nthC_getCs {H : List (Chunk A)} : ∀ {l : List Nat} {j i : Nat}, l[j]? = some i → nthC (getCs H l) j = getC H i
  | [], j, i, h => by simp at h
  | x :: r, 0, i, h => by simp at h; subst h; rfl
  | x :: r, j + 1, i, h => by
    have := nthC_getCs (H := H) (l := r) (j := j) (i := i) (by simpa using h)
    exact this
theorem getC_putGone : ∀ (ids : List Nat) (H : List (Chunk A)) (j : Nat), getC (putCs H ids (ids.map fun _ => .gone)) j = if j ∈ ids then .gone else getC H j
  | [], H, j => by simp [putCs]
  | i :: r, H, j => by
    show getC (putCs (putC H i .gone) r (r.map fun _ => .gone)) j = _
    rw [getC_putGone r, getC_putC]
    by_cases h1 : j ∈ r
    · rw [if_pos h1, if_pos (List.mem_cons_of_mem _ h1)]
    · rw [if_neg h1]
      by_cases h2 : j = i
      · rw [if_pos h2, if_pos (by rw [h2]; exact List.mem_cons_self ..)]
      · rw [if_neg h2, if_neg (by simp [h1, h2])]

theorem Holds.frozen {tmps : Array Value} (hh : Holds AI G s ρ tmps w) (ids : List Nat) :
    Holds AI G ⟨s.tm, putCs s.H ids (ids.map fun _ => .gone)⟩ (ρ.froze (fun i => i ∈ ids ∧ isRow (getC s.H i) = true) w) tmps w ∧ ρ.Le (ρ.froze (fun i => i ∈ ids ∧ isRow (getC s.H i) = true) w) := by
  let S : Nat → Prop := fun i => i ∈ ids ∧ isRow (getC s.H i) = true
  have hM : ∀ b o v, ρ.M b o = some v → (ρ.froze S w).M b o = some v := froze_M hh S
  have le : ρ.Le (ρ.froze S w) := ⟨hM, fun _ _ h => h, fun _ => Nat.le_refl _, fun _ _ _ => rfl⟩
  have hfoot : ∀ i b, b ∈ (ρ.froze S w).foot i → ¬ S i ∧ b ∈ ρ.foot i := by
    intro i b hb
    simp only [Ev.froze] at hb
    split at hb
    · cases hb
    · rename_i hn; exact ⟨hn, hb⟩
  refine ⟨⟨hh.sz, hh.gt, fun t v ht => ?_, fun i => ?_, fun i j b hij hi hj => hh.dis i j b hij (hfoot i b hi).2 (hfoot j b hj).2, fun i b hb => hh.lt i b (hfoot i b hb).2, fun b o v hm => ?_, hh.os, hh.tape, hh.output, hh.grow, hh.kept,
    fun i b hb => hh.fro i b (hfoot i b hb).2, hh.rt, hh.rts, fun b o v hm => hM _ _ _ (hh.mono b o v hm), fun b o v hm => ?_⟩, le⟩
  · obtain ⟨x, h2, h3⟩ := hh.tm t v ht
    exact ⟨x, h2, h3.mono le⟩
  · show HoldsC AI (ρ.froze S w) w i (getC (putCs s.H ids (ids.map fun _ => .gone)) i)
    rw [getC_putGone]
    split
    · trivial
    · rename_i hn
      exact (hh.ch i).stays le rfl rfl (by simp only [Ev.froze]; rw [if_neg (fun h => hn h.1)]) fun _ _ => rfl
  · simp only [Ev.froze] at hm
    split at hm
    · rename_i hex
      obtain ⟨k, hk, hbk⟩ := hex
      refine ⟨hm, fun i hb => ?_⟩
      obtain ⟨h1, h2⟩ := hfoot i b hb
      exact hh.dis i k b (fun e => h1 (e ▸ hk)) h2 hbk
    · exact ⟨(hh.im b o v hm).1, fun i hb => (hh.im b o v hm).2 i (hfoot i b hb).2⟩
  · simp only [Ev.froze] at hm
    split at hm
    · rename_i hex
      obtain ⟨k, hk, hbk⟩ := hex
      exact .inr (hh.fro k b hbk)
    · exact hh.mfr b o v hm

theorem Ev.Le.trans {ρ ρ' ρ'' : Ev} (h : ρ.Le ρ') (g : ρ'.Le ρ'') : ρ.Le ρ'' := by
  refine ⟨fun b o v hm => g.M _ _ _ (h.M _ _ _ hm), fun i b hb => g.ptr _ _ (h.ptr _ _ hb), fun i => Nat.le_trans (h.ver i) (g.ver i), fun i he hs => ?_⟩
  have h1 := h.ver i; have h2 := g.ver i
  have e1 := h.same i (by omega) hs
  exact (g.same i (by omega) (by rw [e1]; exact hs)).trans e1
theorem takeN_getCs {H : List (Chunk A)} (l m : List Nat) : takeN (getCs H (l ++ m)) l.length = some (getCs H l) := by
  have := takeN_app (getCs H l) (getCs H m)
  rw [getCs_length] at this
  rw [getCs_append]; exact this
theorem drop_getCs {H : List (Chunk A)} (l m : List Nat) : (getCs H (l ++ m)).drop l.length = getCs H m := by
  rw [getCs_append]
  have := getCs_length H l
  rw [← this, List.drop_left]

theorem frzCon_sound {fn : FuncId} {k : Con A} (hk : ConSound P AI fn k) : ConSound P AI fn (frzCon k) := by
  refine ⟨hk.1, fun args fresh p hp hw H d C v cs he => ?_, fun G s ρ tmps w args us fresh p d C v cs h hargs hp hfr he hC => ?_⟩
  · unfold frzCon at hp
    split at hp
    · exact hk.2.1 args fresh p hp hw H d C v cs he
    · split at hp <;> (try cases hp)
      split at hp <;> (try cases hp)
      split at hp <;> cases hp
      cases hw
  · unfold frzCon at hp
    split at hp
    · exact hk.2.2 G s ρ tmps w args us fresh p d C v cs h hargs hp hfr he hC
    · rename_i i r _
      generalize hids : i :: r = ids at hp
      split at hp <;> (try cases hp)
      rename_i hok
      obtain ⟨hnd, hlt⟩ := Bool.and_eq_true_iff.1 hok
      split at hp <;> (try cases hp)
      rename_i p0 hp0
      split at hp <;> cases hp
      rename_i hmeet
      dsimp only at he hfr ⊢
      rw [takeN_getCs] at he
      dsimp only at he
      split at he <;> (try (simp at he; done))
      rename_i p1 hp1
      split at he <;> (try (simp at he; done))
      rename_i heq
      have heq := eqNs_eq heq
      rw [drop_getCs] at he
      split at he <;> cases he
      rename_i cs' he'
      have hlt := allLt_lt hlt
      have hno := meetB_no hmeet
      let S : Nat → Prop := fun i => i ∈ ids ∧ isRow (getC s.H i) = true
      obtain ⟨h1, le⟩ := h.frozen ids
      have hval : ∀ x u, Den1 ρ x u → Den1 (ρ.froze S w) (frzArg ids (getCs s.H ids) x) u := by
        intro x u hv
        cases x <;> simp only [frzArg]
        case hd i ver =>
          split
          · rename_i j hj
            have hj := posB_some hj
            rw [nthC_getCs hj]
            have hc := h.ch i
            generalize hg : getC s.H i = c at hc
            cases c <;> (try trivial)
            rename_i t e u L
            dsimp only
            split
            · rename_i hbu
              have hbu := beq_eq hbu
              subst hbu
              obtain ⟨h1, h2⟩ := hc
              obtain ⟨_, _, h3⟩ := hv
              rw [h3 h1]
              exact rowAt_shows h (S := S) ⟨List.mem_of_getElem? hj, by rw [hg]; rfl⟩ h2 le.1
            · trivial
          · exact Den1.mono le hv
        all_goals exact Den1.mono le hv
      have hargs1 : All2 (Den (ρ.froze S w)) (args.map (mapV (frzArg ids (getCs s.H ids)))) us := hargs.mapL fun x u hx => mapV_den hval hx
      have hget : ∀ j ∈ p1.ids, getC (putCs s.H ids (ids.map fun _ => .gone)) j = getC s.H j := fun j hj => by
        rw [getC_putGone, if_neg (hno j (heq ▸ hj))]
      have e1 : getCs (putCs s.H ids (ids.map fun _ => .gone)) p1.ids = getCs s.H p0.ids := by
        rw [getCs_congr hget, heq]
      refine (hk.2.2 G _ _ tmps w _ us fresh p1 d C v cs' h1 hargs1 hp1 (fun j hj hf => ?_) (by rw [e1]; exact he') hC).mono ?_
      · rw [hget j hj]
        exact hfr j (List.mem_append.2 (.inr (heq ▸ hj))) hf
      · rintro e w' ⟨y, ρ', rfl, g1, g2, g3⟩
        refine ⟨y, ρ', rfl, ?_, g2, le.trans g3⟩
        rw [putCs_append _ _ _ _ _ (by rw [List.length_map]), ← heq]
        exact g1

/-- A function of data that returns a new row. -/
def RowSpec.conO (k : RowSpec) : Con A := fun args fresh => match ofs k.ds args with
  | some x => some ⟨[fresh], 1, true, fun cs _ => match cs with
    | [.emp] => .done (fun _ => k.pre (x ())) (one (.hd fresh 0)) [.row k.et k.e 0 (fun _ => k.f (x ()))]
    | _ => .fail⟩
  | none => none
theorem RowSpec.soundO {fn : FuncId} {k : RowSpec} (hen : Enters P fn) (hk : k.Ok P AI fn) : ConSound P AI fn k.conO := by
  refine ⟨hen, fun args fresh p hp hw H d C v cs he => ?_, fun G s ρ tmps w args us fresh p d C v cs h hargs hp hfr he hC => ?_⟩
  · unfold RowSpec.conO at hp
    split at hp <;> cases hp
    simp at hw
  · unfold RowSpec.conO at hp
    split at hp <;> cases hp
    rename_i x hx
    have hemp : getC s.H fresh = .emp := hfr fresh (by simp) (Nat.le_refl _)
    simp only [getCs, hemp] at he
    have hd := ofs_den hx hargs
    simp at he
    obtain ⟨rfl, rfl, rfl⟩ := he
    refine (frame_call (hk (x ()) hC) (s := s) (H' := putC s.H fresh (.row k.et k.e 0 (fun _ => k.f (x ())))) (ids := []) (news := [fresh]) h (by simp) rfl (fun i hi => by simp at hi; subst hi; exact hemp) (by simp) (fun j i hj => ?_) (fun i' hi' => by
        rw [getC_putC, if_neg (by simpa using hi')]) (us := us) (fun ρc hM hr => argS_den hd hM)
      (v := one (.hd fresh 0)) (fun ρc ρ' hM hr hv y hy => ?_)).mono ?_
    · cases j with
      | zero =>
        simp at hj
        subst hj
        exact ⟨by rw [getC_putC, if_pos rfl]; rfl, (fun t cs => by simp [getC, nth]), (fun ks e L R c q => by simp [getC, nth]), fun t tb u L q => by simp [getC, nth]⟩
      | succ j => simp at hj
    · obtain ⟨h1, h2, h3⟩ := hy
      have e1 := hr 0 fresh rfl
      have e2 := hv 0 fresh rfl
      exact ⟨h1, Nat.zero_le _, fun h => by rw [e1]; exact h3 (h.trans e2)⟩
    · rintro e w' ⟨y, ρ', rfl, h1, h2, h3⟩
      exact ⟨y, ρ', rfl, h1, h2, h3⟩
/-- A type of ints whose differences need not fit. -/
theorem EnvOk.soft {E : Env A} (hE : EnvOk P AI E) {t : Nat} {i : TI} (h : look E.ti t = some i) : EnvOk P AI ⟨(t, ⟨i.kind, i.size, 2, i.zero⟩) :: E.ti, E.con⟩ := by
  refine ⟨fun t' i' h' => ?_, hE.con⟩
  rw [look_cons] at h'
  split at h'
  · rename_i e
    cases h'; subst e
    obtain ⟨h1, h2, _⟩ := hE.ti _ _ h
    exact ⟨h1, h2, fun hb => by cases hb⟩
  · exact hE.ti _ _ h'
end Go.Sx

/-
  Symbolic execution: functions that make an object, methods that return a new row, methods whose object gets new parts.
-/
namespace Go.Sx
set_option linter.all false
set_option linter.unusedVariables false
set_option linter.unusedSimpArgs false
set_option linter.unusedSectionVars false
open Go.RowKit

variable {A : Type} {AI : Abs A} {G : Fr} {s : SS A} {ρ : Ev} {a : Act} {w : World} {P : Program} {lay : A → List (Chunk A)} {tq : TabQ}

/-! ### functions that return a new object -/
structure MakeSpec (A : Type) where
  ds : List DT
  pre : Tup ds → Prop
  put : U (Tup ds) → A
def MakeSpec.con (k : MakeSpec A) : Con A := fun args fresh => match ofs k.ds args with
  | some x => some ⟨[fresh], 1, true, fun cs _ => match cs with
    | [.emp] => .done (fun _ => k.pre (x ())) (one (.ptr fresh 0)) [.abs (k.put x)]
    | _ => .fail⟩
  | none => none
structure MakeSpec.Ok (P : Program) (AI : Abs A) (fn : FuncId) (k : MakeSpec A) : Prop where
  put : ∀ x, k.put x = k.put (fun _ => x ())
  ok : ∀ x, k.pre x → TmplOk P AI fn (argS k.ds (fun _ => x)) [] (resOf [.one (.ptr 0 0)]) [.abs (k.put (fun _ => x))]
theorem MakeSpec.sound {fn : FuncId} {k : MakeSpec A} (hen : Enters P fn) (hk : k.Ok P AI fn) : ConSound P AI fn k.con := by
  refine ⟨hen, fun args fresh p hp hw H d C v cs he => ?_, fun G s ρ tmps w args us fresh p d C v cs h hargs hp hfr he hC => ?_⟩
  · unfold MakeSpec.con at hp
    split at hp <;> cases hp
    simp at hw
  · unfold MakeSpec.con at hp
    split at hp <;> cases hp
    rename_i x hx
    have hemp : getC s.H fresh = .emp := hfr fresh (by simp) (Nat.le_refl _)
    simp only [getCs, hemp] at he
    have hd := ofs_den hx hargs
    simp at he
    obtain ⟨rfl, rfl, rfl⟩ := he
    refine (frame_call (hk.ok (x ()) hC) (s := s) (H' := putC s.H fresh (.abs (k.put x))) (ids := []) (news := [fresh]) h (by simp) rfl (fun i hi => by simp at hi; subst hi; exact hemp) (by simp) (fun j i hj => ?_) (fun i' hi' => by
        rw [getC_putC, if_neg (by simpa using hi')]) (us := us) (fun ρc hM hr => argS_den hd hM)
      (v := one (.ptr fresh 0)) (fun ρc ρ' hM hr _ y hy => ?_)).mono ?_
    · cases j with
      | zero =>
        simp at hj
        subst hj
        exact ⟨by rw [getC_putC, if_pos rfl, hk.put]; rfl, (fun t cs => by simp [getC, nth]), (fun ks e L R c q => by simp [getC, nth]), fun t tb u L q => by simp [getC, nth]⟩
      | succ j => simp at hj
    · obtain ⟨b, h1, h2⟩ := hy
      exact ⟨b, by rw [hr 0 fresh rfl]; exact h1, h2⟩
    · rintro e w' ⟨y, ρ', rfl, h1, h2, h3⟩
      exact ⟨y, ρ', rfl, h1, h2, h3⟩

/-! ### methods that return a new row -/
structure RowMeth (A : Type) where
  S : Type
  sel : A → Option (U S)
  put : U S → A
  ds : List DT
  pre : S → Tup ds → Prop
  et : TypeId
  e : Ty
  f : S → Tup ds → List e.T
  next : S → Tup ds → S
def RowMeth.con (k : RowMeth A) : Con A := fun args fresh => match args with
  | .val (.one (.ptr i 0)) :: args => (match ofs k.ds args with
    | some x => (match beqN i fresh with
      | true => none
      | false => some ⟨[i, fresh], 1, true, fun cs _ => match cs with
        | [.abs a, .emp] => (match k.sel a with
          | some W => .done (fun _ => k.pre (W ()) (x ())) (one (.hd fresh 0)) [.abs (k.put (fun _ => k.next (W ()) (x ()))), .row k.et k.e 0 (fun _ => k.f (W ()) (x ()))]
          | none => .fail)
        | _ => .fail⟩)
    | none => none)
  | _ => none
structure RowMeth.Ok (P : Program) (AI : Abs A) (fn : FuncId) (k : RowMeth A) : Prop where
  sel : ∀ a W, k.sel a = some W → a = k.put (fun _ => W ())
  ok : ∀ W x, k.pre W x → TmplOk P AI fn (one (.ptr 0 0) :: argS k.ds (fun _ => x)) [.abs (k.put (fun _ => W))] (one (.hd 1 0)) [.abs (k.put (fun _ => k.next W x)), .row k.et k.e 0 (fun _ => k.f W x)]
theorem RowMeth.sound {fn : FuncId} {k : RowMeth A} (hen : Enters P fn) (hk : k.Ok P AI fn) : ConSound P AI fn k.con := by
  refine ⟨hen, fun args fresh p hp hw H d C v cs he => ?_, fun G s ρ tmps w args us fresh p d C v cs h hargs hp hfr he hC => ?_⟩
  · unfold RowMeth.con at hp
    split at hp <;> (try cases hp)
    split at hp <;> (try cases hp)
    split at hp <;> cases hp
    simp at hw
  · unfold RowMeth.con at hp
    split at hp <;> (try cases hp)
    rename_i i args
    split at hp <;> (try cases hp)
    rename_i x hx
    split at hp <;> cases hp
    rename_i hne
    have hne : i ≠ fresh := fun e => by rw [e, beqN_self] at hne; cases hne
    have hemp : getC s.H fresh = .emp := hfr fresh (by simp) (Nat.le_refl _)
    simp only [getCs, hemp] at he
    generalize hg : getC s.H i = c at he
    cases c <;> (try (simp at he; done))
    rename_i a
    dsimp only at he
    split at he <;> (try (simp at he; done))
    rename_i W hW
    have ha := hk.sel a W hW
    simp at he
    obtain ⟨rfl, rfl, rfl⟩ := he
    cases hargs with
    | @cons _ u _ us hu hargs =>
    have hd := ofs_den hx hargs
    obtain ⟨b, hb1, hb2⟩ := hu
    refine (frame_call (hk.ok (W ()) (x ()) hC) (s := s) (H' := putC (putC s.H i (.abs (k.put (fun _ => k.next (W ()) (x ()))))) fresh (.row k.et k.e 0 (fun _ => k.f (W ()) (x ())))) (ids := [i]) (news := [fresh]) h (by simp [hne]) rfl
      (fun i' hi' => by simp at hi'; subst hi'; exact hemp) (fun j i' hj => ?_) (fun j i' hj => ?_) (fun i' hi' => ?_) (us := u :: us) (fun ρc hM hr => ?_)
      (v := one (.hd fresh 0)) (fun ρc ρ' hM hr hv y hy => ?_)).mono ?_
    · cases j with
      | zero =>
        simp at hj
        subst hj
        exact .inl ⟨a, _, hg, by rw [getC_putC, if_neg hne, getC_putC, if_pos rfl], by rw [ha]; rfl, rfl⟩
      | succ j => simp at hj
    · cases j with
      | zero =>
        simp at hj
        subst hj
        exact ⟨by rw [getC_putC, if_pos rfl]; rfl, (fun t cs => by simp [getC, nth]), (fun ks e L R c q => by simp [getC, nth]), fun t tb u L q => by simp [getC, nth]⟩
      | succ j => simp at hj
    · simp at hi'
      rw [getC_putC, if_neg hi'.2, getC_putC, if_neg hi'.1]
    · refine .cons ?_ (argS_den hd hM)
      obtain ⟨h1, h2⟩ := hr 0 i rfl
      exact ⟨b, by rw [h1]; exact hb1, hb2⟩
    · obtain ⟨h1, h2, h3⟩ := hy
      have e1 := hr 1 fresh rfl
      have e2 := hv 0 fresh rfl
      exact ⟨h1, Nat.zero_le _, fun h => by rw [e1]; exact h3 (h.trans e2)⟩
    · rintro e w' ⟨y, ρ', rfl, h1, h2, h3⟩
      exact ⟨y, ρ', rfl, h1, h2, h3⟩

/-- As tmpl_obj, with the parts in any order at the end. -/
theorem tmpl_objR [SubA A] {E : Env A} (hE : EnvOk P (absOf lay tq) E) (hm : P.follows .mixedOrders = true) {f : FuncId} {fn : Func} {c : Code} (hf : P.funcs[f]? = some fn) (hb : fn.body = some c) (hok : codeOk fn.ntmps c = true) {args : List SV} (hargs : args.length ≤ fn.ntmps)
    {x x' : A} (hl : LayOk (lay x)) (hl' : LayOk (lay x')) {v : SV} (hv : closedV v = true)
    (h : svc E 1 c ⟨argT 0 args, openObj (lay x) []⟩ (finR E.ti 1 fn.results.toList v (openObj (lay x') []))) :
    TmplOk P (absOf lay tq) f args [.abs x] v [.abs x'] := by
  intro G ρ w us hG hsz hh hd
  simp only [List.length_cons, List.length_nil] at hG
  obtain ⟨ρ1, h1, le1⟩ := hh.open_ (i := 0) (base := 1) (x := x) rfl (by omega) (fun k hk => getC_beyond (by simpa using hk)) hl (H' := openObj (lay x) [])
    (fun j hj => by have := openObj_part (rest := []) (news := []) hj; simpa using this) (fun k hk => by
      have := openObj_other (rest := []) (news := []) hl.pos hk
      rw [List.append_nil] at this
      rw [this]
      split
      · rename_i hlt
        cases k with
        | zero => exact absurd rfl (hk 0 hl.pos)
        | succ k => rfl
      · rename_i hlt
        rw [getC_beyond (show ([] : List (Chunk A)).length ≤ _ by simp), getC_beyond (by simp; omega)])
  have hd1 := hd.mono fun _ _ => Den.mono le1
  refine calls_of_wp hf hb ?_
  have hlen := hd1.length
  have h2 := h1.enter hd1 (n := fn.ntmps) (by omega)
  refine svc_sound (AI := absOf lay tq) (G := { G with size := fn.ntmps }) hE hm (by simpa using hG) c hok _ _ _ _ w h ⟨rfl, ρ1, h2⟩ fun e s' hq => ?_
  refine finR_of (AI := absOf lay tq) (G := { G with size := fn.ntmps }) hE.ti (by simpa using hG) hq (R := fun e w' => ∃ y ρ', e = .returned y ∧ Holds (absOf lay tq) G ⟨[], [.abs x']⟩ ρ' #[] w' ∧ Den ρ' v y) fun y ρ' w' h3 h4 => ?_
  have e1 : ({ { G with size := fn.ntmps } with size := 0 } : Fr) = G := by cases G; simp at hsz; subst hsz; rfl
  rw [e1] at h3
  obtain ⟨ρ3, h5, h6, _⟩ := h3.close_obj (rest' := []) hl' rfl (by rw [hG]; simp)
  exact ⟨y, ρ3, rfl, h5, closedV_den h6 hv h4⟩
/-- As tmpl_of_body, with the parts in any order at the end. -/
theorem tmpl_bodyR [SubA A] {E : Env A} (hE : EnvOk P AI E) (hm : P.follows .mixedOrders = true) {f : FuncId} {fn : Func} {c : Code} (hf : P.funcs[f]? = some fn) (hb : fn.body = some c) (hok : codeOk fn.ntmps c = true) {args : List SV} (hargs : args.length ≤ fn.ntmps) {H0 : List (Chunk A)}
    {v : SV} {H1 : List (Chunk A)} (h : svc E H0.length c ⟨argT 0 args, H0⟩ (finR E.ti H0.length fn.results.toList v H1)) : TmplOk P AI f args H0 v H1 := by
  intro G ρ w us hG hsz hh hd
  refine calls_of_wp hf hb ?_
  have hlen := hd.length
  have h2 := hh.enter hd (n := fn.ntmps) (by omega)
  refine svc_sound (AI := AI) (G := { G with size := fn.ntmps }) hE hm (by simpa using hG) c hok _ _ _ _ w h ⟨rfl, ρ, h2⟩ fun e s' hq => ?_
  refine finR_of (AI := AI) (G := { G with size := fn.ntmps }) hE.ti (by simpa using hG) hq (R := fun e w' => ∃ y ρ', e = .returned y ∧ Holds AI G ⟨[], H1⟩ ρ' #[] w' ∧ Den ρ' v y) fun y ρ' w' h3 h4 => ?_
  have e1 : ({ { G with size := fn.ntmps } with size := 0 } : Fr) = G := by cases G; simp at hsz; subst hsz; rfl
  rw [e1] at h3
  exact ⟨y, ρ', rfl, h3, h4⟩
end Go.Sx

/-
  Symbolic execution: slices.Sorted(maps.Keys(m)) at keys that are ints: a new row of the keys in ascending order.
-/
namespace Go.Sx
set_option linter.all false
set_option linter.unusedVariables false
set_option linter.unusedSimpArgs false
set_option linter.unusedSectionVars false
open Go.RowKit Go.Proofs Go.WideShapes Go.Maps

variable {A : Type} {AI : Abs A} {P : Program}

def insI (x : Int) : List Int → List Int
  | [] => [x]
  | y :: r => if x ≤ y then x :: y :: r else y :: insI x r
def sortI : List Int → List Int
  | [] => []
  | x :: r => insI x (sortI r)
def keysI {V : Type} (l : List (Int × V)) : List Int := l.map fun p => p.1
theorem insI_perm (x : Int) : ∀ l : List Int, (insI x l).Perm (x :: l)
  | [] => .refl _
  | y :: r => by
    unfold insI
    split
    · exact .refl _
    · exact ((insI_perm x r).cons y).trans (.swap x y r)
theorem sortI_perm : ∀ l : List Int, (sortI l).Perm l
  | [] => .refl _
  | x :: r => (insI_perm x _).trans ((sortI_perm r).cons x)
theorem insI_asc (x : Int) : ∀ l : List Int, l.Pairwise (· ≤ ·) → (insI x l).Pairwise (· ≤ ·)
  | [], _ => List.pairwise_singleton _ _
  | y :: r, h => by
    obtain ⟨h1, h2⟩ := List.pairwise_cons.1 h
    unfold insI
    split
    · rename_i hxy
      refine List.pairwise_cons.2 ⟨fun z hz => ?_, h⟩
      rcases List.mem_cons.1 hz with rfl | hz
      · exact hxy
      · exact Int.le_trans hxy (h1 z hz)
    · rename_i hxy
      refine List.pairwise_cons.2 ⟨fun z hz => ?_, insI_asc x r h2⟩
      rcases List.mem_cons.1 ((insI_perm x r).subset hz) with rfl | hz
      · omega
      · exact h1 z hz
theorem sortI_asc : ∀ l : List Int, (sortI l).Pairwise (· ≤ ·)
  | [] => .nil
  | x :: r => insI_asc x _ (sortI_asc r)
theorem asc_eq : ∀ {l m : List Int}, l.Perm m → l.Pairwise (· ≤ ·) → m.Pairwise (· ≤ ·) → l = m
  | [], m, h, _, _ => (List.Perm.nil_eq h)
  | a :: l, [], h, _, _ => absurd h.length_eq (by simp)
  | a :: l, b :: m, h, h1, h2 => by
    obtain ⟨p1, p2⟩ := List.pairwise_cons.1 h1
    obtain ⟨q1, q2⟩ := List.pairwise_cons.1 h2
    have e : a = b := by
      have ha : a ∈ b :: m := h.subset (List.mem_cons_self ..)
      have hb : b ∈ a :: l := h.symm.subset (List.mem_cons_self ..)
      rcases List.mem_cons.1 ha with e | ha
      · exact e
      rcases List.mem_cons.1 hb with e | hb
      · exact e.symm
      have := p1 b hb; have := q1 a ha; omega
    subst e
    rw [asc_eq ((List.perm_cons _).1 h) p2 q2]
theorem sortI_congr {l m : List Int} (h : l.Perm m) : sortI l = sortI m :=
  asc_eq ((sortI_perm l).trans (h.trans (sortI_perm m).symm)) (sortI_asc l) (sortI_asc m)
theorem mergeSort_eq (l : List Int) : (l.mergeSort fun x y => decide (x ≤ y)) = sortI l := by
  have h := List.pairwise_mergeSort (le := fun x y : Int => decide (x ≤ y)) (fun a b c h1 h2 => by simp at h1 h2 ⊢; omega) (fun a b => by simp; omega) l
  exact asc_eq ((List.mergeSort_perm _ _).trans (sortI_perm l).symm) (h.imp fun h => by simpa using h) (sortI_asc l)
theorem sortI_of {l : List Int} (h : l.Pairwise (· ≤ ·)) : sortI l = l := asc_eq (sortI_perm l) (sortI_asc l) h

def sortedCon (g : FuncId) (et : TypeId) (i : Nat) : Con A := fun args fresh => match args with
  | [.val (.fn f [.ptr k 0])] => (match beqN f g && !beqN k i && !beqN k fresh && !beqN i fresh with
    | true => some ⟨[k, i, fresh], 1, true, fun cs _ => match cs with
      | [.cells t [.mp i'], .map (.int .i64) e L, .emp] => (match beqN i i' with
        | true => .done (fun _ => (keysI (L ())).Nodup ∧ (∀ x ∈ keysI (L ()), inI64 x) ∧ (L ()).length ≤ 4194304) (one (.hd fresh 0)) [.cells t [.mp i'], .map (.int .i64) e L, .row et (.int .i64) 0 (fun _ => sortI (keysI (L ())))]
        | false => .fail)
      | _ => .fail⟩
    | false => none)
  | _ => none

theorem wf_i64 {n : Int} (hn : inI64 n) : (Lit.int .i64 n).wf = true := by
  have h1 : IntKind.i64.min = -9223372036854775808 := by rfl
  have h2 : IntKind.i64.max = 9223372036854775807 := by rfl
  simp only [Lit.wf, h1, h2, Bool.and_eq_true, decide_eq_true_eq]
  exact hn

/-- How an element is read: not at all. -/
def noR : Value → Option (DataW Unit × List MemPlace) := fun _ => some (.nil, [])
theorem rd_int {k : TypeId} (hk : P.underlying k = some (.int .i64)) {n : Int} (hn : inI64 n) {x : MapEntry} (hx : x.key = .int .i64 n) : Go.WideElems.rd P k noR x = some (.int .i64 n, .nil) := by
  unfold Go.WideElems.rd
  rw [hx, keyOf_int_mk hk (wf_i64 hn)]
  rfl

theorem mapAt_owns {M : Mem} {w : World} {b : Nat} {es : Array MapEntry} {clock : Nat} {e : Ty} {L : List (Int × e.T)} (hb : w.heap[b]? = some (.map es clock)) (hm : MapAt M (.int .i64) e L es.toList clock) {k : TypeId} (hk : P.underlying k = some (.int .i64))
    (hn : (keysI L).Nodup) (hi : ∀ x ∈ keysI L, inI64 x) (hl : L.length ≤ 4194304) :
    ∃ D0 : DataW Unit, w.ownsMap P k noR b L.length D0 ∧ (intKeys D0).Perm (keysI L) ∧ Maps.size D0 = L.length := by
  obtain ⟨h1, h2, h3⟩ := hm
  have hlen : L.length = es.size := by rw [h1.length]; simp
  have hkeys : ∀ (L : List (Int × e.T)) (l : List MapEntry), All2 (fun p (m : MapEntry) => m.key = (KT.int .i64).mk p.1 ∧ (KT.int .i64).ok p.1 ∧ ValIs M e p.2 m.val) L l → l.map (·.key) = (keysI L).map fun x => Value.int .i64 x := by
    intro L l h
    induction h with
    | nil => rfl
    | cons h _ ih => simp only [List.map_cons, keysI] at ih ⊢; rw [ih, h.1]; rfl
  have hk1 := hkeys L es.toList h1
  have hread : ∀ (L : List (Int × e.T)) (l : List MapEntry), All2 (fun p (m : MapEntry) => m.key = (KT.int .i64).mk p.1 ∧ (KT.int .i64).ok p.1 ∧ ValIs M e p.2 m.val) L l → (∀ x ∈ keysI L, inI64 x) → l.map (Go.WideElems.rg P k noR) = (keysI L).map fun x => ((.int .i64 x : Lit), (.nil : DataW Unit)) := by
    intro L l h
    induction h with
    | nil => intro _; rfl
    | cons h _ ih =>
      intro hi
      simp only [List.map_cons, keysI] at ih hi ⊢
      rw [ih fun x hx => hi x (List.mem_cons_of_mem _ hx)]
      congr 1
      unfold Go.WideElems.rg
      rw [rd_int hk (hi _ (List.mem_cons_self ..)) h.1]
      rfl
  have hr1 := hread L es.toList h1 hi
  have hst : Go.MapKept.Stamped es clock := by
    refine ⟨h3, h2.imp fun h => Nat.ne_of_lt h, ?_⟩
    rw [hk1]
    exact List.pairwise_map.2 (hn.imp fun hne he => hne (by simpa using he))
  refine ⟨_, ⟨es, clock, hb, ⟨by rw [← hlen]; exact Nat.le_trans hl (by decide), hst, fun x hx => ?_⟩, by omega, rfl⟩, ?_, ?_⟩
  · have : x.key ∈ es.toList.map (·.key) := List.mem_map_of_mem hx
    rw [hk1] at this
    obtain ⟨n, hn1, hn2⟩ := List.mem_map.1 this
    exact ⟨_, rd_int hk (hi n hn1) hn2.symm⟩
  · show (((es.toList.map (Go.WideElems.rg P k noR)).foldr DataW.insert []).map fun p => intOf p.1).Perm _
    refine ((sorted_perm _).map _).trans ?_
    rw [hr1, List.map_map]
    exact List.Perm.of_eq (List.map_id' _)
  · rw [Maps.size_eq, (sorted_perm _).length_eq, List.length_map]
    simpa using hlen.symm

theorem sortedCon_sound {ρ1 ρ2 : Shelf.Ren} (L7 : SlLaysZI.n10 P ρ1) (L6 : SlLaysZI.n6 P ρ2) (hsort : AnyZI.SortsIn P ρ2 Fence.wide 4) {f g : FuncId} (hf : ρ2.f 6 = f) (hg : ρ1.f 10 = g) (enf : Enters P f) (eng : Enters P g) (en9 : Enters P (ρ2.f 9)) (et : TypeId) (i : Nat) :
    ConSound P AI f (sortedCon g et i) := by
  subst hf hg
  refine ⟨enf, fun args fresh p hp hw => ?_, fun G s ρ tmps w args us fresh p d C v cs h hargs hp hfr he hC => ?_⟩
  · unfold sortedCon at hp
    split at hp
    · split at hp <;> cases hp
      cases hw
    · cases hp
  · unfold sortedCon at hp
    split at hp <;> (try (cases hp; done))
    rename_i f' k
    split at hp <;> cases hp
    rename_i hcond
    simp only [Bool.and_eq_true, beqN_iff, Bool.not_eq_true', beqN] at hcond
    obtain ⟨⟨⟨hfg, hki⟩, hkf⟩, hif⟩ := hcond
    have hfg : f' = ρ1.f 10 := by simpa using hfg
    have hki : k ≠ i := by simpa using hki
    have hkf : k ≠ fresh := by simpa using hkf
    have hif : i ≠ fresh := by simpa using hif
    subst hfg
    have hemp : getC s.H fresh = .emp := hfr fresh (by simp) (Nat.le_refl _)
    simp only [getCs] at he
    split at he <;> (try (cases he; done))
    rename_i t i' e L hcs
    split at he <;> cases he
    rename_i hii
    have hii : i = i' := beqN_iff.1 hii
    subst hii
    simp only [List.cons.injEq, and_true] at hcs
    obtain ⟨hck, hci, _⟩ := hcs
    obtain ⟨hn, hi, hl⟩ := hC
    have h1 := h.ch k
    have h2 := h.ch i
    rw [hck] at h1
    rw [hci] at h2
    obtain ⟨bk, vs, hr1, hf1, hb1, hd1⟩ := h1
    obtain ⟨b, es, clock, hr2, hf2, hb2, hm2⟩ := h2
    cases hd1 with
    | cons hd hnil =>
    cases hnil
    rename_i v0
    obtain ⟨b', hb', rfl⟩ := hd
    have : b' = b := by
      rw [hr2] at hb'
      simpa using hb'.symm
    subst this
    cases hargs with
    | cons ha hnil =>
    cases hnil
    obtain ⟨caps, rfl, hcaps⟩ := ha
    cases hcaps with
    | cons hc hnil =>
    cases hnil
    obtain ⟨bk', hbk', rfl⟩ := hc
    have : bk' = bk := by
      rw [hr1] at hbk'
      simpa using hbk'.symm
    subst this
    obtain ⟨D0, hown, hperm, hsize⟩ := mapAt_owns (P := P) (k := ρ1.t 26) hb2 hm2 L7.t26 hn hi hl
    have hlt : bk' < w.heap.size := by
      exact (Array.getElem?_eq_some_iff.1 hb1).1
    have hseq : SeqGives Fence.wide 2 P (ρ1.f 10) #[.pointer (some ⟨bk', 0, none⟩)] encZ (fun ss => ss.Perm (intKeys D0)) (Maps.size D0) w :=
      AnyZI.keys_gives L7 Fence.wide 2 trivial rfl (by omega) bk' b' _ D0 w hlt (by simp [World.cell?, hb1]) hown
    have cS := AnyZI.sorted_in L6 Fence.wide 5 trivial trivial trivial trivial rfl (by omega) hsort en9 (ρ1.f 10) #[.pointer (some ⟨bk', 0, none⟩)] trivial eng _ _ (by rw [hsize]; exact Nat.le_trans hl (by decide)) (by rw [hsize]; omega) w hseq
    refine ((callsIn_wide (n := 5)).1 cS).mono ?_
    rintro e1 w' ⟨y, ss, rfl, hS, hrow, _, hbel⟩
    have hsorted : ss.mergeSort (fun x y => decide (x ≤ y)) = sortI (keysI (L ())) := (mergeSort_eq ss).trans (sortI_congr (hS.trans hperm))
    have hlen : ss.length = (sortI (keysI (L ()))).length := by rw [← hsorted]; exact (List.mergeSort_perm _ _).length_eq.symm
    rw [hsorted, hlen] at hrow
    have hc := h.ch fresh
    rw [hemp] at hc
    obtain ⟨hc1, hc2, hc3⟩ := hc
    have hrowAt : ∃ F : List Nat, RowAt et ρ.M w' (.int .i64) (sortI (keysI (L ()))) y F ∧ (∀ x ∈ F, w.heap.size ≤ x ∧ x < w'.heap.size) ∧ ∃ ao l c, y = .slice ao l c := by
      obtain ⟨hr0, hr⟩ := hrow
      rcases hr with ⟨rfl, hz⟩ | ⟨gb, cap, cur, rfl, g1, g2, g3, g4, g5, g6⟩
      · exact ⟨[], .inl ⟨⟨_, rfl⟩, List.eq_nil_of_length_eq_zero hz, rfl⟩, fun x hx => (by cases hx), _, _, _, rfl⟩
      · refine ⟨[gb], .inr ⟨gb, 0, cap, rfl, rfl, g3, g4, fun j x hj => ?_, fun j hj => ?_, fun he => by cases he⟩, fun x hx => ?_, _, _, _, rfl⟩
        · show w'.cell? ⟨gb, 0 + j * 1 + 0, none⟩ = some (.int .i64 x)
          have hjl : j < (sortI (keysI (L ()))).length := (List.getElem?_eq_some_iff.1 hj).1
          have h3 : (cur.toList.take ((sortI (keysI (L ()))).length * 1))[j]? = some (encZ x) := by rw [g6, List.getElem?_map, hj]; rfl
          rw [List.getElem?_take_of_lt (by omega)] at h3
          simp only [World.cell?, g2]
          simpa [encZ] using h3
        · have hjc : j < cur.size := by rw [g5]; exact hj
          simp only [World.cell?, World.frozen?, g2]
          simp [hjc]
        · simp only [List.mem_singleton] at hx
          subst hx
          exact ⟨g1, (Array.getElem?_eq_some_iff.1 g2).1⟩
    obtain ⟨F, hF1, hF2, hF3⟩ := hrowAt
    obtain ⟨h8, h9⟩ := h.upd1 fresh y 0 F (.row et (.int .i64) 0 (fun _ => sortI (keysI (L ())))) w' (by rw [hc2]; simp) (by omega) (by rw [hc2]; simp) (fun b hb => ⟨.inr (hF2 b hb).1, (hF2 b hb).2⟩) (fun b hb _ => hbel.block b hb) hbel.os hbel.tape hbel.output hbel.size
      ⟨by simp [Ev.upd], by
        have e3 : (ρ.upd fresh y 0 F).root fresh = y := by simp [Ev.upd]
        have e4 : (ρ.upd fresh y 0 F).foot fresh = F := by simp [Ev.upd]
        rw [e3, e4]
        exact hF1⟩
    refine ⟨y, _, rfl, h8.congrH fun j => ?_, ⟨hF3, by simp [Ev.upd], fun _ => by simp [Ev.upd]⟩, h9⟩
    simp only [putCs, getC_putC]
    by_cases e1 : j = fresh
    · simp [e1]
    · simp only [e1, if_false]
      by_cases e2 : j = i
      · subst e2; simp [hci]
      · simp only [e2, if_false]
        by_cases e3 : j = k
        · subst e3; simp [hck]
        · simp [e3]
end Go.Sx

/-
  Symbolic execution: a method of an object that leaves a new row; a function whose argument is nil.
-/
namespace Go.Sx
set_option linter.all false
set_option linter.unusedVariables false
set_option linter.unusedSimpArgs false
set_option linter.unusedSectionVars false
open Go.RowKit

variable {A : Type} {AI : Abs A} {G : Fr} {s : SS A} {ρ : Ev} {a : Act} {w : World} {P : Program} {lay : A → List (Chunk A)} {tq : TabQ}
theorem Holds.close_objW {x' : A} {rest' : List (Chunk A)} {tmps : Array Value} (hl' : LayOk (lay x')) (hflat : rest'.all flatC = true) (hn : G.n0 ≤ rest'.length + 1) (h : Holds (absOf lay tq) G ⟨[], openObj (lay x') rest'⟩ ρ tmps w) :
    ∃ ρ', Holds (absOf lay tq) G ⟨[], .abs x' :: rest'⟩ ρ' tmps w ∧ ρ'.M = ρ.M ∧ ∀ i, i < rest'.length + 1 → ρ'.root i = ρ.root i ∧ ρ'.ver i = ρ.ver i := by
  obtain ⟨ρ2, h2, e1, e2, e3⟩ := h.close_ (i := 0) (base := rest'.length + 1) (x := x') (by omega) hl' (fun j hj => by have := openObj_part (rest := rest') (news := []) hj; simpa using this)
    (H' := shutObj x' ((lay x').length - 1) rest' []) rfl (fun j h0 hj => by
      cases j with
      | zero => omega
      | succ j =>
        show getC (.abs x' :: (rest' ++ (List.replicate _ .gone ++ []))) (rest'.length + 1 + j) = .gone
        rw [show rest'.length + 1 + j = (rest'.length + j) + 1 by omega, getC_cons_succ, getC_app_right (by omega), List.append_nil]
        unfold getC
        rw [nth_eq, List.getElem?_replicate, if_pos (by omega)]) (fun k hk => by
      have := openObj_other (news := []) hl'.pos hk
      rw [List.append_nil] at this
      show getC (.abs x' :: (rest' ++ (List.replicate _ .gone ++ []))) k = getC (openObj (lay x') rest') k
      rw [this]
      cases k with
      | zero => exact absurd rfl (hk 0 hl'.pos)
      | succ k =>
        rw [getC_cons_succ]
        split
        · rename_i hlt; rw [getC_app_left (by omega)]; rfl
        · rename_i hlt
          rw [getC_beyond (show ([] : List (Chunk A)).length ≤ _ by simp), getC_beyond]
          have h1 : rest'.length + (lay x').length ≤ k + 1 := by
            rcases Nat.lt_or_ge (k + 1) (rest'.length + (lay x').length) with h2 | h2
            · exact absurd (show k + 1 = place 0 (rest'.length + 1) (k + 1 - rest'.length) by rw [show k + 1 - rest'.length = (k - rest'.length) + 1 by omega]; simp [place]; omega) (hk _ (by omega))
            · exact h2
          have := hl'.pos
          simp; omega)
  have h3 := h2.drop (H1 := .abs x' :: rest') (by simpa using hn) (fun i hi => by
    cases i with
    | zero => rfl
    | succ i =>
      simp only [List.length_cons] at hi
      show getC rest' i = getC (rest' ++ _) i
      rw [getC_app_left (by omega)]) (by simp only [List.all_cons, hflat, Bool.and_true]; rfl)
  exact ⟨_, h3, e3, fun i hi => by simp [Ev.trim, e1, e2, hi]⟩


/-- As tmpl_objR; a new row is left behind. -/
theorem tmpl_objN [SubA A] {E : Env A} (hE : EnvOk P (absOf lay tq) E) (hm : P.follows .mixedOrders = true) {f : FuncId} {fn : Func} {c : Code} (hf : P.funcs[f]? = some fn) (hb : fn.body = some c) (hok : codeOk fn.ntmps c = true) {args : List SV} (hargs : args.length ≤ fn.ntmps)
    {x x' : A} (hl : LayOk (lay x)) (hl' : LayOk (lay x')) {rt : TypeId} {et : Ty} {L : U (List et.T)}
    (h : svc E 1 c ⟨argT 0 args, openObj (lay x) []⟩ (finR E.ti 1 fn.results.toList (one (.hd 1 0)) (openObj (lay x') [.row rt et 0 L]))) :
    TmplOk P (absOf lay tq) f args [.abs x] (one (.hd 1 0)) [.abs x', .row rt et 0 L] := by
  intro G ρ w us hG hsz hh hd
  simp only [List.length_cons, List.length_nil] at hG
  obtain ⟨ρ1, h1, le1⟩ := hh.open_ (i := 0) (base := 1) (x := x) rfl (by omega) (fun k hk => getC_beyond (by simpa using hk)) hl (H' := openObj (lay x) [])
    (fun j hj => by have := openObj_part (rest := []) (news := []) hj; simpa using this) (fun k hk => by
      have := openObj_other (rest := []) (news := []) hl.pos hk
      rw [List.append_nil] at this
      rw [this]
      split
      · rename_i hlt
        cases k with
        | zero => exact absurd rfl (hk 0 hl.pos)
        | succ k => rfl
      · rename_i hlt
        rw [getC_beyond (show ([] : List (Chunk A)).length ≤ _ by simp), getC_beyond (by simp; omega)])
  have hd1 := hd.mono fun _ _ => Den.mono le1
  refine calls_of_wp hf hb ?_
  have hlen := hd1.length
  have h2 := h1.enter hd1 (n := fn.ntmps) (by omega)
  refine svc_sound (AI := absOf lay tq) (G := { G with size := fn.ntmps }) hE hm (by simpa using hG) c hok _ _ _ _ w h ⟨rfl, ρ1, h2⟩ fun e s' hq => ?_
  refine finR_of (AI := absOf lay tq) (G := { G with size := fn.ntmps }) hE.ti (by simpa using hG) hq (R := fun e' w' => ∃ y ρ', e' = .returned y ∧ Holds (absOf lay tq) G ⟨[], [.abs x', .row rt et 0 L]⟩ ρ' #[] w' ∧ Den ρ' (one (.hd 1 0)) y) fun y ρ' w' h3 h4 => ?_
  have e1 : ({ { G with size := fn.ntmps } with size := 0 } : Fr) = G := by cases G; simp at hsz; subst hsz; rfl
  rw [e1] at h3
  obtain ⟨ρ3, h5, h6, h7⟩ := h3.close_objW (rest' := [.row rt et 0 L]) hl' rfl (by rw [hG]; simp)
  obtain ⟨q1, q2⟩ := h7 1 (by simp)
  obtain ⟨g1, g2, g3⟩ := h4
  exact ⟨y, ρ3, rfl, h5, g1, by rw [q2]; exact g2, fun h => by rw [q1]; exact g3 (h.trans q2)⟩

/-- A function at nil alone. -/
def nilCon (v : SV) : Con A := fun args _ => match args with
  | [.val (.one .nilP)] => some ⟨[], 0, false, fun _ _ => .done tt v []⟩
  | _ => none
theorem nilCon_sound {fn : FuncId} {v : SV} (hv : closedV v = true) (hen : Enters P fn) (hk : TmplOk P AI fn [one .nilP] [] v []) : ConSound P AI fn (nilCon v) := by
  refine ⟨hen, fun args fresh p hp _ H d C v cs he => ?_, fun G s ρ tmps w args us fresh p d C v cs h hargs hp hfr he hC => ?_⟩
  · unfold nilCon at hp
    split at hp <;> cases hp
    simp at he
    simp [getCs, he]
  · unfold nilCon at hp
    split at hp <;> cases hp
    simp at he
    obtain ⟨rfl, rfl, rfl⟩ := he
    refine (frame_call hk (s := s) (H' := s.H) (ids := []) (news := []) h (by simp) rfl (by simp) (by simp) (by simp) (fun _ _ => rfl) (us := us) (fun ρc hM _ => ?_)
      (v := v) (fun ρc ρ' hM _ _ y hy => closedV_den hM hv hy)).mono ?_
    · cases hargs with
      | cons hx hn => cases hn; exact .cons hx .nil
    · rintro e w' ⟨y, ρ', rfl, h1, h2, h3⟩
      exact ⟨y, ρ', rfl, h1, h2, h3⟩
end Go.Sx

/-
  Symbolic execution: methods that return a list whose elements own their rows, and other data.
-/
namespace Go.Sx
set_option linter.all false
set_option linter.unusedVariables false
set_option linter.unusedSimpArgs false
set_option linter.unusedSectionVars false
open Go.RowKit
variable {A : Type} {AI : Abs A} {G : Fr} {s : SS A} {ρ : Ev} {w : World} {P : Program} {lay : A → List (Chunk A)} {tq : TabQ}

structure NestMeth (A : Type) where
  S : Type
  sel : A → Option (U S)
  put : U S → A
  ds : List DT
  pre : S → Tup ds → Prop
  et : TypeId
  tb : TypeId
  f : S → Tup ds → List SegT
  rs : List DT
  g : S → Tup ds → Tup rs
  next : S → Tup ds → S
def NestMeth.con (k : NestMeth A) : Con A := fun args fresh => match args with
  | .val (.one (.ptr i 0)) :: args => (match ofs k.ds args with
    | some x => (match beqN i fresh with
      | true => none
      | false => some ⟨[i, fresh], 1, true, fun cs _ => match cs with
        | [.abs a, .emp] => (match k.sel a with
          | some W => .done (fun _ => k.pre (W ()) (x ())) (resOf (.one (.hd fresh 0) :: svs k.rs (fun _ => k.g (W ()) (x ())))) [.abs (k.put (fun _ => k.next (W ()) (x ()))), .nest k.et k.tb 0 (fun _ => k.f (W ()) (x ())) none]
          | none => .fail)
        | _ => .fail⟩)
    | none => none)
  | _ => none
structure NestMeth.Ok (P : Program) (AI : Abs A) (fn : FuncId) (k : NestMeth A) : Prop where
  sel : ∀ a W, k.sel a = some W → a = k.put (fun _ => W ())
  ok : ∀ W x, k.pre W x → TmplOk P AI fn (one (.ptr 0 0) :: argS k.ds (fun _ => x)) [.abs (k.put (fun _ => W))] (resOf (.one (.hd 1 0) :: svs k.rs (fun _ => k.g W x))) [.abs (k.put (fun _ => k.next W x)), .nest k.et k.tb 0 (fun _ => k.f W x) none]
theorem NestMeth.sound {fn : FuncId} {k : NestMeth A} (hen : Enters P fn) (hk : k.Ok P AI fn) : ConSound P AI fn k.con := by
  refine ⟨hen, fun args fresh p hp hw H d C v cs he => ?_, fun G s ρ tmps w args us fresh p d C v cs h hargs hp hfr he hC => ?_⟩
  · unfold NestMeth.con at hp
    split at hp <;> (try cases hp)
    split at hp <;> (try cases hp)
    split at hp <;> cases hp
    simp at hw
  · unfold NestMeth.con at hp
    split at hp <;> (try cases hp)
    rename_i i args
    split at hp <;> (try cases hp)
    rename_i x hx
    split at hp <;> cases hp
    rename_i hne
    have hne : i ≠ fresh := fun e => by rw [e, beqN_self] at hne; cases hne
    have hemp : getC s.H fresh = .emp := hfr fresh (by simp) (Nat.le_refl _)
    simp only [getCs, hemp] at he
    generalize hg : getC s.H i = c at he
    cases c <;> (try (simp at he; done))
    rename_i a
    dsimp only at he
    split at he <;> (try (simp at he; done))
    rename_i W hW
    have ha := hk.sel a W hW
    simp at he
    obtain ⟨rfl, rfl, rfl⟩ := he
    cases hargs with
    | @cons _ u _ us hu hargs =>
    have hd := ofs_den hx hargs
    obtain ⟨b, hb1, hb2⟩ := hu
    refine (frame_call (hk.ok (W ()) (x ()) hC) (s := s) (H' := putC (putC s.H i (.abs (k.put (fun _ => k.next (W ()) (x ()))))) fresh (.nest k.et k.tb 0 (fun _ => k.f (W ()) (x ())) none)) (ids := [i]) (news := [fresh]) h (by simp [hne]) rfl
      (fun i' hi' => by simp at hi'; subst hi'; exact hemp) (fun j i' hj => ?_) (fun j i' hj => ?_) (fun i' hi' => ?_) (us := u :: us) (fun ρc hM hr => ?_)
      (v := resOf (.one (.hd fresh 0) :: svs k.rs (fun _ => k.g (W ()) (x ())))) (fun ρc ρ' hM hr hv y hy => Den_ptr_cons (fun u hu => ?_) hM (svs_closed _ _) hy)).mono ?_
    · cases j with
      | zero =>
        simp at hj
        subst hj
        exact .inl ⟨a, _, hg, by rw [getC_putC, if_neg hne, getC_putC, if_pos rfl], by rw [ha]; rfl, rfl⟩
      | succ j => simp at hj
    · cases j with
      | zero =>
        simp at hj
        subst hj
        exact ⟨by rw [getC_putC, if_pos rfl]; rfl, (fun t cs => by simp [getC, nth]), (fun ks e L R c q => by simp [getC, nth]), fun t tb u L q => by simp [getC, nth]⟩
      | succ j => simp at hj
    · simp at hi'
      rw [getC_putC, if_neg hi'.2, getC_putC, if_neg hi'.1]
    · refine .cons ?_ (argS_den hd hM)
      obtain ⟨h1, h2⟩ := hr 0 i rfl
      exact ⟨b, by rw [h1]; exact hb1, hb2⟩
    · obtain ⟨h1, h2, h3⟩ := hu
      have e1 := hr 1 fresh rfl
      have e2 := hv 0 fresh rfl
      exact ⟨h1, Nat.zero_le _, fun h => by rw [e1]; exact h3 (h.trans e2)⟩
    · rintro e w' ⟨y, ρ', rfl, h1, h2, h3⟩
      exact ⟨y, ρ', rfl, h1, h2, h3⟩

/-- As tmpl_objR; such a list is left behind. -/
theorem tmpl_objNest [SubA A] {E : Env A} (hE : EnvOk P (absOf lay tq) E) (hm : P.follows .mixedOrders = true) {f : FuncId} {fn : Func} {c : Code} (hf : P.funcs[f]? = some fn) (hb : fn.body = some c) (hok : codeOk fn.ntmps c = true) {args : List SV} (hargs : args.length ≤ fn.ntmps)
    {x x' : A} (hl : LayOk (lay x)) (hl' : LayOk (lay x')) {rt tb : TypeId} {L : U (List SegT)} {rs : List SV2} (hrs : rs.all closed2 = true)
    (h : svc E 1 c ⟨argT 0 args, openObj (lay x) []⟩ (finR E.ti 1 fn.results.toList (resOf (.one (.hd 1 0) :: rs)) (openObj (lay x') [.nest rt tb 0 L none]))) :
    TmplOk P (absOf lay tq) f args [.abs x] (resOf (.one (.hd 1 0) :: rs)) [.abs x', .nest rt tb 0 L none] := by
  intro G ρ w us hG hsz hh hd
  simp only [List.length_cons, List.length_nil] at hG
  obtain ⟨ρ1, h1, le1⟩ := hh.open_ (i := 0) (base := 1) (x := x) rfl (by omega) (fun k hk => getC_beyond (by simpa using hk)) hl (H' := openObj (lay x) [])
    (fun j hj => by have := openObj_part (rest := []) (news := []) hj; simpa using this) (fun k hk => by
      have := openObj_other (rest := []) (news := []) hl.pos hk
      rw [List.append_nil] at this
      rw [this]
      split
      · rename_i hlt
        cases k with
        | zero => exact absurd rfl (hk 0 hl.pos)
        | succ k => rfl
      · rename_i hlt
        rw [getC_beyond (show ([] : List (Chunk A)).length ≤ _ by simp), getC_beyond (by simp; omega)])
  have hd1 := hd.mono fun _ _ => Den.mono le1
  refine calls_of_wp hf hb ?_
  have hlen := hd1.length
  have h2 := h1.enter hd1 (n := fn.ntmps) (by omega)
  refine svc_sound (AI := absOf lay tq) (G := { G with size := fn.ntmps }) hE hm (by simpa using hG) c hok _ _ _ _ w h ⟨rfl, ρ1, h2⟩ fun e s' hq => ?_
  refine finR_of (AI := absOf lay tq) (G := { G with size := fn.ntmps }) hE.ti (by simpa using hG) hq (R := fun e' w' => ∃ y ρ', e' = .returned y ∧ Holds (absOf lay tq) G ⟨[], [.abs x', .nest rt tb 0 L none]⟩ ρ' #[] w' ∧ Den ρ' (resOf (.one (.hd 1 0) :: rs)) y) fun y ρ' w' h3 h4 => ?_
  have e1 : ({ { G with size := fn.ntmps } with size := 0 } : Fr) = G := by cases G; simp at hsz; subst hsz; rfl
  rw [e1] at h3
  obtain ⟨ρ3, h5, h6, h7⟩ := h3.close_objW (rest' := [.nest rt tb 0 L none]) hl' rfl (by rw [hG]; simp)
  obtain ⟨q1, q2⟩ := h7 1 (by simp)
  refine ⟨y, ρ3, rfl, h5, Den_ptr_cons (fun u hu => ?_) h6 hrs h4⟩
  obtain ⟨g1, g2, g3⟩ := hu
  exact ⟨g1, by rw [q2]; exact g2, fun h => by rw [q1]; exact g3 (h.trans q2)⟩

/-- An environment in which lists of type t own their rows, which are of type tb. -/
theorem EnvOk.nest {E : Env A} (hE : EnvOk P AI E) {t tb : Nat} {i j : TI} (h : look E.ti t = some i) (h2 : look E.ti tb = some j) : EnvOk P AI ⟨(t, ⟨i.kind, i.size, 3, i.zero⟩) :: (tb, j) :: E.ti, E.con⟩ := by
  refine ⟨fun t' i' h' => ?_, hE.con⟩
  rw [look_cons] at h'
  split at h'
  · rename_i e
    cases h'; subst e
    obtain ⟨h1, h2, _⟩ := hE.ti _ _ h
    exact ⟨h1, h2, fun hb => by cases hb⟩
  · rw [look_cons] at h'
    split at h'
    · rename_i e
      cases h'; subst e
      exact hE.ti _ _ h2
    · exact hE.ti _ _ h'
end Go.Sx

/-
  Symbolic execution: methods whose arguments may hold rows of bytes; they are only read, and lie as they lay behind the call.
-/
namespace Go.Sx
set_option linter.all false
set_option linter.unusedVariables false
set_option linter.unusedSimpArgs false
set_option linter.unusedSectionVars false
open Go.RowKit
variable {A : Type} {AI : Abs A} {G : Fr} {s : SS A} {ρ : Ev} {w : World} {P : Program}

def MethSpec.conW (k : MethSpec A) : Con A := fun args _ => match args with
  | .val (.one (.ptr i 0)) :: r => (match (r.flatMap rowsIn).any (beqN i) with
    | true => none
    | false => some ⟨i :: r.flatMap rowsIn, 0, true, fun cs _ => match cs with
      | .abs a :: c1 => (match k.sel a with
        | some W => (match ofs k.ds (r.map (mapV (frzArg (r.flatMap rowsIn) c1))) with
          | some x => .done (fun _ => k.pre (W ()) (x ())) (resOf (svs k.rs (fun _ => k.f (W ()) (x ())))) (.abs (k.put (fun _ => k.next (W ()) (x ()))) :: c1)
          | none => .fail)
        | none => .fail)
      | _ => .fail⟩)
  | _ => none

theorem any_no {l : List Nat} {i : Nat} (h : l.any (beqN i) = false) : i ∉ l := by
  intro hi
  have : l.any (beqN i) = true := List.any_eq_true.2 ⟨i, hi, beqN_self⟩
  rw [h] at this; cases this

/-- A call of a method on the object at chunk i, while the rows of S stay. -/
theorem obj_call {f : FuncId} {args0 : List SV} {v0 : SV} {a a' : A} (hT : TmplOk P AI f args0 [.abs a] v0 [.abs a']) {tmps : Array Value} (h : Holds AI G s ρ tmps w) {i : Nat} (hi : getC s.H i = .abs a) {us : List Value} (S : Nat → Prop) (hS : ¬ S i)
    (hargs : ∀ ρc : Ev, ρc.M = (ρ.froze S w).M → ρc.root 0 = ρ.root i → All2 (Den ρc) args0 us) (hfree : ∀ M M' r F w, AI.I a' M r F w → AI.I a' M' r F w) :
    Calls P f us.toArray w fun e w' => ∃ y ρr, e = .returned y ∧ Den ρr v0 y ∧ ∃ F, Holds AI G ⟨s.tm, putC s.H i (.abs a')⟩ (ρ.upd i (ρ.root i) (ρ.ver i) F) tmps w' ∧ ρ.Le (ρ.upd i (ρ.root i) (ρ.ver i) F) := by
  have hci : AI.I a ρ.M (ρ.root i) (ρ.foot i) w := by have := h.ch i; rw [hi] at this; exact this
  obtain ⟨b0, hb0⟩ := AI.root hci
  let ρc : Ev := { root := fun j => if j = 0 then ρ.root i else .bool false, ver := fun _ => 0, M := (ρ.froze S w).M, foot := fun j => if j = 0 then ρ.foot i else [] }
  let Gc : Fr := { w0 := w, own := fun b => b ∈ ρ.foot i, n0 := 1, root0 := ρc.root, M0 := (ρ.froze S w).M, size := 0 }
  have hf : ∀ j b, b ∈ ρc.foot j → j = 0 ∧ b ∈ ρ.foot i := by
    intro j b hb
    simp only [ρc] at hb
    split at hb
    · rename_i e; exact ⟨e, hb⟩
    · cases hb
  have hc : Holds AI Gc ⟨[], [.abs a]⟩ ρc #[] w := by
    refine ⟨rfl, h.gtOf fun b hb => ⟨i, hb⟩, (fun t x ht => by cases ht), fun j => ?_, fun j k b hjk hj hk => ?_, fun j b hb => h.lt _ b (hf j b hb).2, fun b o x hm => ⟨froze_cell h S b o x hm, fun j hb => ?_⟩, rfl, rfl, rfl, Nat.le_refl _, fun _ _ _ => rfl,
      fun j b hb => .inl (hf j b hb).2, fun _ _ _ hb => hb, fun i _ => ⟨Nat.zero_le _, fun _ _ _ hb _ => hb⟩, fun _ _ _ hm => hm, fun b o x hm => .inl hm⟩
    · cases j with
      | zero => exact AI.stays hci (froze_M h S) (fun _ _ => rfl)
      | succ j =>
        show HoldsC AI ρc w (j + 1) .emp
        exact ⟨by simp [ρc], by simp [ρc], rfl⟩
    · obtain ⟨h1, _⟩ := hf j b hj
      obtain ⟨h2, _⟩ := hf k b hk
      exact hjk (h1.trans h2.symm)
    · obtain ⟨_, h2⟩ := hf j b hb
      have hm : (ρ.froze S w).M b o = some x := hm
      simp only [Ev.froze] at hm
      split at hm
      · rename_i hex
        obtain ⟨k, hk, hbk⟩ := hex
        exact h.dis i k b (fun e => hS (e ▸ hk)) h2 hbk
      · exact (h.im b o x hm).2 i h2
  refine (hT Gc ρc w us rfl rfl hc (hargs ρc rfl (by simp [ρc]))).mono ?_
  rintro e w' ⟨y, ρr, rfl, hr, hy⟩
  have hr0 : ρr.root 0 = ρ.root i := by
    have := hr.rt 0 b0 (by show (0 : Nat) < 1; decide) (by show (if (0 : Nat) = 0 then ρ.root i else .bool false) = _; rw [if_pos rfl]; exact hb0)
    rw [this, hb0]
  have hch : AI.I a' ρr.M (ρr.root 0) (ρr.foot 0) w' := hr.ch 0
  rw [hr0] at hch
  have r2 : ∀ j, (ρ.upd i (ρ.root i) (ρ.ver i) (ρr.foot 0)).root j = ρ.root j := fun j => by
    simp only [Ev.upd]; split
    · rename_i e; rw [e]
    · rfl
  have n2 : ∀ j, (ρ.upd i (ρ.root i) (ρ.ver i) (ρr.foot 0)).ver j = ρ.ver j := fun j => by
    simp only [Ev.upd]; split
    · rename_i e; rw [e]
    · rfl
  have f2 : ∀ j, (ρ.upd i (ρ.root i) (ρ.ver i) (ρr.foot 0)).foot j = if j = i then ρr.foot 0 else ρ.foot j := fun j => by simp only [Ev.upd]
  have le : ρ.Le (ρ.upd i (ρ.root i) (ρ.ver i) (ρr.foot 0)) := ⟨fun _ _ _ h => h, fun j b hj => by rw [r2]; exact hj, fun j => by rw [n2]; exact Nat.le_refl _, fun j _ _ => r2 j⟩
  refine ⟨y, ρr, rfl, hy, ρr.foot 0, ?_, le⟩
  refine h.step (fun j => j = i) le rfl (fun j hj => ⟨r2 j, n2 j, by rw [f2, if_neg hj], by rw [getC_putC, if_neg hj]⟩) (fun j hj b hb => ?_) (fun j k b hj hk hjk => absurd (hj.trans hk.symm) hjk) (fun b hb hn => hr.kept b hb (hn i rfl)) hr.os hr.tape hr.output hr.grow (fun j hj => ?_)
  · rw [f2, if_pos hj] at hb
    refine ⟨?_, hr.lt 0 b hb⟩
    rcases hr.fro 0 b hb with h1 | h1
    · exact .inl ⟨i, rfl, h1⟩
    · exact .inr h1
  · cases hj
    rw [getC_putC, if_pos rfl]
    show AI.I a' _ _ _ w'
    rw [r2, f2, if_pos rfl]
    exact hfree _ _ _ _ _ hch

theorem MethSpec.soundW {fn : FuncId} {k : MethSpec A} (hen : Enters P fn) (hk : k.Ok P AI fn) (hflat : ∀ x, (svs k.rs x).all flat2 = true) (hfree : ∀ W M M' r F w, AI.I (k.put W) M r F w → AI.I (k.put W) M' r F w) : ConSound P AI fn k.conW := by
  refine ⟨hen, fun args fresh p hp hw H d C v cs he => ?_, fun G s ρ tmps w args us fresh p d C v cs h hargs hp hfr he hC => ?_⟩
  · unfold MethSpec.conW at hp
    split at hp <;> (try cases hp)
    split at hp <;> cases hp
    cases hw
  · unfold MethSpec.conW at hp
    split at hp <;> (try cases hp)
    rename_i i r
    split at hp <;> cases hp
    rename_i hno
    have hno := any_no hno
    generalize hids : r.flatMap rowsIn = ids at he hno hfr
    dsimp only at he ⊢
    simp only [getCs] at he
    generalize hg : getC s.H i = c at he
    cases c <;> (try (simp at he; done))
    rename_i a
    dsimp only at he
    split at he <;> (try (simp at he; done))
    rename_i W hW
    split at he <;> (try (simp at he; done))
    rename_i x hx
    simp at he
    obtain ⟨rfl, rfl, rfl⟩ := he
    have ha := hk.sel a W hW
    cases hargs with
    | @cons _ u _ us hu hargs =>
    let S : Nat → Prop := fun j => j ∈ ids ∧ isRow (getC s.H j) = true
    have hval : ∀ x u, Den1 ρ x u → Den1 (ρ.froze S w) (frzArg ids (getCs s.H ids) x) u := by
      obtain ⟨_, le⟩ := h.frozen ids
      intro x u hv
      cases x <;> simp only [frzArg]
      case hd i ver =>
        split
        · rename_i j hj
          have hj := posB_some hj
          rw [nthC_getCs hj]
          have hc := h.ch i
          generalize hg : getC s.H i = c at hc
          cases c <;> (try trivial)
          rename_i t e u L
          dsimp only
          split
          · rename_i hbu
            have hbu := beq_eq hbu
            subst hbu
            obtain ⟨h1, h2⟩ := hc
            obtain ⟨_, _, h3⟩ := hv
            rw [h3 h1]
            exact rowAt_shows h (S := S) ⟨List.mem_of_getElem? hj, by rw [hg]; rfl⟩ h2 le.1
          · trivial
        · exact Den1.mono le hv
      all_goals exact Den1.mono le hv
    have hargs1 : All2 (Den (ρ.froze S w)) (r.map (mapV (frzArg ids (getCs s.H ids)))) us := hargs.mapL fun x u hx => mapV_den hval hx
    have hd := ofs_den hx hargs1
    obtain ⟨b, hb1, hb2⟩ := hu
    have hT := hk.ok (W ()) (x ()) hC
    rw [← ha] at hT
    refine (obj_call hT h hg S (fun hs => hno hs.1) (fun ρc hM hr => .cons ⟨b, by rw [hr]; exact hb1, hb2⟩ (argS_den hd hM)) (hfree _)).mono ?_
    rintro e w' ⟨y, ρr, rfl, hy, F, h1, le⟩
    refine ⟨y, _, rfl, h1.congrH fun j => ?_, flatRes_den (hflat _) hy, le⟩
    have hcs : getCs s.H ids = getCs (putC s.H i (.abs (k.put (fun _ => k.next (W ()) (x ()))))) ids := (getCs_congr fun j hj => by rw [getC_putC, if_neg (fun e : j = i => hno (e ▸ hj))]).symm
    show getC (putCs (putC s.H i (.abs (k.put (fun _ => k.next (W ()) (x ()))))) ids (getCs s.H ids)) j = getC (putC s.H i (.abs (k.put (fun _ => k.next (W ()) (x ()))))) j
    rw [hcs]
    exact putCs_self _ _ _ (fun _ => rfl) j

/-! ### objects that do not look at the memory that stays -/
def free1 : SV1 → Bool
  | .int _ _ => true
  | .li _ _ => true
  | .sb _ => true
  | .lb _ => true
  | .str _ => true
  | .nilS => true
  | .nilP => true
  | .ptr _ _ => true
  | .hd _ _ => true
  | .mp _ => true
  | _ => false
theorem free1_den {ρ : Ev} {M : Mem} {x : SV1} (hx : free1 x = true) {v : Value} (h : Den1 ρ x v) : Den1 { ρ with M := M } x v := by
  cases x <;> simp [free1] at hx <;> exact h
theorem free1s_den {ρ : Ev} {M : Mem} {l : List SV1} {vs : List Value} (hl : l.all free1 = true) (h : All2 (Den1 ρ) l vs) : All2 (Den1 { ρ with M := M }) l vs := by
  induction h with
  | nil => exact .nil
  | cons h1 _ ih =>
    simp only [List.all_cons, Bool.and_eq_true] at hl
    exact .cons (free1_den hl.1 h1) (ih hl.2)
theorem valFree {M M' : Mem} {e : Ty} (he : e.flat = true) {x : e.T} {v : Value} (h : ValIs M e x v) : ValIs M' e x v := by
  obtain ⟨vs, h1, h2, h3⟩ := h
  exact ⟨vs, h1, h2.flat he, h3⟩
theorem mapFree {M M' : Mem} {ks : KT} {T : Ty} (hf : T.flat = true) {L : List (ks.T × T.T)} {es : List MapEntry} {clock : Nat} (h : MapAt M ks T L es clock) : MapAt M' ks T L es clock :=
  ⟨h.1.mono fun p m q => ⟨q.1, q.2.1, valFree hf q.2.2⟩, h.2⟩
def freeC {A : Type} : Chunk A → Bool
  | .emp => true
  | .gone => true
  | .cells _ cs => cs.all free1
  | .row _ e _ _ => e.flat
  | .map _ e _ => e.flat
  | .itp _ => true
  | .abs _ => true
  | _ => false
theorem AbsC.free {lay : A → List (Chunk A)} (hl : ∀ x j, j < (lay x).length → freeC (getC (lay x) j) = true) {i : Nat} {c : Chunk A} (h : AbsC lay w ρ i c) : freeC c = true → ∀ M : Mem, AbsC lay w { ρ with M := M } i c := by
  induction h with
  | emp h1 h2 h3 => intro _ M; exact .emp h1 h2 h3
  | gone => intro _ M; exact .gone
  | cells h1 h2 h3 h4 => intro hc M; exact .cells h1 h2 h3 (free1s_den hc h4)
  | row h1 h2 => intro hc M; exact .row h1 (h2.flat hc)
  | map h1 h2 h3 h4 => intro hc M; exact .map h1 h2 h3 (mapFree hc h4)
  | rmap h1 h2 h3 h4 => intro hc; cases hc
  | itp h1 h2 => intro _ M; exact .itp h1 h2
  | nest h1 h2 => intro hc; cases hc
  | abs ρ' hM hr hp hf hd hc ih =>
    intro _ M
    exact .abs { ρ' with M := M } rfl hr hp hf hd fun j hj => ih j hj (hl _ j hj) M
theorem absOf_free {lay : A → List (Chunk A)} {tq : TabQ} (hl : ∀ x j, j < (lay x).length → freeC (getC (lay x) j) = true) (a : A) (M M' : Mem) (r : Value) (F : List Nat) (w : World) (h : (absOf lay tq).I a M r F w) : (absOf lay tq).I a M' r F w := by
  obtain ⟨ρ, i, h, rfl, rfl, rfl⟩ := h
  exact ⟨{ ρ with M := M' }, i, h.free hl rfl M', rfl, rfl, rfl⟩
end Go.Sx
