import Derived.Test.YthbfinjddaembaaGreatAmMv
import Derived.Test.YthbfinjddaembaaGreatAmWm
import Derived.Test.YthbfinjddaembaaGreatAmRf
import Derived.Test.YthbfinjddaembaaGreatAmZe
import Derived.Test.YthbfinjddaembaaGreatAmZh
import Derived.Test.YthbfinjddaembaaGreatAmZf
import Derived.Test.YthbfinjddaembaaGreatRows
/- What is known ahead of a run: the fixed run, sorted keys, sorted rows. -/
namespace Go.Proofs.YthbfinjddaembaaGreat
open Go Go.Am
noncomputable def smallV : AV := .agg [iv 64, iv 60, iv 6, iv 9, iv 2, iv 11, iv 1, iv 12, iv 1, iv 13, iv 3, iv 16]
noncomputable def tb : Tb := withVal (withSort (withTrue (sortedTb Tryz.prog 52 3 [92]) [7]) 91) 8 smallV
set_option maxRecDepth 100000 in
theorem tb_fs : tb.fs = tabOf Tryz.prog := rfl
noncomputable abbrev B (o : BinOp) (t : TypeId) := binS Tryz.prog o t
noncomputable abbrev C (n : Nat) (f : FuncId) (a : List RO) : CO := .call (some (pth n)) none (.cst (.func f [])) a
noncomputable abbrev G (n k : Nat) (b : Bool) (o : OP) : CO := .op (some (pth n)) (some (pth k, b)) o
noncomputable abbrev O (n : Nat) (o : OP) : CO := .op (some (pth n)) none o
abbrev Kq (a b : CC) : Prop := ∀ Q fr m, GX Tryz.prog tb a Q fr m = GX Tryz.prog tb b Q fr m
theorem kr {a : CC} : Kq a a := fun _ _ _ => rfl
theorem wA : type_of% (And.intro @cells_map <| And.intro @cells_func <| And.intro @o_fn <| And.intro @o_look <| And.intro @o_mlen <| And.intro @o_mupd <| And.intro @o_mdel <| And.intro @o_mkmap <| And.intro @o_clrs <| And.intro @o_mksl <| And.intro @o_b2s <| And.intro @o_mv <| And.intro @o_pick <| And.intro @o_alloc <| And.intro @o_box <| And.intro @o_build <| And.intro @o_bslice <| And.intro @o_load <| And.intro @o_loadN <| And.intro @o_store <| And.intro @o_nil <| And.intro @o_add <| And.intro @o_sub <| And.intro @o_mul <| And.intro @o_quo <| And.intro @o_rem <| And.intro @o_lt <| And.intro @o_le <| And.intro @o_gt <| And.intro @o_ge <| And.intro @o_eq <| And.intro @o_ne <| And.intro @o_eqp <| And.intro @o_un <| And.intro @o_sls <| And.intro @o_take <| And.intro @o_drop <| And.intro @o_fa <| And.intro @o_iaS <| And.intro @o_ext <| And.intro @o_len <| And.intro @o_app <| And.intro @o_toU <| And.intro @o_frU <| And.intro @o_usd <| And.intro @o_ust <| And.intro @o_min <| And.intro @o_max <| And.intro @v_elB <| And.intro @v_elPtr <| And.intro @v_elTup <| And.intro @v_elAgg <| And.intro @v_ob <| And.intro @v_rto <| @v_nil) := And.intro @cells_map <| And.intro @cells_func <| And.intro @o_fn <| And.intro @o_look <| And.intro @o_mlen <| And.intro @o_mupd <| And.intro @o_mdel <| And.intro @o_mkmap <| And.intro @o_clrs <| And.intro @o_mksl <| And.intro @o_b2s <| And.intro @o_mv <| And.intro @o_pick <| And.intro @o_alloc <| And.intro @o_box <| And.intro @o_build <| And.intro @o_bslice <| And.intro @o_load <| And.intro @o_loadN <| And.intro @o_store <| And.intro @o_nil <| And.intro @o_add <| And.intro @o_sub <| And.intro @o_mul <| And.intro @o_quo <| And.intro @o_rem <| And.intro @o_lt <| And.intro @o_le <| And.intro @o_gt <| And.intro @o_ge <| And.intro @o_eq <| And.intro @o_ne <| And.intro @o_eqp <| And.intro @o_un <| And.intro @o_sls <| And.intro @o_take <| And.intro @o_drop <| And.intro @o_fa <| And.intro @o_iaS <| And.intro @o_ext <| And.intro @o_len <| And.intro @o_app <| And.intro @o_toU <| And.intro @o_frU <| And.intro @o_usd <| And.intro @o_ust <| And.intro @o_min <| And.intro @o_max <| And.intro @v_elB <| And.intro @v_elPtr <| And.intro @v_elTup <| And.intro @v_elAgg <| And.intro @v_ob <| And.intro @v_rto <| @v_nil
theorem wB : type_of% (And.intro @v_eqp_n <| And.intro @v_eqp_nn <| And.intro @v_eqp_same <| And.intro @v_not <| And.intro @v_fa <| And.intro @v_min <| And.intro @v_max <| And.intro @b_lt <| And.intro @b_le <| And.intro @b_gt <| And.intro @b_ge <| And.intro @b_eq <| And.intro @b_ne <| And.intro @bs_eq <| And.intro @bs_ne <| And.intro @len_tv <| And.intro @len_sl <| And.intro @len_nils <| And.intro @cells_iv <| And.intro @cells_tv <| And.intro @cells_agg <| And.intro @cells_ptr <| And.intro @cells_b <| And.intro @cells_nilp <| And.intro @pv_nil <| And.intro @pv_cons <| And.intro @fillA_nil <| And.intro @fillA_cons <| And.intro @repl_1 <| And.intro @repl_2 <| And.intro @ev_tm <| And.intro @ev_cst <| And.intro @evs_cons <| And.intro @evs_nil <| And.intro @evo_some <| And.intro @evo_none <| And.intro @putD_none <| And.intro @putD_some <| And.intro @fill_cons <| And.intro @fill_nil <| And.intro @want_b <| And.intro @want_undef <| And.intro @bc_true <| And.intro @bc_false <| And.intro @nbeq <| And.intro @nble <| And.intro @one_0 <| And.intro @one_1 <| And.intro @one_2 <| And.intro @List.length_cons.{0} <| And.intro @List.length_nil.{0} <| And.intro @Nat.zero_add <| And.intro @Nat.add_zero <| And.intro @decide_true <| @decide_false) := And.intro @v_eqp_n <| And.intro @v_eqp_nn <| And.intro @v_eqp_same <| And.intro @v_not <| And.intro @v_fa <| And.intro @v_min <| And.intro @v_max <| And.intro @b_lt <| And.intro @b_le <| And.intro @b_gt <| And.intro @b_ge <| And.intro @b_eq <| And.intro @b_ne <| And.intro @bs_eq <| And.intro @bs_ne <| And.intro @len_tv <| And.intro @len_sl <| And.intro @len_nils <| And.intro @cells_iv <| And.intro @cells_tv <| And.intro @cells_agg <| And.intro @cells_ptr <| And.intro @cells_b <| And.intro @cells_nilp <| And.intro @pv_nil <| And.intro @pv_cons <| And.intro @fillA_nil <| And.intro @fillA_cons <| And.intro @repl_1 <| And.intro @repl_2 <| And.intro @ev_tm <| And.intro @ev_cst <| And.intro @evs_cons <| And.intro @evs_nil <| And.intro @evo_some <| And.intro @evo_none <| And.intro @putD_none <| And.intro @putD_some <| And.intro @fill_cons <| And.intro @fill_nil <| And.intro @want_b <| And.intro @want_undef <| And.intro @bc_true <| And.intro @bc_false <| And.intro @nbeq <| And.intro @nble <| And.intro @one_0 <| And.intro @one_1 <| And.intro @one_2 <| And.intro @List.length_cons.{0} <| And.intro @List.length_nil.{0} <| And.intro @Nat.zero_add <| And.intro @Nat.add_zero <| And.intro @decide_true <| @decide_false
theorem wC : type_of% (And.intro @Bool.true_and <| And.intro @Bool.and_true <| And.intro @Bool.and_self <| And.intro @Bool.false_and <| And.intro @Bool.and_false <| And.intro @Bool.or_false <| And.intro @Bool.false_or <| And.intro @Bool.or_true <| And.intro @Bool.true_or <| And.intro @Bool.not_true <| And.intro @Bool.not_false <| And.intro @List.take_succ_cons.{0} <| And.intro @List.take_zero.{0} <| And.intro @List.drop_succ_cons.{0} <| And.intro @List.drop_zero.{0} <| And.intro @List.drop_nil.{0} <| And.intro @List.take_nil.{0} <| And.intro @List.nil_append.{0} <| And.intro @List.cons_append.{0} <| And.intro @List.append_nil.{0} <| And.intro @List.getElem?_cons_succ.{0} <| And.intro @List.getElem?_cons_zero.{0} <| And.intro @GO_nil <| And.intro @GO_op <| And.intro @GO_opG <| And.intro @GO_call <| And.intro @GO_callG <| And.intro @GN_some <| And.intro @GG_true <| And.intro @GG_false <| And.intro @GF_func <| And.intro @GF_yield <| And.intro @GFG_true <| And.intro @GFG_false <| And.intro @CK_app <| And.intro @GT_nil <| And.intro @GT_op <| And.intro @GT_opG <| And.intro @GT_call <| And.intro @TF_func <| And.intro @GT_callG <| And.intro @TN_some <| And.intro @TG_true <| And.intro @TG_false <| And.intro @TFG_true <| And.intro @TFG_false <| And.intro @TK_app <| And.intro @GX_skip <| And.intro @GX_reg <| And.intro @GX_drawn <| And.intro @GX_seq <| And.intro @GX_cond <| And.intro @GX_block <| And.intro @GX_exit <| @GX_ret) := And.intro @Bool.true_and <| And.intro @Bool.and_true <| And.intro @Bool.and_self <| And.intro @Bool.false_and <| And.intro @Bool.and_false <| And.intro @Bool.or_false <| And.intro @Bool.false_or <| And.intro @Bool.or_true <| And.intro @Bool.true_or <| And.intro @Bool.not_true <| And.intro @Bool.not_false <| And.intro @List.take_succ_cons.{0} <| And.intro @List.take_zero.{0} <| And.intro @List.drop_succ_cons.{0} <| And.intro @List.drop_zero.{0} <| And.intro @List.drop_nil.{0} <| And.intro @List.take_nil.{0} <| And.intro @List.nil_append.{0} <| And.intro @List.cons_append.{0} <| And.intro @List.append_nil.{0} <| And.intro @List.getElem?_cons_succ.{0} <| And.intro @List.getElem?_cons_zero.{0} <| And.intro @GO_nil <| And.intro @GO_op <| And.intro @GO_opG <| And.intro @GO_call <| And.intro @GO_callG <| And.intro @GN_some <| And.intro @GG_true <| And.intro @GG_false <| And.intro @GF_func <| And.intro @GF_yield <| And.intro @GFG_true <| And.intro @GFG_false <| And.intro @CK_app <| And.intro @GT_nil <| And.intro @GT_op <| And.intro @GT_opG <| And.intro @GT_call <| And.intro @TF_func <| And.intro @GT_callG <| And.intro @TN_some <| And.intro @TG_true <| And.intro @TG_false <| And.intro @TFG_true <| And.intro @TFG_false <| And.intro @TK_app <| And.intro @GX_skip <| And.intro @GX_reg <| And.intro @GX_drawn <| And.intro @GX_seq <| And.intro @GX_cond <| And.intro @GX_block <| And.intro @GX_exit <| @GX_ret
theorem wD : type_of% (And.intro @GX_goto <| And.intro @RK_app <| And.intro @DK_app <| And.intro @SK_normal <| And.intro @SK_ret <| And.intro @SK_exit <| And.intro @SK_goto <| And.intro @GC_true <| And.intro @GC_false <| And.intro @BK_normal <| And.intro @BK_ret <| And.intro @BK_goto <| And.intro @BK_exit <| And.intro @BE_true <| And.intro @BE_false <| And.intro @LK_ret <| And.intro @LK_exit <| And.intro @LK_goto <| And.intro @FK_ret0 <| And.intro @FK_nor0 <| And.intro @FK_ret1 <| And.intro @FK_ret2 <| And.intro @FK_ret3 <| And.intro @PK_normal <| And.intro @PK_ret <| And.intro @PK_exit <| And.intro @JK_normal <| And.intro @JK_ret <| And.intro @JK_exit <| And.intro @lastT_1 <| And.intro @lastT_c <| And.intro @again0_at <| And.intro @List.all_cons.{0} <| And.intro @List.all_nil.{0} <| And.intro @want_none <| And.intro @want_sm <| And.intro @aq_iv <| And.intro @aq_tv <| And.intro @aq_ptr <| And.intro @aq_b <| And.intro @aq_map <| And.intro @aq_nilp <| And.intro @aq_undef <| And.intro @sl_aq <| And.intro @cells_slc <| And.intro @cells_nil' <| And.intro @cells_yc <| And.intro @nc0 <| And.intro @ilt <| And.intro @ile <| And.intro @Option.some.injEq.{0} <| And.intro @true_and <| And.intro @and_true <| @and_self) := And.intro @GX_goto <| And.intro @RK_app <| And.intro @DK_app <| And.intro @SK_normal <| And.intro @SK_ret <| And.intro @SK_exit <| And.intro @SK_goto <| And.intro @GC_true <| And.intro @GC_false <| And.intro @BK_normal <| And.intro @BK_ret <| And.intro @BK_goto <| And.intro @BK_exit <| And.intro @BE_true <| And.intro @BE_false <| And.intro @LK_ret <| And.intro @LK_exit <| And.intro @LK_goto <| And.intro @FK_ret0 <| And.intro @FK_nor0 <| And.intro @FK_ret1 <| And.intro @FK_ret2 <| And.intro @FK_ret3 <| And.intro @PK_normal <| And.intro @PK_ret <| And.intro @PK_exit <| And.intro @JK_normal <| And.intro @JK_ret <| And.intro @JK_exit <| And.intro @lastT_1 <| And.intro @lastT_c <| And.intro @again0_at <| And.intro @List.all_cons.{0} <| And.intro @List.all_nil.{0} <| And.intro @want_none <| And.intro @want_sm <| And.intro @aq_iv <| And.intro @aq_tv <| And.intro @aq_ptr <| And.intro @aq_b <| And.intro @aq_map <| And.intro @aq_nilp <| And.intro @aq_undef <| And.intro @sl_aq <| And.intro @cells_slc <| And.intro @cells_nil' <| And.intro @cells_yc <| And.intro @nc0 <| And.intro @ilt <| And.intro @ile <| And.intro @Option.some.injEq.{0} <| And.intro @true_and <| And.intro @and_true <| @and_self
noncomputable section
abbrev fn_l9_wakes : FuncId := 7
abbrev fn_l9_small : FuncId := 8
abbrev fn_f6 : FuncId := 9
abbrev fn_c7 : FuncId := 10
abbrev fn_c9 : FuncId := 11
abbrev fn_b5 : FuncId := 12
abbrev fn_h1 : FuncId := 13
abbrev fn_c6 : FuncId := 16
abbrev fn_f7 : FuncId := 17
abbrev fn_b9 : FuncId := 19
abbrev fn_h0 : FuncId := 21
abbrev fn_e9 : FuncId := 23
abbrev fn_g9 : FuncId := 25
abbrev fn_d0 : FuncId := 41
abbrev fn_d6 : FuncId := 45
abbrev fn_h4 : FuncId := 46
abbrev fn_a4 : FuncId := 47
abbrev fn_h3 : FuncId := 48
abbrev fn_d4 : FuncId := 49
abbrev fn_d2 : FuncId := 50
abbrev fn_a6 : FuncId := 51
abbrev fn_Sorted : FuncId := 52
abbrev fn_Keys : FuncId := 53
abbrev fn_a3 : FuncId := 54
abbrev fn_h2 : FuncId := 55
abbrev fn_e2 : FuncId := 56
abbrev fn_d5 : FuncId := 57
abbrev fn_d7 : FuncId := 58
abbrev fn_c2 : FuncId := 59
abbrev fn_a2 : FuncId := 60
abbrev fn_g2 : FuncId := 61
abbrev fn_e0 : FuncId := 65
abbrev fn_c0 : FuncId := 66
abbrev fn_b7 : FuncId := 67
abbrev fn_c4 : FuncId := 79
abbrev fn_d3 : FuncId := 86
abbrev fn_a5 : FuncId := 87
abbrev fn_d9 : FuncId := 88
abbrev fn_d1 : FuncId := 89
abbrev fn_b3 : FuncId := 93
abbrev fn_b4 : FuncId := 94
abbrev fn_e3 : FuncId := 95
abbrev fn_a9 : FuncId := 96
abbrev fn_e4 : FuncId := 97
abbrev fn_e1 : FuncId := 98
abbrev fn_g3 : FuncId := 99
abbrev fn_b0 : FuncId := 100
abbrev fn_b1 : FuncId := 101
abbrev fn_e6 : FuncId := 102
abbrev fn_b2 : FuncId := 103
abbrev fn_c3 : FuncId := 104
abbrev fn_Delete : FuncId := 105
abbrev fn_g8 : FuncId := 114
abbrev fn_g7 : FuncId := 115
abbrev fn_a7 : FuncId := 116
abbrev fn_a8 : FuncId := 120
abbrev fn_d8 : FuncId := 121
abbrev fn_e5 : FuncId := 122
abbrev fn_g6 : FuncId := 123
abbrev fn_g0 : FuncId := 124
abbrev fn_g4 : FuncId := 125
abbrev fn_g5 : FuncId := 126
abbrev fn_f1 : FuncId := 127
abbrev fn_e8 : FuncId := 128
abbrev fn_c5 : FuncId := 131
abbrev fn_f0 : FuncId := 143
abbrev fn_math_bits_OnesCount32 : FuncId := 144
abbrev fn_g1 : FuncId := 145
abbrev fn_f2 : FuncId := 146
abbrev fn_e7 : FuncId := 147
abbrev fn_a0 : FuncId := 155
abbrev fn_f3 : FuncId := 156
abbrev fn_a1 : FuncId := 159
abbrev ty_int : TypeId := 3
abbrev ty_uint8 : TypeId := 5
abbrev ty_string : TypeId := 9
abbrev ty_api_Plan : TypeId := 25
abbrev ty_pdevice_Device : TypeId := 27
abbrev ty_pwal_Log : TypeId := 28
abbrev ty_api_Errno : TypeId := 31
abbrev ty_sapi_Write : TypeId := 33
abbrev ty_api_Header : TypeId := 40
abbrev ty_suint8 : TypeId := 43
abbrev ty_api_Write : TypeId := 50
abbrev ty_wal_Log : TypeId := 84
abbrev ty_device_Device : TypeId := 97
abbrev ty_pdevice_cell : TypeId := 98
abbrev ty_device_cell : TypeId := 101
abbrev ty_codec_reader : TypeId := 130
abbrev ty_pint : TypeId := 132
abbrev ty_codec_writer : TypeId := 138
abbrev ty_codec_desc : TypeId := 156
abbrev ty_uint32 : TypeId := 161
abbrev ty_uint64 : TypeId := 175
abbrev ty_16_uint32 : TypeId := 178
def r_f6_0 : List CO := [
  O 1 (.box ty_api_Plan (tm 0)),
 O 2 (.mv (.cst nilp)),
 O 3 (.mv (.cst nilp))]
def r_f6_1 : List CO := [
  O 10 (.fa 0 (tm 1)),
 O 11 (.load (tm 10)),
 O 12 (.fa 1 (tm 1)),
 O 13 (.load (tm 12)),
 C 14 fn_e9 [(tm 11), (tm 13)],
 O 9 (.mv (tm 14)),
 O 15 (.ext 0 (tm 9)),
 O 16 (.ext 1 (tm 9)),
 O 4 (.mv (tm 15)),
 O 5 (.mv (tm 16))]
def r_f6_2 : List CO := [
  O 17 (.mv (tm 4)),
 O 18 (.eqp false (B .eql ty_pdevice_Device) (tm 17) (.cst nilp)),
 O 19 (.mv (tm 18)),
 G 20 19 false (.mv (tm 5)),
 G 21 19 false (.ne (B .neq ty_api_Errno) (tm 20) (.cst (iv 0))),
 O 22 (.pick (tm 19) (.cst (.b true)) (tm 21))]
def r_f6_3 : List CO := [
  O 2 (.mv (.cst nilp)),
 O 3 (.mv (.cst nilp))]
def r_f6_4 : List CO := [
  O 23 (.mv (tm 4)),
 O 24 (.loadN 12 (tm 1)),
 C 25 fn_g9 [(tm 23), (tm 24)],
 O 6 (.mv (tm 25))]
def r_f6_5 : List CO := [
  O 27 (.mv (tm 4)),
 O 28 (.loadN 12 (tm 1)),
 C 29 fn_h1 [(tm 27), (tm 28)],
 O 26 (.mv (tm 29)),
 O 30 (.ext 0 (tm 26)),
 O 31 (.ext 1 (tm 26)),
 O 7 (.mv (tm 30)),
 O 8 (.mv (tm 31))]
def r_f6_6 : List CO := [
  O 32 (.mv (tm 6)),
 O 33 (.ne (B .neq ty_api_Errno) (tm 32) (.cst (iv 0))),
 O 34 (.mv (tm 33)),
 G 35 34 false (.mv (tm 8)),
 G 36 34 false (.ne (B .neq ty_api_Errno) (tm 35) (.cst (iv 0))),
 O 37 (.pick (tm 34) (.cst (.b true)) (tm 36))]
def r_f6_7 : List CO := [
  O 2 (.mv (.cst nilp)),
 O 3 (.mv (.cst nilp))]
def r_f6_8 : List CO := [
  O 38 (.mv (tm 4)),
 O 39 (.mv (tm 7)),
 O 2 (.mv (tm 38)),
 O 3 (.mv (tm 39))]
def r_c7_0 : List CO := [
  O 2 (.box ty_pwal_Log (tm 0)),
 O 4 (.alloc ty_api_Errno 1 [(iv 0)])]
def r_c7_1 : List CO := [
  O 15 (.load (tm 2)),
 O 16 (.eqp false (B .eql ty_pwal_Log) (tm 15) (.cst nilp))]
def r_c7_2 : List CO := [
  .op none none (.store 1 (tm 4) (.cst (iv 1)))]
def r_c7_3 : List CO := [
  O 17 (.load (tm 2)),
 O 18 (.mv (tm 1)),
 C 19 fn_d6 [(tm 17), (tm 18)],
 O 5 (.mv (tm 19))]
def r_c7_4 : List CO := [
  O 20 (.mv (tm 5)),
 O 21 (.ne (B .neq ty_api_Errno) (tm 20) (.cst (iv 0)))]
def r_c7_5 : List CO := [
  O 22 (.mv (tm 5)),
 .op none none (.store 1 (tm 4) (tm 22))]
def r_c7_6 : List CO := [
  O 24 (.load (tm 2)),
 O 25 (.nil (tm 24)),
 O 26 (.fa 1 (tm 25)),
 O 27 (.loadN 12 (tm 26)),
 O 28 (.mv (tm 1)),
 O 29 (.len false (tm 28)),
 C 30 fn_h0 [(tm 27), (tm 29)],
 O 23 (.mv (tm 30)),
 O 31 (.ext 0 (tm 23)),
 O 32 (.ext 1 (tm 23)),
 O 6 (.mv (tm 31)),
 O 7 (.mv (tm 32))]
def r_c7_7 : List CO := [
  O 34 (.mv (tm 1)),
 O 35 (.len false (tm 34)),
 O 36 (.eq (B .eql ty_int) (tm 35) (.cst (iv 0))),
 O 37 (.mv (tm 36)),
 G 38 37 true (.load (tm 2)),
 G 39 37 true (.nil (tm 38)),
 G 40 37 true (.fa 17 (tm 39)),
 G 41 37 true (.load (tm 40)),
 G 42 37 true (.un .not (tm 41)),
 O 43 (.pick (tm 37) (tm 42) (.cst (.b false))),
 O 33 (.mv (tm 43))]
def r_c7_8 : List CO := [
  .op none none (.store 1 (tm 4) (.cst (iv 0)))]
def r_c7_9 : List CO := [
  O 45 (.load (tm 2)),
 O 46 (.nil (tm 45)),
 O 47 (.fa 13 (tm 46)),
 O 48 (.fa 0 (tm 47)),
 O 49 (.load (tm 48)),
 O 50 (.load (tm 2)),
 O 51 (.nil (tm 50)),
 O 52 (.fa 1 (tm 51)),
 O 53 (.loadN 12 (tm 52)),
 O 54 (.mv (tm 1)),
 O 55 (.len false (tm 54)),
 C 56 fn_h4 [(tm 53), (tm 55)],
 O 57 (.add (B .add ty_int) (tm 49) (tm 56)),
 O 58 (.ge (B .geq ty_int) (tm 57) (.cst (iv 4294967296))),
 O 44 (.mv (tm 58))]
def r_c7_10 : List CO := [
  .op none none (.store 1 (tm 4) (.cst (iv 8)))]
def r_c7_11 : List CO := [
  O 60 (.load (tm 2)),
 O 61 (.nil (tm 60)),
 O 62 (.fa 17 (tm 61)),
 O 63 (.load (tm 62)),
 O 59 (.mv (tm 63))]
def r_c7_12 : List CO := [
  .op none none (.store 1 (tm 4) (.cst (iv 7)))]
def r_c7_13 : List CO := [
  O 64 (.mv (tm 6)),
 O 65 (.load (tm 2)),
 C 66 fn_d0 [(tm 65)],
 O 67 (.gt (B .gtr ty_int) (tm 64) (tm 66))]
def r_c7_14 : List CO := [
  O 68 (.load (tm 2)),
 C 69 fn_c6 [(tm 68)],
 O 8 (.mv (tm 69))]
def r_c7_15 : List CO := [
  O 70 (.mv (tm 8)),
 O 71 (.ne (B .neq ty_api_Errno) (tm 70) (.cst (iv 0)))]
def r_c7_16 : List CO := [
  O 72 (.mv (tm 8)),
 .op none none (.store 1 (tm 4) (tm 72))]
def r_c7_17 : List CO := [
  O 73 (.load (tm 2)),
 O 74 (.nil (tm 73)),
 O 75 (.fa 13 (tm 74)),
 O 76 (.loadN 3 (tm 75)),
 O 9 (.alloc ty_api_Header 3 [(iv 0), (iv 0), (iv 0)]),
 .op none none (.store 3 (tm 9) (tm 76))]
def r_c7_18 : List CO := [
  O 77 (.mv (tm 1)),
 O 78 (.load (tm 2)),
 O 79 (.nil (tm 78)),
 O 80 (.fa 1 (tm 79)),
 O 81 (.loadN 12 (tm 80)),
 C 82 fn_h3 [(tm 81)],
 C 83 fn_a4 [(tm 77), (tm 82)]]
def r_c7_19 : List CO := [
  O 10 (.mv (tm 84))]
def r_c7_20 : List CO := [
  O 85 (.load (tm 2)),
 O 86 (.mv (tm 10)),
 C 87 fn_d4 [(tm 85), (tm 86)],
 O 11 (.mv (tm 87))]
def r_c7_21 : List CO := [
  O 88 (.mv (tm 11)),
 O 89 (.ne (B .neq ty_api_Errno) (tm 88) (.cst (iv 0)))]
def r_c7_22 : List CO := [
  O 90 (.load (tm 2)),
 O 91 (.loadN 3 (tm 9)),
 O 92 (.nil (tm 90)),
 O 93 (.fa 13 (tm 92)),
 .op none none (.store 3 (tm 93) (tm 91))]
def r_c7_23 : List CO := [
  O 94 (.mv (tm 11)),
 .op none none (.store 1 (tm 4) (tm 94))]
def r_c7_24 : List CO := [
  O 95 (.load (tm 2)),
 C 96 fn_d2 [(tm 95)],
 O 12 (.mv (tm 96))]
def r_c7_25 : List CO := [
  O 97 (.mv (tm 12)),
 O 98 (.ne (B .neq ty_api_Errno) (tm 97) (.cst (iv 0)))]
def r_c7_26 : List CO := [
  O 99 (.load (tm 2)),
 O 100 (.loadN 3 (tm 9)),
 O 101 (.nil (tm 99)),
 O 102 (.fa 13 (tm 101)),
 .op none none (.store 3 (tm 102) (tm 100))]
def r_c7_27 : List CO := [
  O 103 (.mv (tm 12)),
 .op none none (.store 1 (tm 4) (tm 103))]
def r_c7_28 : List CO := [
  O 104 (.mv (tm 1)),
 O 105 (.len false (tm 104)),
 O 106 (.mv (.cst (iv 0)))]
def r_c7_29 : List CO := [
  O 107 (.lt (B .lss ty_int) (tm 106) (tm 105))]
def r_c7_30 : List CO := [
  O 108 (.iaS 2 (tm 104) (tm 106)),
 O 109 (.loadN 2 (tm 108)),
 O 14 (.alloc ty_api_Write 2 [(iv 0), nils]),
 .op none none (.store 2 (tm 14) (tm 109))]
def r_c7_31 : List CO := [
  O 110 (.load (tm 2)),
 O 111 (.nil (tm 110)),
 O 112 (.fa 16 (tm 111)),
 O 113 (.load (tm 112)),
 O 114 (.fa 0 (tm 14)),
 O 115 (.load (tm 114)),
 O 116 (.fa 1 (tm 14)),
 O 117 (.load (tm 116)),
 C 118 fn_a6 [(tm 117)],
 .op none none (.mupd (some .i64) (tm 113) (tm 115) (tm 118))]
def r_c7_32 : List CO := [
  O 119 (.add (B .add ty_int) (tm 106) (.cst (iv 1))),
 O 106 (.mv (tm 119))]
def r_c7_33 : List CO := [
  .op none none (.store 1 (tm 4) (.cst (iv 0)))]
def r_c9_0 : List CO := [
  O 2 (.mv (.cst nils))]
def r_c9_1 : List CO := [
  O 6 (.mv (tm 0)),
 O 7 (.eqp false (B .eql ty_pwal_Log) (tm 6) (.cst nilp))]
def r_c9_2 : List CO := [
  O 2 (.mv (.cst nils))]
def r_c9_3 : List CO := [
  O 3 (.mv (.cst nils))]
def r_c9_4 : List CO := [
  O 8 (.mv (tm 0)),
 O 9 (.nil (tm 8)),
 O 10 (.fa 16 (tm 9)),
 O 11 (.load (tm 10)),
 C 12 fn_Keys [(tm 11)],
 C 13 fn_Sorted [(tm 12)],
 O 14 (.len false (tm 13)),
 O 15 (.mv (.cst (iv 0)))]
def r_c9_5 : List CO := [
  O 16 (.lt (B .lss ty_int) (tm 15) (tm 14))]
def r_c9_6 : List CO := [
  O 17 (.iaS 1 (tm 13) (tm 15)),
 O 18 (.load (tm 17)),
 O 5 (.mv (tm 18))]
def r_c9_7 : List CO := [
  O 19 (.mv (tm 3)),
 O 20 (.mv (tm 5)),
 O 21 (.mv (tm 0)),
 O 22 (.nil (tm 21)),
 O 23 (.fa 16 (tm 22)),
 O 24 (.load (tm 23)),
 O 25 (.mv (tm 5)),
 O 26 (.look (some .i64) nils false (tm 24) (tm 25)),
 C 27 fn_a6 [(tm 26)],
 O 28 (.build [(iv 0), nils] [(0, 1, (tm 20)), (1, 1, (tm 27))]),
 O 29 (.bslice ty_api_Write 1 2 [(iv 0), nils] [(0, 2, (tm 28))]),
 O 30 (.app ty_api_Write 2 32 [(iv 0), nils] (tm 19) (tm 29)),
 O 3 (.mv (tm 30))]
def r_c9_8 : List CO := [
  O 31 (.add (B .add ty_int) (tm 15) (.cst (iv 1))),
 O 15 (.mv (tm 31))]
def r_c9_9 : List CO := [
  O 32 (.mv (tm 3)),
 O 2 (.mv (tm 32))]
def r_b5_0 : List CO := [
  O 4 (.mv (.cst (iv 0)))]
def r_b5_1 : List CO := [
  O 8 (.mv (tm 0)),
 O 9 (.eqp false (B .eql ty_pdevice_Device) (tm 8) (.cst nilp))]
def r_b5_2 : List CO := [
  O 4 (.mv (.cst (iv 1)))]
def r_b5_3 : List CO := [
  O 10 (.mv (tm 0)),
 O 11 (.nil (tm 10)),
 O 12 (.fa 1 (tm 11)),
 O 13 (.load (tm 12)),
 O 14 (.len false (tm 13)),
 O 15 (.mv (.cst (iv 0)))]
def r_b5_4 : List CO := [
  O 16 (.lt (B .lss ty_int) (tm 15) (tm 14))]
def r_b5_5 : List CO := [
  O 17 (.mv (tm 15)),
 O 5 (.mv (tm 17))]
def r_b5_6 : List CO := [
  O 18 (.mv (tm 0)),
 O 19 (.nil (tm 18)),
 O 20 (.fa 1 (tm 19)),
 O 21 (.load (tm 20)),
 O 22 (.mv (tm 5)),
 O 23 (.iaS 2 (tm 21) (tm 22)),
 O 6 (.mv (tm 23))]
def r_b5_7 : List CO := [
  O 24 (.mv (tm 6)),
 O 25 (.nil (tm 24)),
 O 26 (.fa 1 (tm 25)),
 O 27 (.load (tm 26)),
 O 28 (.len false (tm 27)),
 O 29 (.eq (B .eql ty_int) (tm 28) (.cst (iv 0)))]
def r_b5_8 : List CO := [
  O 7 (.mv (.cst (iv 0)))]
def r_b5_9 : List CO := [
  O 30 (.mv (tm 1)),
 O 31 (.len false (tm 30)),
 O 32 (.gt (B .gtr ty_int) (tm 31) (.cst (iv 0)))]
def r_b5_10 : List CO := [
  O 33 (.mv (tm 1)),
 O 34 (.iaS 1 (tm 33) (.cst (iv 0))),
 O 35 (.load (tm 34)),
 O 36 (.mv (tm 6)),
 O 37 (.nil (tm 36)),
 O 38 (.fa 1 (tm 37)),
 O 39 (.load (tm 38)),
 O 40 (.len false (tm 39)),
 O 41 (.min (tm 35) (tm 40)),
 O 42 (.max (.cst (iv 0)) (tm 41)),
 O 7 (.mv (tm 42))]
def r_b5_11 : List CO := [
  O 43 (.mv (tm 1)),
 O 44 (.sl 1 false (tm 43) (some (.cst (iv 1))) none none),
 O 1 (.mv (tm 44))]
def r_b5_12 : List CO := [
  O 45 (.mv (tm 6)),
 O 46 (.mv (tm 7)),
 C 47 fn_a3 [(tm 45), (tm 46)]]
def r_b5_13 : List CO := [
  O 48 (.add (B .add ty_int) (tm 15) (.cst (iv 1))),
 O 15 (.mv (tm 48))]
def r_b5_14 : List CO := [
  O 49 (.mv (tm 0)),
 O 50 (.mv (tm 0)),
 O 51 (.nil (tm 49)),
 O 52 (.fa 4 (tm 51)),
 .op none none (.store 1 (tm 52) (.cst (.b false))),
 O 53 (.nil (tm 50)),
 O 54 (.fa 2 (tm 53)),
 .op none none (.store 1 (tm 54) (.cst (.b false)))]
def r_b5_15 : List CO := [
  O 4 (.mv (.cst (iv 0)))]
def r_h1_0 : List CO := [
  O 3 (.box ty_api_Plan (tm 1)),
 O 4 (.mv (.cst nilp)),
 O 5 (.mv (.cst (iv 0)))]
def r_h1_1 : List CO := [
  O 11 (.mv (tm 0)),
 O 12 (.loadN 12 (tm 3)),
 C 13 fn_h2 [(tm 11), (tm 12)],
 O 6 (.mv (tm 13))]
def r_h1_2 : List CO := [
  O 14 (.mv (tm 6)),
 O 15 (.ne (B .neq ty_api_Errno) (tm 14) (.cst (iv 0)))]
def r_h1_3 : List CO := [
  O 16 (.mv (tm 6)),
 O 4 (.mv (.cst nilp)),
 O 5 (.mv (tm 16))]
def r_h1_4 : List CO := [
  O 18 (.mv (tm 0)),
 C 19 fn_b9 [(tm 18), (.cst (iv 1))],
 O 17 (.mv (tm 19)),
 O 20 (.ext 0 (tm 17)),
 O 21 (.ext 1 (tm 17)),
 O 7 (.mv (tm 20)),
 O 8 (.mv (tm 21))]
def r_h1_5 : List CO := [
  O 22 (.mv (tm 8)),
 O 23 (.ne (B .neq ty_api_Errno) (tm 22) (.cst (iv 0)))]
def r_h1_6 : List CO := [
  O 24 (.mv (tm 8)),
 O 4 (.mv (.cst nilp)),
 O 5 (.mv (tm 24))]
def r_h1_7 : List CO := [
  O 25 (.mv (tm 0)),
 O 26 (.loadN 12 (tm 3)),
 O 27 (.mkmap none),
 O 28 (.build [nilp, (iv 0), (iv 0), (iv 0), (iv 0), (iv 0), (iv 0), (iv 0), (iv 0), (iv 0), (iv 0), (iv 0), (iv 0), (iv 0), (iv 0), (iv 0), nilm, (.b false)] [(0, 1, (tm 25)), (1, 12, (tm 26)), (16, 1, (tm 27))]),
 O 29 (.box ty_wal_Log (tm 28)),
 O 9 (.mv (tm 29))]
def r_h1_8 : List CO := [
  O 31 (.mv (tm 9)),
 O 32 (.mv (tm 7)),
 C 33 fn_e2 [(tm 32)],
 O 30 (.mv (tm 33)),
 O 34 (.ext 0 (tm 30)),
 O 35 (.ext 1 (tm 30)),
 O 36 (.nil (tm 31)),
 O 37 (.fa 13 (tm 36)),
 .op none none (.store 3 (tm 37) (tm 34)),
 O 8 (.mv (tm 35))]
def r_h1_9 : List CO := [
  O 38 (.mv (tm 8)),
 O 39 (.ne (B .neq ty_api_Errno) (tm 38) (.cst (iv 0))),
 O 40 (.mv (tm 39)),
 G 41 40 false (.mv (tm 9)),
 G 42 40 false (.nil (tm 41)),
 G 43 40 false (.fa 13 (tm 42)),
 G 44 40 false (.fa 1 (tm 43)),
 G 45 40 false (.load (tm 44)),
 G 46 40 false (.fa 3 (tm 3)),
 G 47 40 false (.load (tm 46)),
 G 48 40 false (.ge (B .geq ty_int) (tm 45) (tm 47)),
 O 49 (.pick (tm 40) (.cst (.b true)) (tm 48)),
 O 50 (.mv (tm 49)),
 G 51 50 false (.mv (tm 9)),
 G 52 50 false (.nil (tm 51)),
 G 53 50 false (.fa 13 (tm 52)),
 G 54 50 false (.fa 2 (tm 53)),
 G 55 50 false (.load (tm 54)),
 G 56 50 false (.fa 3 (tm 3)),
 G 57 50 false (.load (tm 56)),
 G 58 50 false (.gt (B .gtr ty_int) (tm 55) (tm 57)),
 O 59 (.pick (tm 50) (.cst (.b true)) (tm 58))]
def r_h1_10 : List CO := [
  O 4 (.mv (.cst nilp)),
 O 5 (.mv (.cst (iv 9)))]
def r_h1_11 : List CO := [
  O 60 (.mv (tm 9)),
 C 61 fn_d5 [(tm 60)],
 O 10 (.mv (tm 61))]
def r_h1_12 : List CO := [
  O 62 (.mv (tm 10)),
 O 63 (.ne (B .neq ty_api_Errno) (tm 62) (.cst (iv 0)))]
def r_h1_13 : List CO := [
  O 64 (.mv (tm 10)),
 O 4 (.mv (.cst nilp)),
 O 5 (.mv (tm 64))]
def r_h1_14 : List CO := [
  O 65 (.mv (tm 9)),
 O 4 (.mv (tm 65)),
 O 5 (.mv (.cst (iv 0)))]
def r_c6_0 : List CO := [
  O 2 (.mv (.cst (iv 0)))]
def r_c6_1 : List CO := [
  O 9 (.mv (tm 0)),
 O 10 (.eqp false (B .eql ty_pwal_Log) (tm 9) (.cst nilp)),
 O 8 (.mv (tm 10))]
def r_c6_2 : List CO := [
  O 2 (.mv (.cst (iv 1)))]
def r_c6_3 : List CO := [
  O 12 (.mv (tm 0)),
 O 13 (.nil (tm 12)),
 O 14 (.fa 17 (tm 13)),
 O 15 (.load (tm 14)),
 O 11 (.mv (tm 15))]
def r_c6_4 : List CO := [
  O 2 (.mv (.cst (iv 7)))]
def r_c6_5 : List CO := [
  O 17 (.mv (tm 0)),
 O 18 (.nil (tm 17)),
 O 19 (.fa 13 (tm 18)),
 O 20 (.fa 2 (tm 19)),
 O 21 (.load (tm 20)),
 O 22 (.eq (B .eql ty_int) (tm 21) (.cst (iv 0))),
 O 16 (.mv (tm 22))]
def r_c6_6 : List CO := [
  O 2 (.mv (.cst (iv 0)))]
def r_c6_7 : List CO := [
  O 23 (.mv (tm 0)),
 C 24 fn_c9 [(tm 23)],
 O 25 (.len false (tm 24)),
 O 26 (.mv (.cst (iv 0)))]
def r_c6_8 : List CO := [
  O 27 (.lt (B .lss ty_int) (tm 26) (tm 25))]
def r_c6_9 : List CO := [
  O 28 (.iaS 2 (tm 24) (tm 26)),
 O 29 (.loadN 2 (tm 28)),
 O 4 (.alloc ty_api_Write 2 [(iv 0), nils]),
 .op none none (.store 2 (tm 4) (tm 29))]
def r_c6_10 : List CO := [
  O 30 (.mv (tm 0)),
 O 31 (.fa 0 (tm 4)),
 O 32 (.load (tm 31)),
 O 33 (.fa 1 (tm 4)),
 O 34 (.load (tm 33)),
 C 35 fn_d7 [(tm 30), (tm 32), (tm 34)],
 O 5 (.mv (tm 35))]
def r_c6_11 : List CO := [
  O 36 (.mv (tm 5)),
 O 37 (.ne (B .neq ty_api_Errno) (tm 36) (.cst (iv 0)))]
def r_c6_12 : List CO := [
  O 38 (.mv (tm 5)),
 O 2 (.mv (tm 38))]
def r_c6_13 : List CO := [
  O 39 (.add (B .add ty_int) (tm 26) (.cst (iv 1))),
 O 26 (.mv (tm 39))]
def r_c6_14 : List CO := [
  O 40 (.mv (tm 0)),
 O 41 (.nil (tm 40)),
 O 42 (.fa 13 (tm 41)),
 O 43 (.loadN 3 (tm 42)),
 O 6 (.alloc ty_api_Header 3 [(iv 0), (iv 0), (iv 0)]),
 .op none none (.store 3 (tm 6) (tm 43))]
def r_c6_15 : List CO := [
  O 44 (.mv (tm 0)),
 O 45 (.mv (tm 0)),
 O 46 (.fa 1 (tm 6)),
 O 47 (.load (tm 46)),
 O 48 (.fa 2 (tm 6)),
 O 49 (.load (tm 48)),
 O 50 (.add (B .add ty_int) (tm 47) (tm 49)),
 O 51 (.mv (tm 0)),
 O 52 (.nil (tm 51)),
 O 53 (.fa 1 (tm 52)),
 O 54 (.fa 3 (tm 53)),
 O 55 (.load (tm 54)),
 O 56 (.rem (B .rem ty_int) (tm 50) (tm 55)),
 O 57 (.nil (tm 44)),
 O 58 (.fa 13 (tm 57)),
 O 59 (.fa 1 (tm 58)),
 .op none none (.store 1 (tm 59) (tm 56)),
 O 60 (.nil (tm 45)),
 O 61 (.fa 13 (tm 60)),
 O 62 (.fa 2 (tm 61)),
 .op none none (.store 1 (tm 62) (.cst (iv 0)))]
def r_c6_16 : List CO := [
  O 63 (.mv (tm 0)),
 C 64 fn_d2 [(tm 63)],
 O 7 (.mv (tm 64))]
def r_c6_17 : List CO := [
  O 65 (.mv (tm 7)),
 O 66 (.ne (B .neq ty_api_Errno) (tm 65) (.cst (iv 0)))]
def r_c6_18 : List CO := [
  O 67 (.mv (tm 0)),
 O 68 (.loadN 3 (tm 6)),
 O 69 (.nil (tm 67)),
 O 70 (.fa 13 (tm 69)),
 .op none none (.store 3 (tm 70) (tm 68))]
def r_c6_19 : List CO := [
  O 71 (.mv (tm 7)),
 O 2 (.mv (tm 71))]
def r_c6_20 : List CO := [
  O 72 (.mv (tm 0)),
 O 73 (.nil (tm 72)),
 O 74 (.fa 16 (tm 73)),
 O 75 (.load (tm 74)),
 .op none none (.mclr (tm 75))]
def r_c6_21 : List CO := [
  O 2 (.mv (.cst (iv 0)))]
def r_f7_0 : List CO := [
  O 3 (.box ty_api_Plan (tm 1)),
 O 4 (.mv (.cst nils)),
 O 5 (.mv (.cst (.b false)))]
def r_f7_1 : List CO := [
  O 6 (.mv (.cst nils))]
def r_f7_2 : List CO := [
  O 10 (.fa 5 (tm 3)),
 O 11 (.load (tm 10)),
 O 7 (.mv (tm 11))]
def r_f7_3 : List CO := [
  O 12 (.mv (tm 7)),
 O 13 (.fa 1 (tm 3)),
 O 14 (.load (tm 13)),
 O 15 (.lt (B .lss ty_int) (tm 12) (tm 14))]
def r_f7_5 : List CO := [
  O 19 (.mv (tm 0)),
 O 20 (.mv (tm 7)),
 C 21 fn_b9 [(tm 19), (tm 20)],
 O 18 (.mv (tm 21)),
 O 22 (.ext 0 (tm 18)),
 O 23 (.ext 1 (tm 18)),
 O 8 (.mv (tm 22)),
 O 9 (.mv (tm 23))]
def r_f7_6 : List CO := [
  O 24 (.mv (tm 9)),
 O 25 (.ne (B .neq ty_api_Errno) (tm 24) (.cst (iv 0)))]
def r_f7_7 : List CO := [
  O 4 (.mv (.cst nils)),
 O 5 (.mv (.cst (.b false)))]
def r_f7_8 : List CO := [
  O 26 (.mv (tm 6)),
 O 27 (.mv (tm 8)),
 O 28 (.app ty_uint8 1 1 [(.y 0)] (tm 26) (tm 27)),
 O 6 (.mv (tm 28))]
def r_f7_4 : List CO := [
  O 16 (.mv (tm 7)),
 O 17 (.add (B .add ty_int) (tm 16) (.cst (iv 1))),
 O 7 (.mv (tm 17))]
def r_f7_9 : List CO := [
  O 29 (.mv (tm 6)),
 O 4 (.mv (tm 29)),
 O 5 (.mv (.cst (.b true)))]
def r_b9_0 : List CO := [
  O 4 (.mv (.cst nils)),
 O 5 (.mv (.cst (iv 0)))]
def r_b9_1 : List CO := [
  O 8 (.mv (tm 0)),
 O 9 (.eqp false (B .eql ty_pdevice_Device) (tm 8) (.cst nilp)),
 O 7 (.mv (tm 9))]
def r_b9_2 : List CO := [
  O 4 (.mv (.cst nils)),
 O 5 (.mv (.cst (iv 1)))]
def r_b9_3 : List CO := [
  O 11 (.mv (tm 0)),
 O 12 (.nil (tm 11)),
 O 13 (.fa 4 (tm 12)),
 O 14 (.load (tm 13)),
 O 10 (.mv (tm 14))]
def r_b9_4 : List CO := [
  O 4 (.mv (.cst nils)),
 O 5 (.mv (.cst (iv 7)))]
def r_b9_5 : List CO := [
  O 15 (.mv (tm 0)),
 O 16 (.mv (tm 1)),
 C 17 fn_c2 [(tm 15), (tm 16)],
 O 6 (.mv (tm 17))]
def r_b9_6 : List CO := [
  O 18 (.mv (tm 6)),
 O 19 (.eqp false (B .eql ty_pdevice_cell) (tm 18) (.cst nilp))]
def r_b9_7 : List CO := [
  O 4 (.mv (.cst nils)),
 O 5 (.mv (.cst (iv 2)))]
def r_b9_8 : List CO := [
  O 20 (.mv (tm 6)),
 C 21 fn_a2 [(tm 20)],
 C 22 fn_a6 [(tm 21)],
 O 4 (.mv (tm 22)),
 O 5 (.mv (.cst (iv 0)))]
def r_h0_0 : List CO := [
  O 2 (.box ty_api_Plan (tm 0)),
 O 4 (.mv (.cst (iv 0))),
 O 5 (.mv (.cst (iv 0)))]
def r_h0_1 : List CO := [
  O 7 (.loadN 12 (tm 2)),
 C 8 fn_g2 [(tm 7)],
 O 9 (.ne (B .neq ty_api_Errno) (tm 8) (.cst (iv 0))),
 O 6 (.mv (tm 9))]
def r_h0_2 : List CO := [
  O 4 (.mv (.cst (iv 0))),
 O 5 (.mv (.cst (iv 4)))]
def r_h0_3 : List CO := [
  O 11 (.mv (tm 1)),
 O 12 (.lt (B .lss ty_int) (tm 11) (.cst (iv 0))),
 O 13 (.mv (tm 12)),
 G 14 13 false (.mv (tm 1)),
 G 15 13 false (.gt (B .gtr ty_int) (tm 14) (.cst (iv 4096))),
 O 16 (.pick (tm 13) (.cst (.b true)) (tm 15)),
 O 10 (.mv (tm 16))]
def r_h0_4 : List CO := [
  O 4 (.mv (.cst (iv 0))),
 O 5 (.mv (.cst (iv 1)))]
def r_h0_5 : List CO := [
  O 17 (.mv (tm 1)),
 O 18 (.loadN 12 (tm 2)),
 O 19 (.mv (tm 1)),
 C 20 fn_h4 [(tm 18), (tm 19)],
 O 21 (.add (B .add ty_int) (tm 17) (tm 20)),
 O 4 (.mv (tm 21)),
 O 5 (.mv (.cst (iv 0)))]
def r_e9_0 : List CO := [
  O 4 (.mv (.cst nilp)),
 O 5 (.mv (.cst (iv 0)))]
def r_e9_1 : List CO := [
  O 9 (.mv (tm 0)),
 O 10 (.lt (B .lss ty_int) (tm 9) (.cst (iv 64))),
 O 11 (.mv (tm 10)),
 G 12 11 false (.mv (tm 0)),
 G 13 11 false (.gt (B .gtr ty_int) (tm 12) (.cst (iv 4096))),
 O 14 (.pick (tm 11) (.cst (.b true)) (tm 13)),
 O 15 (.mv (tm 14)),
 G 16 15 false (.mv (tm 0)),
 G 17 15 false (.mv (tm 0)),
 G 18 15 false (.sub (B .sub ty_int) (tm 17) (.cst (iv 1))),
 G 19 15 false (.and (B .and ty_int) (tm 16) (tm 18)),
 G 20 15 false (.ne (B .neq ty_int) (tm 19) (.cst (iv 0))),
 O 21 (.pick (tm 15) (.cst (.b true)) (tm 20)),
 O 22 (.mv (tm 21)),
 G 23 22 false (.mv (tm 1)),
 G 24 22 false (.lt (B .lss ty_int) (tm 23) (.cst (iv 1))),
 O 25 (.pick (tm 22) (.cst (.b true)) (tm 24)),
 O 26 (.mv (tm 25)),
 G 27 26 false (.mv (tm 1)),
 G 28 26 false (.gt (B .gtr ty_int) (tm 27) (.cst (iv 4096))),
 O 29 (.pick (tm 26) (.cst (.b true)) (tm 28)),
 O 8 (.mv (tm 29))]
def r_e9_2 : List CO := [
  O 4 (.mv (.cst nilp)),
 O 5 (.mv (.cst (iv 1)))]
def r_e9_3 : List CO := [
  O 31 (.mv (tm 0)),
 O 32 (.mv (tm 1)),
 O 33 (.mul (B .mul ty_int) (tm 31) (tm 32)),
 O 34 (.gt (B .gtr ty_int) (tm 33) (.cst (iv 1048576))),
 O 30 (.mv (tm 34))]
def r_e9_4 : List CO := [
  O 4 (.mv (.cst nilp)),
 O 5 (.mv (.cst (iv 5)))]
def r_e9_5 : List CO := [
  O 35 (.mv (tm 0)),
 O 36 (.mv (tm 1)),
 O 37 (.mksl ty_device_cell 2 48 [nils, nils] (tm 36) (tm 36)),
 O 38 (.build [(iv 0), nils, (.b false), (iv 0), (.b false), (iv 0)] [(0, 1, (tm 35)), (1, 1, (tm 37))]),
 O 39 (.box ty_device_Device (tm 38)),
 O 6 (.mv (tm 39))]
def r_e9_6 : List CO := [
  O 40 (.mv (tm 6)),
 O 41 (.nil (tm 40)),
 O 42 (.fa 1 (tm 41)),
 O 43 (.load (tm 42)),
 O 44 (.len false (tm 43)),
 O 45 (.mv (.cst (iv 0)))]
def r_e9_7 : List CO := [
  O 46 (.lt (B .lss ty_int) (tm 45) (tm 44))]
def r_e9_8 : List CO := [
  O 47 (.mv (tm 45)),
 O 7 (.mv (tm 47))]
def r_e9_9 : List CO := [
  O 48 (.mv (tm 6)),
 O 49 (.nil (tm 48)),
 O 50 (.fa 1 (tm 49)),
 O 51 (.load (tm 50)),
 O 52 (.mv (tm 7)),
 O 53 (.mv (tm 0)),
 O 54 (.mksl ty_uint8 1 1 [(.y 0)] (tm 53) (tm 53)),
 O 55 (.iaS 2 (tm 51) (tm 52)),
 O 56 (.fa 0 (tm 55)),
 .op none none (.store 1 (tm 56) (tm 54))]
def r_e9_10 : List CO := [
  O 57 (.add (B .add ty_int) (tm 45) (.cst (iv 1))),
 O 45 (.mv (tm 57))]
def r_e9_11 : List CO := [
  O 58 (.mv (tm 6)),
 O 4 (.mv (tm 58)),
 O 5 (.mv (.cst (iv 0)))]
def r_g9_0 : List CO := [
  O 3 (.box ty_api_Plan (tm 1)),
 O 4 (.mv (.cst (iv 0)))]
def r_g9_1 : List CO := [
  O 9 (.mv (tm 0)),
 O 10 (.loadN 12 (tm 3)),
 C 11 fn_h2 [(tm 9), (tm 10)],
 O 5 (.mv (tm 11))]
def r_g9_2 : List CO := [
  O 12 (.mv (tm 5)),
 O 13 (.ne (B .neq ty_api_Errno) (tm 12) (.cst (iv 0)))]
def r_g9_3 : List CO := [
  O 14 (.mv (tm 5)),
 O 4 (.mv (tm 14))]
def r_g9_4 : List CO := [
  O 16 (.build [(iv 0), (iv 0), (iv 0)] [(0, 1, (.cst (iv 1)))]),
 O 17 (.fa 0 (tm 3)),
 O 18 (.load (tm 17)),
 C 19 fn_e0 [(tm 16), (tm 18)],
 O 15 (.mv (tm 19)),
 O 20 (.ext 0 (tm 15)),
 O 21 (.ext 1 (tm 15)),
 O 6 (.mv (tm 20)),
 O 7 (.mv (tm 21))]
def r_g9_5 : List CO := [
  O 22 (.mv (tm 0)),
 O 23 (.mv (tm 6)),
 C 24 fn_c0 [(tm 22), (.cst (iv 1)), (tm 23)],
 O 8 (.mv (tm 24))]
def r_g9_6 : List CO := [
  O 25 (.mv (tm 8)),
 O 26 (.ne (B .neq ty_api_Errno) (tm 25) (.cst (iv 0)))]
def r_g9_7 : List CO := [
  O 27 (.mv (tm 8)),
 O 4 (.mv (tm 27))]
def r_g9_8 : List CO := [
  O 28 (.mv (tm 0)),
 C 29 fn_b7 [(tm 28)],
 O 4 (.mv (tm 29))]
def r_d6_0 : List CO := [
  O 4 (.mv (.cst (iv 0)))]
def r_d6_1 : List CO := [
  O 5 (.mv (.cst nils))]
def r_d6_2 : List CO := [
  O 12 (.mv (tm 1)),
 O 13 (.len false (tm 12)),
 O 14 (.mv (.cst (iv 0)))]
def r_d6_3 : List CO := [
  O 15 (.lt (B .lss ty_int) (tm 14) (tm 13))]
def r_d6_4 : List CO := [
  O 16 (.iaS 2 (tm 12) (tm 14)),
 O 17 (.loadN 2 (tm 16)),
 O 7 (.alloc ty_api_Write 2 [(iv 0), nils]),
 .op none none (.store 2 (tm 7) (tm 17))]
def r_d6_5 : List CO := [
  O 18 (.fa 1 (tm 7)),
 O 19 (.load (tm 18)),
 O 20 (.len false (tm 19)),
 O 21 (.mv (tm 0)),
 O 22 (.nil (tm 21)),
 O 23 (.fa 1 (tm 22)),
 O 24 (.fa 0 (tm 23)),
 O 25 (.load (tm 24)),
 O 26 (.ne (B .neq ty_int) (tm 20) (tm 25))]
def r_d6_6 : List CO := [
  O 4 (.mv (.cst (iv 1)))]
def r_d6_7 : List CO := [
  O 27 (.mv (tm 5)),
 O 28 (.fa 0 (tm 7)),
 O 29 (.load (tm 28)),
 O 30 (.bslice ty_int 1 1 [(iv 0)] [(0, 1, (tm 29))]),
 O 31 (.app ty_int 1 8 [(iv 0)] (tm 27) (tm 30)),
 O 5 (.mv (tm 31))]
def r_d6_8 : List CO := [
  O 32 (.add (B .add ty_int) (tm 14) (.cst (iv 1))),
 O 14 (.mv (tm 32))]
def r_d6_9 : List CO := [
  O 33 (.mv (tm 5)),
 O 34 (.len false (tm 33)),
 O 35 (.mv (.cst (iv 0)))]
def r_d6_10 : List CO := [
  O 36 (.lt (B .lss ty_int) (tm 35) (tm 34))]
def r_d6_11 : List CO := [
  O 37 (.iaS 1 (tm 33) (tm 35)),
 O 38 (.load (tm 37)),
 O 9 (.mv (tm 38))]
def r_d6_12 : List CO := [
  O 39 (.mv (tm 9)),
 O 40 (.mv (tm 0)),
 O 41 (.nil (tm 40)),
 O 42 (.fa 1 (tm 41)),
 O 43 (.fa 5 (tm 42)),
 O 44 (.load (tm 43)),
 O 45 (.lt (B .lss ty_int) (tm 39) (tm 44)),
 O 46 (.mv (tm 45)),
 G 47 46 false (.mv (tm 9)),
 G 48 46 false (.mv (tm 0)),
 G 49 46 false (.nil (tm 48)),
 G 50 46 false (.fa 1 (tm 49)),
 G 51 46 false (.fa 1 (tm 50)),
 G 52 46 false (.load (tm 51)),
 G 53 46 false (.ge (B .geq ty_int) (tm 47) (tm 52)),
 O 54 (.pick (tm 46) (.cst (.b true)) (tm 53))]
def r_d6_13 : List CO := [
  O 4 (.mv (.cst (iv 2)))]
def r_d6_14 : List CO := [
  O 55 (.add (B .add ty_int) (tm 35) (.cst (iv 1))),
 O 35 (.mv (tm 55))]
def r_d6_15 : List CO := [
  O 56 (.mv (tm 5)),
 O 57 (.len false (tm 56)),
 O 58 (.gt (B .gtr ty_int) (tm 57) (.cst (iv 0))),
 O 59 (.mv (tm 58)),
 G 60 59 true (.mv (tm 0)),
 G 61 59 true (.mv (tm 5)),
 .call (some (pth 62)) (some (pth 59, true)) (.cst (.func fn_d3 [])) [(tm 60), (tm 61)],
 O 63 (.pick (tm 59) (tm 62) (.cst (.b false)))]
def r_d6_16 : List CO := [
  O 4 (.mv (.cst (iv 3)))]
def r_d6_17 : List CO := [
  O 65 (.mv (tm 0)),
 O 66 (.nil (tm 65)),
 O 67 (.fa 1 (tm 66)),
 O 68 (.loadN 12 (tm 67)),
 O 69 (.mv (tm 1)),
 O 70 (.len false (tm 69)),
 C 71 fn_h0 [(tm 68), (tm 70)],
 O 64 (.mv (tm 71)),
 O 72 (.ext 0 (tm 64)),
 O 73 (.ext 1 (tm 64)),
 O 10 (.mv (tm 72)),
 O 11 (.mv (tm 73))]
def r_d6_18 : List CO := [
  O 74 (.mv (tm 11)),
 O 75 (.ne (B .neq ty_api_Errno) (tm 74) (.cst (iv 0))),
 O 76 (.mv (tm 75)),
 G 77 76 false (.mv (tm 10)),
 G 78 76 false (.mv (tm 0)),
 G 79 76 false (.nil (tm 78)),
 G 80 76 false (.fa 1 (tm 79)),
 G 81 76 false (.fa 3 (tm 80)),
 G 82 76 false (.load (tm 81)),
 G 83 76 false (.gt (B .gtr ty_int) (tm 77) (tm 82)),
 O 84 (.pick (tm 76) (.cst (.b true)) (tm 83))]
def r_d6_19 : List CO := [
  O 4 (.mv (.cst (iv 5)))]
def r_d6_20 : List CO := [
  O 4 (.mv (.cst (iv 0)))]
def r_h4_0 : List CO := [
  O 2 (.box ty_api_Plan (tm 0)),
 O 4 (.mv (.cst (iv 0)))]
def r_h4_1 : List CO := [
  O 5 (.mv (tm 1)),
 O 6 (.loadN 12 (tm 2)),
 C 7 fn_h3 [(tm 6)],
 O 8 (.add (B .add ty_int) (tm 5) (tm 7)),
 O 9 (.sub (B .sub ty_int) (tm 8) (.cst (iv 1))),
 O 10 (.loadN 12 (tm 2)),
 C 11 fn_h3 [(tm 10)],
 O 12 (.quo (B .quo ty_int) (tm 9) (tm 11)),
 O 4 (.mv (tm 12))]
def r_a4_0 : List CO := [
  O 2 (.box ty_sapi_Write (tm 0)),
 O 3 (.box ty_int (tm 1)),
 O 4 (.mv (.cst nilf))]
def r_a4_1 : List CO := [
  O 5 (.load (tm 3)),
 O 6 (.lt (B .lss ty_int) (tm 5) (.cst (iv 1)))]
def r_a4_2 : List CO := [
  O 7 (.mkI ty_string (.cst (tv [99, 97, 110, 110, 111, 116, 32, 98, 101, 32, 108, 101, 115, 115, 32, 116, 104, 97, 110, 32, 49]))),
 .op none none (.none)]
def r_a4_3 : List CO := [
  O 8 (.fn fn_a5 [(tm 2), (tm 3)]),
 O 4 (.mv (tm 8))]
def r_h3_0 : List CO := [
  O 1 (.box ty_api_Plan (tm 0)),
 O 2 (.mv (.cst (iv 0)))]
def r_h3_1 : List CO := [
  O 3 (.fa 0 (tm 1)),
 O 4 (.load (tm 3)),
 O 5 (.sub (B .sub ty_int) (tm 4) (.cst (iv 10))),
 O 6 (.quo (B .quo ty_int) (tm 5) (.cst (iv 2))),
 O 2 (.mv (tm 6))]
def r_d4_0 : List CO := [
  O 4 (.mv (.cst (iv 0)))]
def r_d4_1 : List CO := [
  O 5 (.mv (.cst nils))]
def r_d4_2 : List CO := [
  O 14 (.mv (tm 1)),
 O 15 (.len false (tm 14)),
 O 16 (.mv (.cst (iv 0)))]
def r_d4_3 : List CO := [
  O 17 (.lt (B .lss ty_int) (tm 16) (tm 15))]
def r_d4_4 : List CO := [
  O 18 (.iaS 2 (tm 14) (tm 16)),
 O 19 (.loadN 2 (tm 18)),
 O 7 (.alloc ty_api_Write 2 [(iv 0), nils]),
 .op none none (.store 2 (tm 7) (tm 19))]
def r_d4_5 : List CO := [
  O 20 (.mv (tm 5)),
 O 21 (.fa 0 (tm 7)),
 O 22 (.load (tm 21)),
 O 23 (.bslice ty_int 1 1 [(iv 0)] [(0, 1, (tm 22))]),
 O 24 (.app ty_int 1 8 [(iv 0)] (tm 20) (tm 23)),
 O 5 (.mv (tm 24))]
def r_d4_6 : List CO := [
  O 25 (.add (B .add ty_int) (tm 16) (.cst (iv 1))),
 O 16 (.mv (tm 25))]
def r_d4_7 : List CO := [
  O 27 (.mv (tm 0)),
 O 28 (.nil (tm 27)),
 O 29 (.fa 13 (tm 28)),
 O 30 (.fa 0 (tm 29)),
 O 31 (.load (tm 30)),
 O 32 (.mv (tm 5)),
 O 33 (.mv (tm 0)),
 O 34 (.nil (tm 33)),
 O 35 (.fa 1 (tm 34)),
 O 36 (.fa 0 (tm 35)),
 O 37 (.load (tm 36)),
 C 38 fn_d9 [(tm 31), (tm 32), (tm 37)],
 O 26 (.mv (tm 38)),
 O 39 (.ext 0 (tm 26)),
 O 40 (.ext 1 (tm 26)),
 O 8 (.mv (tm 39)),
 O 9 (.mv (tm 40))]
def r_d4_8 : List CO := [
  O 41 (.mv (tm 0)),
 O 42 (.mv (tm 0)),
 O 43 (.mv (tm 0)),
 O 44 (.nil (tm 43)),
 O 45 (.fa 13 (tm 44)),
 O 46 (.fa 2 (tm 45)),
 O 47 (.load (tm 46)),
 C 48 fn_d1 [(tm 42), (tm 47)],
 O 49 (.mv (tm 8)),
 C 50 fn_d7 [(tm 41), (tm 48), (tm 49)],
 O 10 (.mv (tm 50))]
def r_d4_9 : List CO := [
  O 51 (.mv (tm 10)),
 O 52 (.ne (B .neq ty_api_Errno) (tm 51) (.cst (iv 0)))]
def r_d4_10 : List CO := [
  O 53 (.mv (tm 10)),
 O 4 (.mv (tm 53))]
def r_d4_11 : List CO := [
  O 54 (.mv (tm 0)),
 O 55 (.nil (tm 54)),
 O 56 (.fa 13 (tm 55)),
 O 57 (.fa 0 (tm 56)),
 O 58 (.load (tm 57)),
 O 59 (.add (B .add ty_int) (tm 58) (.cst (iv 1))),
 O 60 (.nil (tm 54)),
 O 61 (.fa 13 (tm 60)),
 O 62 (.fa 0 (tm 61)),
 .op none none (.store 1 (tm 62) (tm 59))]
def r_d4_12 : List CO := [
  O 63 (.mv (tm 0)),
 O 64 (.nil (tm 63)),
 O 65 (.fa 13 (tm 64)),
 O 66 (.fa 2 (tm 65)),
 O 67 (.load (tm 66)),
 O 68 (.add (B .add ty_int) (tm 67) (.cst (iv 1))),
 O 69 (.nil (tm 63)),
 O 70 (.fa 13 (tm 69)),
 O 71 (.fa 2 (tm 70)),
 .op none none (.store 1 (tm 71) (tm 68))]
def r_d4_13 : List CO := [
  O 72 (.mv (tm 1)),
 O 73 (.len false (tm 72)),
 O 74 (.mv (.cst (iv 0)))]
def r_d4_14 : List CO := [
  O 75 (.lt (B .lss ty_int) (tm 74) (tm 73))]
def r_d4_15 : List CO := [
  O 76 (.iaS 2 (tm 72) (tm 74)),
 O 77 (.loadN 2 (tm 76)),
 O 12 (.alloc ty_api_Write 2 [(iv 0), nils]),
 .op none none (.store 2 (tm 12) (tm 77))]
def r_d4_16 : List CO := [
  O 78 (.mv (tm 0)),
 O 79 (.mv (tm 0)),
 O 80 (.mv (tm 0)),
 O 81 (.nil (tm 80)),
 O 82 (.fa 13 (tm 81)),
 O 83 (.fa 2 (tm 82)),
 O 84 (.load (tm 83)),
 C 85 fn_d1 [(tm 79), (tm 84)],
 O 86 (.fa 1 (tm 12)),
 O 87 (.load (tm 86)),
 C 88 fn_d7 [(tm 78), (tm 85), (tm 87)],
 O 13 (.mv (tm 88))]
def r_d4_17 : List CO := [
  O 89 (.mv (tm 13)),
 O 90 (.ne (B .neq ty_api_Errno) (tm 89) (.cst (iv 0)))]
def r_d4_18 : List CO := [
  O 91 (.mv (tm 13)),
 O 4 (.mv (tm 91))]
def r_d4_19 : List CO := [
  O 92 (.mv (tm 0)),
 O 93 (.nil (tm 92)),
 O 94 (.fa 13 (tm 93)),
 O 95 (.fa 2 (tm 94)),
 O 96 (.load (tm 95)),
 O 97 (.add (B .add ty_int) (tm 96) (.cst (iv 1))),
 O 98 (.nil (tm 92)),
 O 99 (.fa 13 (tm 98)),
 O 100 (.fa 2 (tm 99)),
 .op none none (.store 1 (tm 100) (tm 97))]
def r_d4_20 : List CO := [
  O 101 (.add (B .add ty_int) (tm 74) (.cst (iv 1))),
 O 74 (.mv (tm 101))]
def r_d4_21 : List CO := [
  O 4 (.mv (.cst (iv 0)))]
def r_d2_0 : List CO := [
  O 2 (.mv (.cst (iv 0)))]
def r_d2_1 : List CO := [
  O 7 (.mv (tm 0)),
 O 8 (.nil (tm 7)),
 O 9 (.fa 13 (tm 8)),
 O 10 (.loadN 3 (tm 9)),
 O 11 (.mv (tm 0)),
 O 12 (.nil (tm 11)),
 O 13 (.fa 1 (tm 12)),
 O 14 (.fa 0 (tm 13)),
 O 15 (.load (tm 14)),
 C 16 fn_e0 [(tm 10), (tm 15)],
 O 6 (.mv (tm 16)),
 O 17 (.ext 0 (tm 6)),
 O 18 (.ext 1 (tm 6)),
 O 3 (.mv (tm 17)),
 O 4 (.mv (tm 18))]
def r_d2_2 : List CO := [
  O 19 (.mv (tm 0)),
 O 20 (.nil (tm 19)),
 O 21 (.fa 0 (tm 20)),
 O 22 (.load (tm 21)),
 C 23 fn_b7 [(tm 22)],
 O 5 (.mv (tm 23))]
def r_d2_3 : List CO := [
  O 24 (.mv (tm 5)),
 O 25 (.eq (B .eql ty_api_Errno) (tm 24) (.cst (iv 0)))]
def r_d2_4 : List CO := [
  O 26 (.mv (tm 0)),
 O 27 (.nil (tm 26)),
 O 28 (.fa 0 (tm 27)),
 O 29 (.load (tm 28)),
 O 30 (.mv (tm 3)),
 C 31 fn_c0 [(tm 29), (.cst (iv 1)), (tm 30)],
 O 5 (.mv (tm 31))]
def r_d2_5 : List CO := [
  O 32 (.mv (tm 5)),
 O 33 (.eq (B .eql ty_api_Errno) (tm 32) (.cst (iv 0)))]
def r_d2_6 : List CO := [
  O 34 (.mv (tm 0)),
 O 35 (.nil (tm 34)),
 O 36 (.fa 0 (tm 35)),
 O 37 (.load (tm 36)),
 C 38 fn_b7 [(tm 37)],
 O 5 (.mv (tm 38))]
def r_d2_7 : List CO := [
  O 39 (.mv (tm 0)),
 O 40 (.mv (tm 0)),
 O 41 (.nil (tm 40)),
 O 42 (.fa 17 (tm 41)),
 O 43 (.load (tm 42)),
 O 44 (.mv (tm 43)),
 G 45 44 false (.mv (tm 5)),
 G 46 44 false (.ne (B .neq ty_api_Errno) (tm 45) (.cst (iv 0))),
 O 47 (.pick (tm 44) (.cst (.b true)) (tm 46)),
 O 48 (.nil (tm 39)),
 O 49 (.fa 17 (tm 48)),
 .op none none (.store 1 (tm 49) (tm 47))]
def r_d2_8 : List CO := [
  O 50 (.mv (tm 5)),
 O 2 (.mv (tm 50))]
def r_a6_0 : List CO := [
  O 2 (.mv (.cst nils))]
def r_a6_1 : List CO := [
  O 3 (.mv (tm 0)),
 O 4 (.eq (B .eql ty_suint8) (tm 3) (.cst nils))]
def r_a6_2 : List CO := [
  O 2 (.mv (.cst nils))]
def r_a6_3 : List CO := [
  O 5 (.bslice ty_uint8 0 0 [(.y 0)] []),
 O 6 (.mv (tm 0)),
 O 7 (.app ty_uint8 1 1 [(.y 0)] (tm 5) (tm 6)),
 O 2 (.mv (tm 7))]
def r_a3_0 : List CO := [
  O 4 (.mv (tm 1)),
 O 5 (.gt (B .gtr ty_int) (tm 4) (.cst (iv 0)))]
def r_a3_1 : List CO := [
  O 6 (.mv (tm 0)),
 O 7 (.mv (tm 0)),
 O 8 (.nil (tm 7)),
 O 9 (.fa 1 (tm 8)),
 O 10 (.load (tm 9)),
 O 11 (.mv (tm 1)),
 O 12 (.sub (B .sub ty_int) (tm 11) (.cst (iv 1))),
 O 13 (.iaS 1 (tm 10) (tm 12)),
 O 14 (.load (tm 13)),
 O 15 (.nil (tm 6)),
 O 16 (.fa 0 (tm 15)),
 .op none none (.store 1 (tm 16) (tm 14))]
def r_a3_2 : List CO := [
  O 17 (.mv (tm 0)),
 O 18 (.nil (tm 17)),
 O 19 (.fa 1 (tm 18)),
 .op none none (.store 1 (tm 19) (.cst nils))]
def r_h2_0 : List CO := [
  O 3 (.box ty_api_Plan (tm 1)),
 O 4 (.mv (.cst (iv 0)))]
def r_h2_1 : List CO := [
  O 6 (.mv (tm 0)),
 O 7 (.eqp false (B .eql ty_pdevice_Device) (tm 6) (.cst nilp)),
 O 5 (.mv (tm 7))]
def r_h2_2 : List CO := [
  O 4 (.mv (.cst (iv 1)))]
def r_h2_3 : List CO := [
  O 9 (.loadN 12 (tm 3)),
 C 10 fn_g2 [(tm 9)],
 O 11 (.ne (B .neq ty_api_Errno) (tm 10) (.cst (iv 0))),
 O 12 (.mv (tm 11)),
 G 13 12 false (.mv (tm 0)),
 .call (some (pth 14)) (some (pth 12, false)) (.cst (.func fn_b3 [])) [(tm 13)],
 G 15 12 false (.fa 0 (tm 3)),
 G 16 12 false (.load (tm 15)),
 G 17 12 false (.ne (B .neq ty_int) (tm 14) (tm 16)),
 O 18 (.pick (tm 12) (.cst (.b true)) (tm 17)),
 O 19 (.mv (tm 18)),
 G 20 19 false (.mv (tm 0)),
 .call (some (pth 21)) (some (pth 19, false)) (.cst (.func fn_b4 [])) [(tm 20)],
 G 22 19 false (.fa 1 (tm 3)),
 G 23 19 false (.load (tm 22)),
 G 24 19 false (.ne (B .neq ty_int) (tm 21) (tm 23)),
 O 25 (.pick (tm 19) (.cst (.b true)) (tm 24)),
 O 8 (.mv (tm 25))]
def r_h2_4 : List CO := [
  O 4 (.mv (.cst (iv 4)))]
def r_h2_5 : List CO := [
  O 4 (.mv (.cst (iv 0)))]
def r_e2_0 : List CO := [
  O 2 (.alloc ty_api_Header 3 [(iv 0), (iv 0), (iv 0)]),
 O 3 (.mv (.cst (iv 0)))]
def r_e2_1 : List CO := [
  O 8 (.mv (tm 0)),
 O 9 (.len false (tm 8)),
 C 10 fn_e3 [(tm 9)],
 O 11 (.un .not (tm 10))]
def r_e2_2 : List CO := [
  O 12 (.build [(iv 0), (iv 0), (iv 0)] []),
 .op none none (.store 3 (tm 2) (tm 12)),
 O 3 (.mv (.cst (iv 4)))]
def r_e2_3 : List CO := [
  O 4 (.alloc ty_api_Header 3 [(iv 0), (iv 0), (iv 0)])]
def r_e2_4 : List CO := [
  O 13 (.mv (tm 0)),
 O 14 (.build [nils, (iv 0)] [(0, 1, (tm 13)), (1, 1, (.cst (iv 4)))]),
 O 15 (.box ty_codec_reader (tm 14)),
 O 5 (.mv (tm 15))]
def r_e2_5 : List CO := [
  O 16 (.mv (tm 5)),
 O 17 (.fa 0 (tm 4)),
 O 18 (.bslice ty_pint 1 1 [nilp] [(0, 1, (tm 17))]),
 C 19 fn_a9 [(tm 16), (.cst (iv 4)), (tm 18)]]
def r_e2_6 : List CO := [
  O 20 (.mv (tm 5)),
 O 21 (.fa 1 (tm 4)),
 O 22 (.fa 2 (tm 4)),
 O 23 (.bslice ty_pint 2 2 [nilp] [(0, 1, (tm 21)), (1, 1, (tm 22))]),
 C 24 fn_a9 [(tm 20), (.cst (iv 2)), (tm 23)]]
def r_e2_7 : List CO := [
  O 26 (.loadN 3 (tm 4)),
 O 27 (.mv (tm 0)),
 O 28 (.len false (tm 27)),
 C 29 fn_e0 [(tm 26), (tm 28)],
 O 25 (.mv (tm 29)),
 O 30 (.ext 0 (tm 25)),
 O 31 (.ext 1 (tm 25)),
 O 6 (.mv (tm 30)),
 O 7 (.mv (tm 31))]
def r_e2_8 : List CO := [
  O 32 (.loadN 3 (tm 4)),
 O 33 (.mv (tm 0)),
 O 34 (.mv (tm 6)),
 O 35 (.mv (tm 7)),
 C 36 fn_e4 [(tm 32), (tm 33), (tm 34), (tm 35)],
 O 37 (.ext 0 (tm 36)),
 O 38 (.ext 1 (tm 36)),
 .op none none (.store 3 (tm 2) (tm 37)),
 O 3 (.mv (tm 38))]
def r_d5_0 : List CO := [
  O 2 (.mv (.cst (iv 0)))]
def r_d5_1 : List CO := [
  O 3 (.mv (.cst nils)),
 O 4 (.mv (.cst nils))]
def r_d5_2 : List CO := [
  O 5 (.mv (.cst (iv 0))),
 O 6 (.mv (.cst (iv 0))),
 O 7 (.mv (.cst (iv 0)))]
def r_d5_3 : List CO := [
  O 8 (.mv (.cst nils))]
def r_d5_4 : List CO := [
  O 9 (.mv (.cst (iv 0)))]
def r_d5_5 : List CO := [
  O 10 (.mv (tm 6)),
 O 11 (.mv (tm 0)),
 O 12 (.nil (tm 11)),
 O 13 (.fa 13 (tm 12)),
 O 14 (.fa 2 (tm 13)),
 O 15 (.load (tm 14)),
 O 16 (.eq (B .eql ty_int) (tm 10) (tm 15))]
def r_d5_6 : List CO := [
  O 18 (.mv (tm 0)),
 O 19 (.nil (tm 18)),
 O 20 (.fa 0 (tm 19)),
 O 21 (.load (tm 20)),
 O 22 (.mv (tm 0)),
 O 23 (.mv (tm 6)),
 C 24 fn_d1 [(tm 22), (tm 23)],
 C 25 fn_b9 [(tm 21), (tm 24)],
 O 17 (.mv (tm 25)),
 O 26 (.ext 0 (tm 17)),
 O 27 (.ext 1 (tm 17)),
 O 8 (.mv (tm 26)),
 O 9 (.mv (tm 27))]
def r_d5_7 : List CO := [
  O 28 (.mv (tm 9)),
 O 29 (.ne (B .neq ty_api_Errno) (tm 28) (.cst (iv 0)))]
def r_d5_8 : List CO := [
  O 30 (.mv (tm 9)),
 O 2 (.mv (tm 30))]
def r_d5_9 : List CO := [
  O 32 (.mv (tm 8)),
 C 33 fn_e1 [(tm 32)],
 O 31 (.mv (tm 33)),
 O 34 (.ext 0 (tm 31)),
 O 35 (.ext 1 (tm 31)),
 O 36 (.ext 2 (tm 31)),
 O 5 (.mv (tm 34)),
 O 3 (.mv (tm 35)),
 O 9 (.mv (tm 36))]
def r_d5_10 : List CO := [
  O 37 (.mv (tm 9)),
 O 38 (.ne (B .neq ty_api_Errno) (tm 37) (.cst (iv 0))),
 O 39 (.mv (tm 38)),
 G 40 39 false (.mv (tm 3)),
 G 41 39 false (.len false (tm 40)),
 G 42 39 false (.eq (B .eql ty_int) (tm 41) (.cst (iv 0))),
 O 43 (.pick (tm 39) (.cst (.b true)) (tm 42)),
 O 44 (.mv (tm 43)),
 G 45 44 false (.mv (tm 6)),
 G 46 44 false (.mv (tm 3)),
 G 47 44 false (.len false (tm 46)),
 G 48 44 false (.add (B .add ty_int) (tm 45) (tm 47)),
 G 49 44 false (.mv (tm 0)),
 G 50 44 false (.nil (tm 49)),
 G 51 44 false (.fa 13 (tm 50)),
 G 52 44 false (.fa 2 (tm 51)),
 G 53 44 false (.load (tm 52)),
 G 54 44 false (.ge (B .geq ty_int) (tm 48) (tm 53)),
 O 55 (.pick (tm 44) (.cst (.b true)) (tm 54)),
 O 56 (.mv (tm 55)),
 G 57 56 false (.mv (tm 0)),
 G 58 56 false (.mv (tm 3)),
 .call (some (pth 59)) (some (pth 56, false)) (.cst (.func fn_d3 [])) [(tm 57), (tm 58)],
 O 60 (.pick (tm 56) (.cst (.b true)) (tm 59))]
def r_d5_11 : List CO := [
  O 2 (.mv (.cst (iv 9)))]
def r_d5_12 : List CO := [
  O 61 (.mv (tm 4)),
 O 62 (.mv (tm 5)),
 O 63 (.bslice ty_int 1 1 [(iv 0)] [(0, 1, (tm 62))]),
 O 64 (.app ty_int 1 8 [(iv 0)] (tm 61) (tm 63)),
 O 4 (.mv (tm 64))]
def r_d5_13 : List CO := [
  O 65 (.mv (tm 3)),
 O 66 (.len false (tm 65)),
 O 67 (.mv (.cst (iv 0)))]
def r_d5_14 : List CO := [
  O 68 (.lt (B .lss ty_int) (tm 67) (tm 66))]
def r_d5_15 : List CO := [
  O 69 (.mv (tm 67)),
 O 7 (.mv (tm 69))]
def r_d5_16 : List CO := [
  O 71 (.mv (tm 0)),
 O 72 (.nil (tm 71)),
 O 73 (.fa 0 (tm 72)),
 O 74 (.load (tm 73)),
 O 75 (.mv (tm 0)),
 O 76 (.mv (tm 6)),
 O 77 (.add (B .add ty_int) (tm 76) (.cst (iv 1))),
 O 78 (.mv (tm 7)),
 O 79 (.add (B .add ty_int) (tm 77) (tm 78)),
 C 80 fn_d1 [(tm 75), (tm 79)],
 C 81 fn_b9 [(tm 74), (tm 80)],
 O 70 (.mv (tm 81)),
 O 82 (.ext 0 (tm 70)),
 O 83 (.ext 1 (tm 70)),
 O 8 (.mv (tm 82)),
 O 9 (.mv (tm 83))]
def r_d5_17 : List CO := [
  O 84 (.mv (tm 9)),
 O 85 (.ne (B .neq ty_api_Errno) (tm 84) (.cst (iv 0)))]
def r_d5_18 : List CO := [
  O 86 (.mv (tm 9)),
 O 2 (.mv (tm 86))]
def r_d5_19 : List CO := [
  O 87 (.mv (tm 0)),
 O 88 (.nil (tm 87)),
 O 89 (.fa 16 (tm 88)),
 O 90 (.load (tm 89)),
 O 91 (.mv (tm 3)),
 O 92 (.mv (tm 7)),
 O 93 (.iaS 1 (tm 91) (tm 92)),
 O 94 (.load (tm 93)),
 O 95 (.mv (tm 8)),
 .op none none (.mupd (some .i64) (tm 90) (tm 94) (tm 95))]
def r_d5_20 : List CO := [
  O 96 (.add (B .add ty_int) (tm 67) (.cst (iv 1))),
 O 67 (.mv (tm 96))]
def r_d5_21 : List CO := [
  O 97 (.mv (tm 6)),
 O 98 (.mv (tm 3)),
 O 99 (.len false (tm 98)),
 O 100 (.add (B .add ty_int) (.cst (iv 1)) (tm 99)),
 O 101 (.add (B .add ty_int) (tm 97) (tm 100)),
 O 6 (.mv (tm 101))]
def r_d5_22 : List CO := [
  O 102 (.mv (tm 4)),
 O 103 (.len false (tm 102)),
 O 104 (.mv (.cst (iv 0)))]
def r_d5_23 : List CO := [
  O 105 (.lt (B .lss ty_int) (tm 104) (tm 103))]
def r_d5_24 : List CO := [
  O 106 (.mv (tm 104)),
 O 107 (.iaS 1 (tm 102) (tm 104)),
 O 108 (.load (tm 107)),
 O 7 (.mv (tm 106)),
 O 5 (.mv (tm 108))]
def r_d5_25 : List CO := [
  O 109 (.mv (tm 5)),
 O 110 (.mv (tm 0)),
 O 111 (.nil (tm 110)),
 O 112 (.fa 13 (tm 111)),
 O 113 (.fa 0 (tm 112)),
 O 114 (.load (tm 113)),
 O 115 (.mv (tm 4)),
 O 116 (.len false (tm 115)),
 O 117 (.sub (B .sub ty_int) (tm 114) (tm 116)),
 O 118 (.mv (tm 7)),
 O 119 (.add (B .add ty_int) (tm 117) (tm 118)),
 O 120 (.ne (B .neq ty_int) (tm 109) (tm 119))]
def r_d5_26 : List CO := [
  O 2 (.mv (.cst (iv 9)))]
def r_d5_27 : List CO := [
  O 121 (.add (B .add ty_int) (tm 104) (.cst (iv 1))),
 O 104 (.mv (tm 121))]
def r_d5_28 : List CO := [
  O 2 (.mv (.cst (iv 0)))]
noncomputable def b_Log_replay : Code := scopeOf (Tryz.prog.funcs[57]?)
noncomputable def cb_Log_replay : CC := (.seq (.reg r_d5_1) (.seq (.reg r_d5_2) (.seq (.reg r_d5_3) (.seq (.reg r_d5_4) (.seq .skip (.seq (.seq (.reg r_d5_5) (.cond (tm 16) (.goto 0) .skip)) (.seq (.seq (.drawn r_d5_6 [(3, 0), (3, 7)]) (.seq (.reg r_d5_7) (.cond (tm 29) (.seq (.reg r_d5_8) .ret) .skip))) (.seq (.reg r_d5_9) (.seq (.seq (.reg r_d5_10) (.cond (tm 60) (.seq (.reg r_d5_11) .ret) .skip)) (.seq (.reg r_d5_12) (.seq (.seq (.reg r_d5_13) (.block 0 (.loop (.seq (.reg r_d5_14) (.seq (.cond (tm 68) .skip (.exit 0)) (.seq (.block 1 (.seq (.reg r_d5_15) (.seq (.seq (.drawn r_d5_16 [(3, 0), (3, 10)]) (.seq (.reg r_d5_17) (.cond (tm 85) (.seq (.reg r_d5_18) .ret) .skip))) (.drawn r_d5_19 [(3, 0), (7, 0)])))) (.reg r_d5_20))))))) (.seq (.reg r_d5_21) (.seq (.goto 1) (.seq .skip (.seq (.seq (.reg r_d5_22) (.block 2 (.loop (.seq (.reg r_d5_23) (.seq (.cond (tm 105) .skip (.exit 2)) (.seq (.block 3 (.seq (.reg r_d5_24) (.seq (.reg r_d5_25) (.cond (tm 120) (.seq (.reg r_d5_26) .ret) .skip)))) (.reg r_d5_27))))))) (.seq (.reg r_d5_28) .ret))))))))))))))))
theorem hb_Log_replay : comp Tryz.prog b_Log_replay = cb_Log_replay := by kernel_rfl
noncomputable def cr_Log_replay_1 : CC := (.seq .skip (.seq (.seq (.reg r_d5_5) (.cond (tm 16) (.goto 0) .skip)) (.seq (.seq (.drawn r_d5_6 [(3, 0), (3, 7)]) (.seq (.reg r_d5_7) (.cond (tm 29) (.seq (.reg r_d5_8) .ret) .skip))) (.seq (.reg r_d5_9) (.seq (.seq (.reg r_d5_10) (.cond (tm 60) (.seq (.reg r_d5_11) .ret) .skip)) (.seq (.reg r_d5_12) (.seq (.seq (.reg r_d5_13) (.block 0 (.loop (.seq (.reg r_d5_14) (.seq (.cond (tm 68) .skip (.exit 0)) (.seq (.block 1 (.seq (.reg r_d5_15) (.seq (.seq (.drawn r_d5_16 [(3, 0), (3, 10)]) (.seq (.reg r_d5_17) (.cond (tm 85) (.seq (.reg r_d5_18) .ret) .skip))) (.drawn r_d5_19 [(3, 0), (7, 0)])))) (.reg r_d5_20))))))) (.seq (.reg r_d5_21) (.seq (.goto 1) (.seq .skip (.seq (.seq (.reg r_d5_22) (.block 2 (.loop (.seq (.reg r_d5_23) (.seq (.cond (tm 105) .skip (.exit 2)) (.seq (.block 3 (.seq (.reg r_d5_24) (.seq (.reg r_d5_25) (.cond (tm 120) (.seq (.reg r_d5_26) .ret) .skip)))) (.reg r_d5_27))))))) (.seq (.reg r_d5_28) .ret))))))))))))
theorem hl_Log_replay_1 : findLabel b_Log_replay 1 = some (restOf b_Log_replay 1) := by kernel_rfl
theorem hc_Log_replay_1 : comp Tryz.prog (restOf b_Log_replay 1) = cr_Log_replay_1 := by kernel_rfl
noncomputable def cr_Log_replay_0 : CC := (.seq .skip (.seq (.seq (.reg r_d5_22) (.block 2 (.loop (.seq (.reg r_d5_23) (.seq (.cond (tm 105) .skip (.exit 2)) (.seq (.block 3 (.seq (.reg r_d5_24) (.seq (.reg r_d5_25) (.cond (tm 120) (.seq (.reg r_d5_26) .ret) .skip)))) (.reg r_d5_27))))))) (.seq (.reg r_d5_28) .ret)))
theorem hl_Log_replay_0 : findLabel b_Log_replay 0 = some (restOf b_Log_replay 0) := by kernel_rfl
theorem hc_Log_replay_0 : comp Tryz.prog (restOf b_Log_replay 0) = cr_Log_replay_0 := by kernel_rfl
def r_d7_0 : List CO := [
  O 6 (.mv (.cst (iv 0)))]
def r_d7_1 : List CO := [
  O 8 (.mv (tm 0)),
 O 9 (.nil (tm 8)),
 O 10 (.fa 0 (tm 9)),
 O 11 (.load (tm 10)),
 O 12 (.mv (tm 1)),
 O 13 (.mv (tm 2)),
 C 14 fn_c0 [(tm 11), (tm 12), (tm 13)],
 O 7 (.mv (tm 14))]
def r_d7_2 : List CO := [
  O 15 (.mv (tm 0)),
 O 16 (.mv (tm 0)),
 O 17 (.nil (tm 16)),
 O 18 (.fa 17 (tm 17)),
 O 19 (.load (tm 18)),
 O 20 (.mv (tm 19)),
 G 21 20 false (.mv (tm 7)),
 G 22 20 false (.ne (B .neq ty_api_Errno) (tm 21) (.cst (iv 0))),
 O 23 (.pick (tm 20) (.cst (.b true)) (tm 22)),
 O 24 (.nil (tm 15)),
 O 25 (.fa 17 (tm 24)),
 .op none none (.store 1 (tm 25) (tm 23))]
def r_d7_3 : List CO := [
  O 26 (.mv (tm 7)),
 O 6 (.mv (tm 26))]
def r_c2_0 : List CO := [
  O 4 (.mv (.cst nilp))]
def r_c2_1 : List CO := [
  O 5 (.mv (tm 1)),
 O 6 (.lt (B .lss ty_int) (tm 5) (.cst (iv 0))),
 O 7 (.mv (tm 6)),
 G 8 7 false (.mv (tm 1)),
 G 9 7 false (.mv (tm 0)),
 G 10 7 false (.nil (tm 9)),
 G 11 7 false (.fa 1 (tm 10)),
 G 12 7 false (.load (tm 11)),
 G 13 7 false (.len false (tm 12)),
 G 14 7 false (.ge (B .geq ty_int) (tm 8) (tm 13)),
 O 15 (.pick (tm 7) (.cst (.b true)) (tm 14))]
def r_c2_2 : List CO := [
  O 4 (.mv (.cst nilp))]
def r_c2_3 : List CO := [
  O 16 (.mv (tm 0)),
 O 17 (.nil (tm 16)),
 O 18 (.fa 1 (tm 17)),
 O 19 (.load (tm 18)),
 O 20 (.mv (tm 1)),
 O 21 (.iaS 2 (tm 19) (tm 20)),
 O 4 (.mv (tm 21))]
def r_a2_0 : List CO := [
  O 2 (.mv (.cst nils))]
def r_a2_1 : List CO := [
  O 4 (.mv (tm 0)),
 O 5 (.nil (tm 4)),
 O 6 (.fa 1 (tm 5)),
 O 7 (.load (tm 6)),
 O 8 (.len false (tm 7)),
 O 3 (.mv (tm 8))]
def r_a2_2 : List CO := [
  O 9 (.mv (tm 3)),
 O 10 (.gt (B .gtr ty_int) (tm 9) (.cst (iv 0)))]
def r_a2_3 : List CO := [
  O 11 (.mv (tm 0)),
 O 12 (.nil (tm 11)),
 O 13 (.fa 1 (tm 12)),
 O 14 (.load (tm 13)),
 O 15 (.mv (tm 3)),
 O 16 (.sub (B .sub ty_int) (tm 15) (.cst (iv 1))),
 O 17 (.iaS 1 (tm 14) (tm 16)),
 O 18 (.load (tm 17)),
 O 2 (.mv (tm 18))]
def r_a2_4 : List CO := [
  O 19 (.mv (tm 0)),
 O 20 (.nil (tm 19)),
 O 21 (.fa 0 (tm 20)),
 O 22 (.load (tm 21)),
 O 2 (.mv (tm 22))]
def r_g2_0 : List CO := [
  O 1 (.box ty_api_Plan (tm 0)),
 O 2 (.mv (.cst (iv 0)))]
def r_g2_1 : List CO := [
  O 6 (.fa 0 (tm 1)),
 O 7 (.load (tm 6)),
 O 8 (.fa 1 (tm 1)),
 O 9 (.load (tm 8)),
 O 10 (.fa 2 (tm 1)),
 O 11 (.load (tm 10)),
 O 12 (.fa 3 (tm 1)),
 O 13 (.load (tm 12)),
 C 14 fn_g3 [(tm 7), (tm 9), (tm 11), (tm 13)],
 O 5 (.mv (tm 14)),
 O 15 (.ext 0 (tm 5)),
 O 16 (.ext 1 (tm 5)),
 O 3 (.alloc ty_api_Plan 12 [(iv 0), (iv 0), (iv 0), (iv 0), (iv 0), (iv 0), (iv 0), (iv 0), (iv 0), (iv 0), (iv 0), (iv 0)]),
 .op none none (.store 12 (tm 3) (tm 15)),
 O 4 (.mv (tm 16))]
def r_g2_2 : List CO := [
  O 17 (.mv (tm 4)),
 O 18 (.ne (B .neq ty_api_Errno) (tm 17) (.cst (iv 0))),
 O 19 (.mv (tm 18)),
 G 20 19 false (.loadN 12 (tm 3)),
 G 21 19 false (.loadN 12 (tm 1)),
 G 22 19 false (.ne (B .neq ty_api_Plan) (tm 20) (tm 21)),
 O 23 (.pick (tm 19) (.cst (.b true)) (tm 22))]
def r_g2_3 : List CO := [
  O 2 (.mv (.cst (iv 4)))]
def r_g2_4 : List CO := [
  O 2 (.mv (.cst (iv 0)))]
def r_e0_0 : List CO := [
  O 2 (.box ty_api_Header (tm 0)),
 O 4 (.mv (.cst nils)),
 O 5 (.mv (.cst (iv 0)))]
def r_e0_1 : List CO := [
  O 7 (.mv (tm 1)),
 C 8 fn_e3 [(tm 7)],
 O 9 (.un .not (tm 8))]
def r_e0_2 : List CO := [
  O 4 (.mv (.cst nils)),
 O 5 (.mv (.cst (iv 1)))]
def r_e0_3 : List CO := [
  O 10 (.bslice ty_uint8 4 4 [(.y 0)] [(0, 1, (.cst (.y 83))), (1, 1, (.cst (.y 76))), (2, 1, (.cst (.y 79))), (3, 1, (.cst (.y 71)))]),
 O 11 (.mark (tsize Tryz.prog) (tm 10)),
 O 12 (.build [nils, (iv 0)] [(0, 1, (tm 11))]),
 O 13 (.box ty_codec_writer (tm 12)),
 O 6 (.mv (tm 13))]
def r_e0_4 : List CO := [
  O 14 (.mv (tm 6)),
 O 15 (.fa 0 (tm 2)),
 O 16 (.load (tm 15)),
 C 17 fn_b0 [(tm 14), (.cst (iv 4)), (tm 16)]]
def r_e0_5 : List CO := [
  O 18 (.mv (tm 6)),
 O 19 (.fa 1 (tm 2)),
 O 20 (.load (tm 19)),
 O 21 (.fa 2 (tm 2)),
 O 22 (.load (tm 21)),
 O 23 (.bslice ty_int 2 2 [(iv 0)] [(0, 1, (tm 20)), (1, 1, (tm 22))]),
 C 24 fn_b1 [(tm 18), (.cst (iv 2)), (tm 23)]]
def r_e0_6 : List CO := [
  O 25 (.mv (tm 6)),
 O 26 (.mv (tm 6)),
 O 27 (.nil (tm 26)),
 O 28 (.fa 0 (tm 27)),
 O 29 (.load (tm 28)),
 C 30 fn_e6 [(tm 29)],
 C 31 fn_b0 [(tm 25), (.cst (iv 4)), (tm 30)]]
def r_e0_7 : List CO := [
  O 32 (.mv (tm 6)),
 O 33 (.mv (tm 1)),
 C 34 fn_b2 [(tm 32), (tm 33)],
 O 35 (.ext 0 (tm 34)),
 O 36 (.ext 1 (tm 34)),
 O 4 (.mv (tm 35)),
 O 5 (.mv (tm 36))]
def r_c0_0 : List CO := [
  O 6 (.mv (.cst (iv 0)))]
def r_c0_1 : List CO := [
  O 10 (.mv (tm 0)),
 O 11 (.mv (tm 1)),
 O 12 (.mv (tm 2)),
 C 13 fn_c4 [(tm 10), (tm 11), (tm 12)],
 O 7 (.mv (tm 13))]
def r_c0_2 : List CO := [
  O 14 (.mv (tm 7)),
 O 15 (.ne (B .neq ty_api_Errno) (tm 14) (.cst (iv 0)))]
def r_c0_3 : List CO := [
  O 16 (.mv (tm 7)),
 O 6 (.mv (tm 16))]
def r_c0_4 : List CO := [
  O 17 (.mv (tm 0)),
 C 18 fn_c3 [(tm 17)],
 O 8 (.mv (tm 18))]
def r_c0_5 : List CO := [
  O 19 (.mv (tm 8)),
 O 20 (.ne (B .neq ty_api_Errno) (tm 19) (.cst (iv 0)))]
def r_c0_6 : List CO := [
  O 21 (.mv (tm 8)),
 O 6 (.mv (tm 21))]
def r_c0_7 : List CO := [
  O 22 (.mv (tm 0)),
 O 23 (.mv (tm 1)),
 C 24 fn_c2 [(tm 22), (tm 23)],
 O 9 (.mv (tm 24))]
def r_c0_8 : List CO := [
  O 25 (.mv (tm 9)),
 O 26 (.nil (tm 25)),
 O 27 (.fa 1 (tm 26)),
 O 28 (.load (tm 27)),
 O 29 (.len false (tm 28)),
 O 30 (.eq (B .eql ty_int) (tm 29) (.cst (iv 400)))]
def r_c0_9 : List CO := [
  O 31 (.mv (tm 9)),
 O 32 (.mv (tm 9)),
 O 33 (.nil (tm 32)),
 O 34 (.fa 1 (tm 33)),
 O 35 (.load (tm 34)),
 O 36 (.iaS 1 (tm 35) (.cst (iv 0))),
 O 37 (.load (tm 36)),
 O 38 (.nil (tm 31)),
 O 39 (.fa 0 (tm 38)),
 .op none none (.store 1 (tm 39) (tm 37))]
def r_c0_10 : List CO := [
  O 40 (.mv (tm 9)),
 O 41 (.mv (tm 9)),
 O 42 (.nil (tm 41)),
 O 43 (.fa 1 (tm 42)),
 O 44 (.load (tm 43)),
 C 45 fn_Delete [(tm 44), (.cst (iv 0)), (.cst (iv 1))],
 O 46 (.nil (tm 40)),
 O 47 (.fa 1 (tm 46)),
 .op none none (.store 1 (tm 47) (tm 45))]
def r_c0_11 : List CO := [
  O 48 (.mv (tm 9)),
 O 49 (.mv (tm 9)),
 O 50 (.nil (tm 49)),
 O 51 (.fa 1 (tm 50)),
 O 52 (.load (tm 51)),
 O 53 (.mv (tm 2)),
 C 54 fn_a6 [(tm 53)],
 O 55 (.bslice ty_suint8 1 1 [nils] [(0, 1, (tm 54))]),
 O 56 (.app ty_suint8 1 24 [nils] (tm 52) (tm 55)),
 O 57 (.nil (tm 48)),
 O 58 (.fa 1 (tm 57)),
 .op none none (.store 1 (tm 58) (tm 56))]
def r_c0_12 : List CO := [
  O 6 (.mv (.cst (iv 0)))]
def r_b7_0 : List CO := [
  O 2 (.mv (.cst (iv 0)))]
def r_b7_1 : List CO := [
  O 5 (.mv (tm 0)),
 O 6 (.eqp false (B .eql ty_pdevice_Device) (tm 5) (.cst nilp))]
def r_b7_2 : List CO := [
  O 2 (.mv (.cst (iv 1)))]
def r_b7_3 : List CO := [
  O 7 (.mv (tm 0)),
 C 8 fn_c3 [(tm 7)],
 O 3 (.mv (tm 8))]
def r_b7_4 : List CO := [
  O 9 (.mv (tm 3)),
 O 10 (.ne (B .neq ty_api_Errno) (tm 9) (.cst (iv 0)))]
def r_b7_5 : List CO := [
  O 11 (.mv (tm 3)),
 O 2 (.mv (tm 11))]
def r_b7_6 : List CO := [
  O 12 (.mv (tm 0)),
 O 13 (.nil (tm 12)),
 O 14 (.fa 1 (tm 13)),
 O 15 (.load (tm 14)),
 O 16 (.len false (tm 15)),
 O 17 (.mv (.cst (iv 0)))]
def r_b7_7 : List CO := [
  O 18 (.lt (B .lss ty_int) (tm 17) (tm 16))]
def r_b7_8 : List CO := [
  O 19 (.mv (tm 17)),
 O 4 (.mv (tm 19))]
def r_b7_9 : List CO := [
  O 20 (.mv (tm 0)),
 O 21 (.nil (tm 20)),
 O 22 (.fa 1 (tm 21)),
 O 23 (.load (tm 22)),
 O 24 (.mv (tm 4)),
 O 25 (.iaS 2 (tm 23) (tm 24)),
 O 26 (.mv (tm 0)),
 O 27 (.nil (tm 26)),
 O 28 (.fa 1 (tm 27)),
 O 29 (.load (tm 28)),
 O 30 (.mv (tm 4)),
 O 31 (.iaS 2 (tm 29) (tm 30)),
 O 32 (.fa 1 (tm 31)),
 O 33 (.load (tm 32)),
 O 34 (.len false (tm 33)),
 C 35 fn_a3 [(tm 25), (tm 34)]]
def r_b7_10 : List CO := [
  O 36 (.add (B .add ty_int) (tm 17) (.cst (iv 1))),
 O 17 (.mv (tm 36))]
def r_b7_11 : List CO := [
  O 2 (.mv (.cst (iv 0)))]
def r_c4_0 : List CO := [
  O 6 (.mv (.cst (iv 0)))]
def r_c4_1 : List CO := [
  O 8 (.mv (tm 0)),
 O 9 (.eqp false (B .eql ty_pdevice_Device) (tm 8) (.cst nilp)),
 O 7 (.mv (tm 9))]
def r_c4_2 : List CO := [
  O 6 (.mv (.cst (iv 1)))]
def r_c4_3 : List CO := [
  O 11 (.mv (tm 0)),
 O 12 (.mv (tm 1)),
 C 13 fn_c2 [(tm 11), (tm 12)],
 O 14 (.eqp false (B .eql ty_pdevice_cell) (tm 13) (.cst nilp)),
 O 10 (.mv (tm 14))]
def r_c4_4 : List CO := [
  O 6 (.mv (.cst (iv 2)))]
def r_c4_5 : List CO := [
  O 16 (.mv (tm 2)),
 O 17 (.len false (tm 16)),
 O 18 (.mv (tm 0)),
 O 19 (.nil (tm 18)),
 O 20 (.fa 0 (tm 19)),
 O 21 (.load (tm 20)),
 O 22 (.ne (B .neq ty_int) (tm 17) (tm 21)),
 O 15 (.mv (tm 22))]
def r_c4_6 : List CO := [
  O 6 (.mv (.cst (iv 1)))]
def r_c4_7 : List CO := [
  O 6 (.mv (.cst (iv 0)))]
def r_d3_0 : List CO := [
  O 4 (.mv (.cst (.b false)))]
def r_d3_1 : List CO := [
  O 8 (.mkmap none),
 O 5 (.mv (tm 8))]
def r_d3_2 : List CO := [
  O 9 (.mv (tm 1)),
 O 10 (.len false (tm 9)),
 O 11 (.mv (.cst (iv 0)))]
def r_d3_3 : List CO := [
  O 12 (.lt (B .lss ty_int) (tm 11) (tm 10))]
def r_d3_4 : List CO := [
  O 13 (.iaS 1 (tm 9) (tm 11)),
 O 14 (.load (tm 13)),
 O 7 (.mv (tm 14))]
def r_d3_5 : List CO := [
  O 15 (.mv (tm 5)),
 O 16 (.mv (tm 7)),
 O 17 (.build [] []),
 .op none none (.mupd (some .i64) (tm 15) (tm 16) (tm 17))]
def r_d3_6 : List CO := [
  O 18 (.add (B .add ty_int) (tm 11) (.cst (iv 1))),
 O 11 (.mv (tm 18))]
def r_d3_7 : List CO := [
  O 19 (.mv (tm 5)),
 O 20 (.mlen (tm 19)),
 O 21 (.mv (tm 1)),
 O 22 (.len false (tm 21)),
 O 23 (.lt (B .lss ty_int) (tm 20) (tm 22)),
 O 24 (.mv (tm 23)),
 G 25 24 false (.mv (tm 1)),
 .call (some (pth 26)) (some (pth 24, false)) (.cst (.func fn_g8 [])) [(tm 25)],
 G 27 24 false (.mv (tm 0)),
 G 28 24 false (.nil (tm 27)),
 G 29 24 false (.fa 1 (tm 28)),
 G 30 24 false (.fa 5 (tm 29)),
 G 31 24 false (.load (tm 30)),
 G 32 24 false (.lt (B .lss ty_int) (tm 26) (tm 31)),
 O 33 (.pick (tm 24) (.cst (.b true)) (tm 32)),
 O 34 (.mv (tm 33)),
 G 35 34 false (.mv (tm 1)),
 .call (some (pth 36)) (some (pth 34, false)) (.cst (.func fn_g7 [])) [(tm 35)],
 G 37 34 false (.mv (tm 0)),
 G 38 34 false (.nil (tm 37)),
 G 39 34 false (.fa 1 (tm 38)),
 G 40 34 false (.fa 1 (tm 39)),
 G 41 34 false (.load (tm 40)),
 G 42 34 false (.ge (B .geq ty_int) (tm 36) (tm 41)),
 O 43 (.pick (tm 34) (.cst (.b true)) (tm 42)),
 O 4 (.mv (tm 43))]
def r_a5_0 : List CO := [
  O 4 (.mv (.cst (iv 0)))]
def r_a5_1 : List CO := [
  O 6 (.mv (tm 4)),
 O 7 (.load (tm 1)),
 O 8 (.len false (tm 7)),
 O 9 (.lt (B .lss ty_int) (tm 6) (tm 8))]
def r_a5_3 : List CO := [
  O 13 (.load (tm 2)),
 O 14 (.load (tm 1)),
 O 15 (.mv (tm 4)),
 O 16 (.sl 2 false (tm 14) (some (tm 15)) none none),
 O 17 (.len false (tm 16)),
 O 18 (.min (tm 13) (tm 17)),
 O 5 (.mv (tm 18))]
def r_a5_4 : List CO := [
  O 19 (.mv (tm 0)),
 O 20 (.load (tm 1)),
 O 21 (.mv (tm 4)),
 O 22 (.mv (tm 4)),
 O 23 (.mv (tm 5)),
 O 24 (.add (B .add ty_int) (tm 22) (tm 23)),
 O 25 (.mv (tm 4)),
 O 26 (.mv (tm 5)),
 O 27 (.add (B .add ty_int) (tm 25) (tm 26)),
 O 28 (.sl 2 true (tm 20) (some (tm 21)) (some (tm 24)) (some (tm 27))),
 .call (some (pth 29)) none (tm 19) [(tm 28)],
 O 30 (.un .not (tm 29))]
def r_a5_2 : List CO := [
  O 10 (.mv (tm 4)),
 O 11 (.load (tm 2)),
 O 12 (.add (B .add ty_int) (tm 10) (tm 11)),
 O 4 (.mv (tm 12))]
def r_d9_0 : List CO := [
  O 6 (.mv (.cst nils)),
 O 7 (.mv (.cst (iv 0)))]
def r_d9_1 : List CO := [
  O 12 (.mv (tm 2)),
 C 13 fn_e3 [(tm 12)],
 O 14 (.un .not (tm 13))]
def r_d9_2 : List CO := [
  O 6 (.mv (.cst nils)),
 O 7 (.mv (.cst (iv 1)))]
def r_d9_3 : List CO := [
  O 15 (.build [nils, (iv 0)] []),
 O 16 (.box ty_codec_writer (tm 15)),
 O 8 (.mv (tm 16))]
def r_d9_4 : List CO := [
  O 17 (.mv (tm 8)),
 O 18 (.mv (tm 0)),
 C 19 fn_b0 [(tm 17), (.cst (iv 4)), (tm 18)]]
def r_d9_5 : List CO := [
  O 20 (.mv (tm 8)),
 O 21 (.mv (tm 1)),
 O 22 (.len false (tm 21)),
 O 23 (.min (tm 22) (.cst (iv 65535))),
 C 24 fn_b0 [(tm 20), (.cst (iv 2)), (tm 23)]]
def r_d9_6 : List CO := [
  O 25 (.mv (tm 8)),
 O 26 (.mv (tm 1)),
 C 27 fn_b1 [(tm 25), (.cst (iv 2)), (tm 26)]]
def r_d9_7 : List CO := [
  O 29 (.mv (tm 8)),
 O 30 (.nil (tm 29)),
 O 31 (.fa 1 (tm 30)),
 O 32 (.load (tm 31)),
 O 33 (.ne (B .neq ty_api_Errno) (tm 32) (.cst (iv 0))),
 O 28 (.mv (tm 33))]
def r_d9_8 : List CO := [
  O 34 (.mv (tm 8)),
 O 35 (.nil (tm 34)),
 O 36 (.fa 1 (tm 35)),
 O 37 (.load (tm 36)),
 O 6 (.mv (.cst nils)),
 O 7 (.mv (tm 37))]
def r_d9_9 : List CO := [
  O 39 (.mv (tm 1)),
 O 40 (.len false (tm 39)),
 O 41 (.mv (tm 2)),
 O 42 (.sub (B .sub ty_int) (tm 41) (.cst (iv 10))),
 O 43 (.quo (B .quo ty_int) (tm 42) (.cst (iv 2))),
 O 44 (.gt (B .gtr ty_int) (tm 40) (tm 43)),
 O 38 (.mv (tm 44))]
def r_d9_10 : List CO := [
  O 6 (.mv (.cst nils)),
 O 7 (.mv (.cst (iv 5)))]
def r_d9_11 : List CO := [
  O 46 (.mv (tm 8)),
 O 47 (.mv (tm 2)),
 O 48 (.sub (B .sub ty_int) (tm 47) (.cst (iv 4))),
 C 49 fn_b2 [(tm 46), (tm 48)],
 O 45 (.mv (tm 49)),
 O 50 (.ext 0 (tm 45)),
 O 51 (.ext 1 (tm 45)),
 O 9 (.mv (tm 50)),
 O 10 (.mv (tm 51))]
def r_d9_12 : List CO := [
  O 52 (.build [nils, (iv 0)] []),
 O 53 (.box ty_codec_writer (tm 52)),
 O 11 (.mv (tm 53))]
def r_d9_13 : List CO := [
  O 54 (.mv (tm 11)),
 O 55 (.mv (tm 9)),
 C 56 fn_e6 [(tm 55)],
 C 57 fn_b0 [(tm 54), (.cst (iv 4)), (tm 56)]]
def r_d9_14 : List CO := [
  O 58 (.mv (tm 11)),
 O 59 (.nil (tm 58)),
 O 60 (.fa 0 (tm 59)),
 O 61 (.load (tm 60)),
 O 62 (.mv (tm 9)),
 O 63 (.bslice ty_suint8 2 2 [nils] [(0, 1, (tm 61)), (1, 1, (tm 62))]),
 C 64 fn_a7 [(tm 63)],
 O 6 (.mv (tm 64)),
 O 7 (.mv (.cst (iv 0)))]
def r_d1_0 : List CO := [
  O 4 (.mv (.cst (iv 0)))]
def r_d1_1 : List CO := [
  O 5 (.mv (tm 0)),
 O 6 (.nil (tm 5)),
 O 7 (.fa 1 (tm 6)),
 O 8 (.fa 4 (tm 7)),
 O 9 (.load (tm 8)),
 O 10 (.mv (tm 0)),
 O 11 (.nil (tm 10)),
 O 12 (.fa 13 (tm 11)),
 O 13 (.fa 1 (tm 12)),
 O 14 (.load (tm 13)),
 O 15 (.mv (tm 1)),
 O 16 (.add (B .add ty_int) (tm 14) (tm 15)),
 O 17 (.mv (tm 0)),
 O 18 (.nil (tm 17)),
 O 19 (.fa 1 (tm 18)),
 O 20 (.fa 3 (tm 19)),
 O 21 (.load (tm 20)),
 O 22 (.rem (B .rem ty_int) (tm 16) (tm 21)),
 O 23 (.add (B .add ty_int) (tm 9) (tm 22)),
 O 4 (.mv (tm 23))]
def r_b3_0 : List CO := [
  O 2 (.mv (.cst (iv 0)))]
def r_b3_1 : List CO := [
  O 3 (.mv (tm 0)),
 O 4 (.eqp false (B .eql ty_pdevice_Device) (tm 3) (.cst nilp))]
def r_b3_2 : List CO := [
  O 2 (.mv (.cst (iv 0)))]
def r_b3_3 : List CO := [
  O 5 (.mv (tm 0)),
 O 6 (.nil (tm 5)),
 O 7 (.fa 0 (tm 6)),
 O 8 (.load (tm 7)),
 O 2 (.mv (tm 8))]
def r_b4_0 : List CO := [
  O 2 (.mv (.cst (iv 0)))]
def r_b4_1 : List CO := [
  O 3 (.mv (tm 0)),
 O 4 (.eqp false (B .eql ty_pdevice_Device) (tm 3) (.cst nilp))]
def r_b4_2 : List CO := [
  O 2 (.mv (.cst (iv 0)))]
def r_b4_3 : List CO := [
  O 5 (.mv (tm 0)),
 O 6 (.nil (tm 5)),
 O 7 (.fa 1 (tm 6)),
 O 8 (.load (tm 7)),
 O 9 (.len false (tm 8)),
 O 2 (.mv (tm 9))]
def r_e3_0 : List CO := [
  O 2 (.mv (.cst (.b false)))]
def r_e3_1 : List CO := [
  O 3 (.mv (tm 0)),
 O 4 (.ge (B .geq ty_int) (tm 3) (.cst (iv 64))),
 O 5 (.mv (tm 4)),
 G 6 5 true (.mv (tm 0)),
 G 7 5 true (.le (B .leq ty_int) (tm 6) (.cst (iv 4096))),
 O 8 (.pick (tm 5) (tm 7) (.cst (.b false))),
 O 9 (.mv (tm 8)),
 G 10 9 true (.mv (tm 0)),
 G 11 9 true (.mv (tm 0)),
 G 12 9 true (.sub (B .sub ty_int) (tm 11) (.cst (iv 1))),
 G 13 9 true (.and (B .and ty_int) (tm 10) (tm 12)),
 G 14 9 true (.eq (B .eql ty_int) (tm 13) (.cst (iv 0))),
 O 15 (.pick (tm 9) (tm 14) (.cst (.b false))),
 O 2 (.mv (tm 15))]
def r_a9_0 : List CO := [
  O 8 (.mv (tm 2)),
 O 9 (.len false (tm 8)),
 O 10 (.mv (.cst (iv 0)))]
def r_a9_1 : List CO := [
  O 11 (.lt (B .lss ty_int) (tm 10) (tm 9))]
def r_a9_2 : List CO := [
  O 12 (.iaS 1 (tm 8) (tm 10)),
 O 13 (.load (tm 12)),
 O 7 (.mv (tm 13))]
def r_a9_3 : List CO := [
  O 14 (.mv (tm 7)),
 O 15 (.mv (tm 0)),
 O 16 (.mv (tm 1)),
 C 17 fn_a8 [(tm 15), (tm 16)],
 O 18 (.nil (tm 14)),
 .op none none (.store 1 (tm 18) (tm 17))]
def r_a9_4 : List CO := [
  O 19 (.add (B .add ty_int) (tm 10) (.cst (iv 1))),
 O 10 (.mv (tm 19))]
def r_e4_0 : List CO := [
  O 4 (.box ty_api_Header (tm 0)),
 O 8 (.alloc ty_api_Header 3 [(iv 0), (iv 0), (iv 0)]),
 O 9 (.mv (.cst (iv 0)))]
def r_e4_1 : List CO := [
  O 11 (.mv (tm 3)),
 O 12 (.ne (B .neq ty_api_Errno) (tm 11) (.cst (iv 0))),
 O 13 (.mv (tm 12)),
 G 14 13 false (.mv (tm 1)),
 G 15 13 false (.mv (tm 2)),
 .call (some (pth 16)) (some (pth 13, false)) (.cst (.func fn_d8 [])) [(tm 14), (tm 15)],
 G 17 13 false (.un .not (tm 16)),
 O 18 (.pick (tm 13) (.cst (.b true)) (tm 17))]
def r_e4_2 : List CO := [
  O 10 (.alloc ty_api_Header 3 [(iv 0), (iv 0), (iv 0)])]
def r_e4_3 : List CO := [
  O 19 (.loadN 3 (tm 10)),
 .op none none (.store 3 (tm 8) (tm 19)),
 O 9 (.mv (.cst (iv 4)))]
def r_e4_4 : List CO := [
  O 20 (.loadN 3 (tm 4)),
 .op none none (.store 3 (tm 8) (tm 20)),
 O 9 (.mv (.cst (iv 0)))]
def r_e1_0 : List CO := [
  O 2 (.mv (.cst (iv 0))),
 O 3 (.mv (.cst nils)),
 O 4 (.mv (.cst (iv 0)))]
def r_e1_1 : List CO := [
  O 9 (.mv (tm 0)),
 O 10 (.len false (tm 9)),
 C 11 fn_e3 [(tm 10)],
 O 12 (.un .not (tm 11))]
def r_e1_2 : List CO := [
  O 2 (.mv (.cst (iv 0))),
 O 3 (.mv (.cst nils)),
 O 4 (.mv (.cst (iv 4)))]
def r_e1_3 : List CO := [
  O 13 (.mv (tm 0)),
 O 14 (.build [nils, (iv 0)] [(0, 1, (tm 13)), (1, 1, (.cst (iv 4)))]),
 O 15 (.box ty_codec_reader (tm 14)),
 O 5 (.mv (tm 15))]
def r_e1_4 : List CO := [
  O 16 (.mv (tm 5)),
 C 17 fn_a8 [(tm 16), (.cst (iv 4))],
 O 18 (.build [(iv 0), nils] [(0, 1, (tm 17))]),
 O 6 (.alloc ty_codec_desc 2 [(iv 0), nils]),
 .op none none (.store 2 (tm 6) (tm 18))]
def r_e1_5 : List CO := [
  O 19 (.mv (tm 5)),
 C 20 fn_a8 [(tm 19), (.cst (iv 2))],
 O 7 (.mv (tm 20))]
def r_e1_6 : List CO := [
  O 21 (.mv (tm 7)),
 O 22 (.mv (tm 0)),
 O 23 (.len false (tm 22)),
 O 24 (.sub (B .sub ty_int) (tm 23) (.cst (iv 10))),
 O 25 (.quo (B .quo ty_int) (tm 24) (.cst (iv 2))),
 O 26 (.gt (B .gtr ty_int) (tm 21) (tm 25))]
def r_e1_7 : List CO := [
  O 2 (.mv (.cst (iv 0))),
 O 3 (.mv (.cst nils)),
 O 4 (.mv (.cst (iv 4)))]
def r_e1_8 : List CO := [
  O 27 (.mv (tm 7)),
 O 28 (.mv (.cst (iv 0)))]
def r_e1_9 : List CO := [
  O 29 (.lt (B .lss ty_int) (tm 28) (tm 27))]
def r_e1_10 : List CO := [
  O 30 (.fa 1 (tm 6)),
 O 31 (.load (tm 30)),
 O 32 (.mv (tm 5)),
 C 33 fn_a8 [(tm 32), (.cst (iv 2))],
 O 34 (.bslice ty_int 1 1 [(iv 0)] [(0, 1, (tm 33))]),
 O 35 (.app ty_int 1 8 [(iv 0)] (tm 31) (tm 34)),
 O 36 (.fa 1 (tm 6)),
 .op none none (.store 1 (tm 36) (tm 35))]
def r_e1_11 : List CO := [
  O 37 (.add (B .add ty_int) (tm 28) (.cst (iv 1))),
 O 28 (.mv (tm 37))]
def r_e1_12 : List CO := [
  O 39 (.fa 0 (tm 6)),
 O 40 (.load (tm 39)),
 O 41 (.fa 1 (tm 6)),
 O 42 (.load (tm 41)),
 O 43 (.mv (tm 0)),
 O 44 (.len false (tm 43)),
 C 45 fn_d9 [(tm 40), (tm 42), (tm 44)],
 O 38 (.mv (tm 45)),
 O 46 (.ext 0 (tm 38)),
 O 47 (.ext 1 (tm 38)),
 O 8 (.mv (tm 46)),
 O 4 (.mv (tm 47))]
def r_e1_13 : List CO := [
  O 49 (.loadN 2 (tm 6)),
 O 50 (.mv (tm 0)),
 O 51 (.mv (tm 8)),
 O 52 (.mv (tm 4)),
 C 53 fn_e5 [(tm 49), (tm 50), (tm 51), (tm 52)],
 O 48 (.mv (tm 53)),
 O 54 (.ext 0 (tm 48)),
 O 55 (.ext 1 (tm 48)),
 .op none none (.store 2 (tm 6) (tm 54)),
 O 4 (.mv (tm 55))]
def r_e1_14 : List CO := [
  O 56 (.fa 0 (tm 6)),
 O 57 (.load (tm 56)),
 O 58 (.fa 1 (tm 6)),
 O 59 (.load (tm 58)),
 O 60 (.mv (tm 4)),
 O 2 (.mv (tm 57)),
 O 3 (.mv (tm 59)),
 O 4 (.mv (tm 60))]
def r_g3_0 : List CO := [
  O 8 (.alloc ty_api_Plan 12 [(iv 0), (iv 0), (iv 0), (iv 0), (iv 0), (iv 0), (iv 0), (iv 0), (iv 0), (iv 0), (iv 0), (iv 0)]),
 O 9 (.mv (.cst (iv 0)))]
def r_g3_1 : List CO := [
  O 14 (.mv (tm 0)),
 C 15 fn_g6 [(tm 14), (.cst (iv 64)), (.cst (iv 4096))],
 O 16 (.un .not (tm 15)),
 O 17 (.mv (tm 16)),
 G 18 17 false (.mv (tm 0)),
 G 19 17 false (.convI .u64 (tm 18)),
 .call (some (pth 20)) (some (pth 17, false)) (.cst (.func fn_g0 [])) [(tm 19)],
 G 21 17 false (.ne (B .neq ty_int) (tm 20) (.cst (iv 1))),
 O 22 (.pick (tm 17) (.cst (.b true)) (tm 21)),
 O 13 (.mv (tm 22))]
def r_g3_2 : List CO := [
  O 23 (.mv (tm 1)),
 C 24 fn_g6 [(tm 23), (.cst (iv 1)), (.cst (iv 4096))],
 O 25 (.un .not (tm 24)),
 O 13 (.mv (tm 25))]
def r_g3_3 : List CO := [
  O 26 (.mv (tm 2)),
 C 27 fn_g6 [(tm 26), (.cst (iv 2)), (.cst (iv 1024))],
 O 28 (.un .not (tm 27)),
 O 13 (.mv (tm 28))]
def r_g3_4 : List CO := [
  O 29 (.mv (tm 3)),
 C 30 fn_g6 [(tm 29), (.cst (iv 4)), (.cst (iv 512))],
 O 31 (.un .not (tm 30)),
 O 13 (.mv (tm 31))]
def r_g3_5 : List CO := [
  O 32 (.build [(iv 0), (iv 0), (iv 0), (iv 0), (iv 0), (iv 0), (iv 0), (iv 0), (iv 0), (iv 0), (iv 0), (iv 0)] []),
 .op none none (.store 12 (tm 8) (tm 32)),
 O 9 (.mv (.cst (iv 1)))]
def r_g3_6 : List CO := [
  O 34 (.mv (tm 0)),
 O 35 (.mv (tm 1)),
 O 36 (.mul (B .mul ty_int) (tm 34) (tm 35)),
 O 37 (.gt (B .gtr ty_int) (tm 36) (.cst (iv 1048576))),
 O 33 (.mv (tm 37))]
def r_g3_7 : List CO := [
  O 38 (.build [(iv 0), (iv 0), (iv 0), (iv 0), (iv 0), (iv 0), (iv 0), (iv 0), (iv 0), (iv 0), (iv 0), (iv 0)] []),
 .op none none (.store 12 (tm 8) (tm 38)),
 O 9 (.mv (.cst (iv 5)))]
def r_g3_8 : List CO := [
  O 39 (.mv (tm 0)),
 O 40 (.mv (tm 1)),
 O 41 (.mv (tm 2)),
 O 42 (.mv (tm 3)),
 O 43 (.build [(iv 0), (iv 0), (iv 0), (iv 0), (iv 0), (iv 0), (iv 0), (iv 0), (iv 0), (iv 0), (iv 0), (iv 0)] [(0, 1, (tm 39)), (1, 1, (tm 40)), (2, 1, (tm 41)), (3, 1, (tm 42))]),
 O 10 (.alloc ty_api_Plan 12 [(iv 0), (iv 0), (iv 0), (iv 0), (iv 0), (iv 0), (iv 0), (iv 0), (iv 0), (iv 0), (iv 0), (iv 0)]),
 .op none none (.store 12 (tm 10) (tm 43))]
def r_g3_9 : List CO := [
  O 11 (.alloc ty_int 1 [(iv 0)]),
 .op none none (.store 1 (tm 11) (.cst (iv 2)))]
def r_g3_10 : List CO := [
  O 44 (.fn fn_g4 [(tm 11)]),
 O 12 (.mv (tm 44))]
def r_g3_11 : List CO := [
  O 45 (.mv (tm 2)),
 O 46 (.mv (tm 0)),
 O 47 (.mul (B .mul ty_int) (.cst (iv 8)) (tm 46)),
 C 48 fn_g5 [(tm 45), (tm 47)],
 O 49 (.mv (tm 1)),
 O 50 (.mv (tm 0)),
 O 51 (.mul (B .mul ty_int) (.cst (iv 8)) (tm 50)),
 C 52 fn_g5 [(tm 49), (tm 51)],
 O 53 (.mv (tm 2)),
 O 54 (.mul (B .mul ty_int) (tm 53) (.cst (iv 32))),
 O 55 (.mv (tm 0)),
 C 56 fn_g5 [(tm 54), (tm 55)],
 O 57 (.fa 6 (tm 10)),
 .op none none (.store 1 (tm 57) (tm 48)),
 O 58 (.fa 8 (tm 10)),
 .op none none (.store 1 (tm 58) (tm 52)),
 O 59 (.fa 10 (tm 10)),
 .op none none (.store 1 (tm 59) (tm 56))]
def r_g3_12 : List CO := [
  O 60 (.mv (tm 12)),
 O 61 (.mv (tm 3)),
 .call (some (pth 62)) none (tm 60) [(tm 61)],
 O 63 (.mv (tm 12)),
 O 64 (.fa 6 (tm 10)),
 O 65 (.load (tm 64)),
 .call (some (pth 66)) none (tm 63) [(tm 65)],
 O 67 (.mv (tm 12)),
 O 68 (.fa 8 (tm 10)),
 O 69 (.load (tm 68)),
 .call (some (pth 70)) none (tm 67) [(tm 69)],
 O 71 (.mv (tm 12)),
 O 72 (.fa 10 (tm 10)),
 O 73 (.load (tm 72)),
 .call (some (pth 74)) none (tm 71) [(tm 73)],
 O 75 (.fa 4 (tm 10)),
 .op none none (.store 1 (tm 75) (tm 62)),
 O 76 (.fa 5 (tm 10)),
 .op none none (.store 1 (tm 76) (tm 66)),
 O 77 (.fa 7 (tm 10)),
 .op none none (.store 1 (tm 77) (tm 70)),
 O 78 (.fa 9 (tm 10)),
 .op none none (.store 1 (tm 78) (tm 74))]
def r_g3_13 : List CO := [
  O 79 (.load (tm 11)),
 O 80 (.fa 11 (tm 10)),
 .op none none (.store 1 (tm 80) (tm 79))]
def r_g3_14 : List CO := [
  O 81 (.fa 11 (tm 10)),
 O 82 (.load (tm 81)),
 O 83 (.mv (tm 1)),
 O 84 (.ge (B .geq ty_int) (tm 82) (tm 83))]
def r_g3_15 : List CO := [
  O 85 (.build [(iv 0), (iv 0), (iv 0), (iv 0), (iv 0), (iv 0), (iv 0), (iv 0), (iv 0), (iv 0), (iv 0), (iv 0)] []),
 .op none none (.store 12 (tm 8) (tm 85)),
 O 9 (.mv (.cst (iv 6)))]
def r_g3_16 : List CO := [
  O 86 (.loadN 12 (tm 10)),
 .op none none (.store 12 (tm 8) (tm 86)),
 O 9 (.mv (.cst (iv 0)))]
def r_b0_0 : List CO := [
  O 9 (.mv (tm 1)),
 O 10 (.mksl ty_uint8 1 1 [(.y 0)] (tm 9) (tm 9)),
 O 11 (.mv (tm 1)),
 O 12 (.mv (tm 2)),
 C 13 fn_f1 [(tm 10), (.cst (iv 0)), (tm 11), (tm 12)],
 O 8 (.mv (tm 13)),
 O 14 (.ext 0 (tm 8)),
 O 15 (.ext 1 (tm 8)),
 O 6 (.mv (tm 14)),
 O 7 (.mv (tm 15))]
def r_b0_1 : List CO := [
  O 16 (.mv (tm 7)),
 O 17 (.ne (B .neq ty_api_Errno) (tm 16) (.cst (iv 0))),
 O 18 (.mv (tm 17)),
 G 19 18 true (.mv (tm 0)),
 G 20 18 true (.nil (tm 19)),
 G 21 18 true (.fa 1 (tm 20)),
 G 22 18 true (.load (tm 21)),
 G 23 18 true (.eq (B .eql ty_api_Errno) (tm 22) (.cst (iv 0))),
 O 24 (.pick (tm 18) (tm 23) (.cst (.b false)))]
def r_b0_2 : List CO := [
  O 25 (.mv (tm 0)),
 O 26 (.mv (tm 7)),
 O 27 (.nil (tm 25)),
 O 28 (.fa 1 (tm 27)),
 .op none none (.store 1 (tm 28) (tm 26))]
def r_b0_3 : List CO := [
  O 29 (.mv (tm 0)),
 O 30 (.mv (tm 0)),
 O 31 (.nil (tm 30)),
 O 32 (.fa 0 (tm 31)),
 O 33 (.load (tm 32)),
 O 34 (.mv (tm 6)),
 O 35 (.app ty_uint8 1 1 [(.y 0)] (tm 33) (tm 34)),
 O 36 (.nil (tm 29)),
 O 37 (.fa 0 (tm 36)),
 .op none none (.store 1 (tm 37) (tm 35))]
def r_b1_0 : List CO := [
  O 8 (.mv (tm 2)),
 O 9 (.len false (tm 8)),
 O 10 (.mv (.cst (iv 0)))]
def r_b1_1 : List CO := [
  O 11 (.lt (B .lss ty_int) (tm 10) (tm 9))]
def r_b1_2 : List CO := [
  O 12 (.iaS 1 (tm 8) (tm 10)),
 O 13 (.load (tm 12)),
 O 7 (.mv (tm 13))]
def r_b1_3 : List CO := [
  O 14 (.mv (tm 0)),
 O 15 (.mv (tm 1)),
 O 16 (.mv (tm 7)),
 C 17 fn_b0 [(tm 14), (tm 15), (tm 16)]]
def r_b1_4 : List CO := [
  O 18 (.add (B .add ty_int) (tm 10) (.cst (iv 1))),
 O 10 (.mv (tm 18))]
def r_e6_0 : List CO := [
  O 2 (.mv (.cst (iv 0)))]
def r_e6_1 : List CO := [
  O 3 (.mv (tm 0)),
 C 4 fn_e8 [(.cst (.p (.int .u32 (0)))), (tm 3)],
 O 5 (.convI .i64 (tm 4)),
 O 2 (.mv (tm 5))]
def r_b2_0 : List CO := [
  O 4 (.mv (.cst nils)),
 O 5 (.mv (.cst (iv 0)))]
def r_b2_1 : List CO := [
  O 6 (.mv (tm 0)),
 O 7 (.nil (tm 6)),
 O 8 (.fa 1 (tm 7)),
 O 9 (.load (tm 8)),
 O 10 (.ne (B .neq ty_api_Errno) (tm 9) (.cst (iv 0)))]
def r_b2_2 : List CO := [
  O 11 (.mv (tm 0)),
 O 12 (.nil (tm 11)),
 O 13 (.fa 1 (tm 12)),
 O 14 (.load (tm 13)),
 O 4 (.mv (.cst nils)),
 O 5 (.mv (tm 14))]
def r_b2_3 : List CO := [
  O 15 (.mv (tm 0)),
 O 16 (.nil (tm 15)),
 O 17 (.fa 0 (tm 16)),
 O 18 (.load (tm 17)),
 O 19 (.mv (tm 1)),
 O 20 (.mv (tm 0)),
 O 21 (.nil (tm 20)),
 O 22 (.fa 0 (tm 21)),
 O 23 (.load (tm 22)),
 O 24 (.len false (tm 23)),
 O 25 (.sub (B .sub ty_int) (tm 19) (tm 24)),
 O 26 (.appz ty_uint8 1 1 [(.y 0)] (tm 18) (tm 25)),
 O 4 (.mv (tm 26)),
 O 5 (.mv (.cst (iv 0)))]
def r_c3_0 : List CO := [
  O 2 (.mv (.cst (iv 0)))]
def r_c3_1 : List CO := [
  O 3 (.mv (tm 0)),
 O 4 (.mv (tm 0)),
 O 5 (.nil (tm 4)),
 O 6 (.fa 4 (tm 5)),
 O 7 (.load (tm 6)),
 O 8 (.mv (tm 7)),
 G 9 8 false (.mv (tm 0)),
 G 10 8 false (.nil (tm 9)),
 G 11 8 false (.fa 2 (tm 10)),
 G 12 8 false (.load (tm 11)),
 G 13 8 false (.mv (tm 12)),
 G 14 13 true (.mv (tm 0)),
 G 15 13 true (.nil (tm 14)),
 G 16 13 true (.fa 3 (tm 15)),
 G 17 13 true (.load (tm 16)),
 G 18 13 true (.eq (B .eql ty_int) (tm 17) (.cst (iv 0))),
 G 19 8 false (.pick (tm 13) (tm 18) (.cst (.b false))),
 O 20 (.pick (tm 8) (.cst (.b true)) (tm 19)),
 O 21 (.nil (tm 3)),
 O 22 (.fa 4 (tm 21)),
 .op none none (.store 1 (tm 22) (tm 20))]
def r_c3_2 : List CO := [
  O 23 (.mv (tm 0)),
 O 24 (.nil (tm 23)),
 O 25 (.fa 4 (tm 24)),
 O 26 (.load (tm 25))]
def r_c3_3 : List CO := [
  O 2 (.mv (.cst (iv 7)))]
def r_c3_4 : List CO := [
  O 27 (.mv (tm 0)),
 O 28 (.nil (tm 27)),
 O 29 (.fa 3 (tm 28)),
 O 30 (.load (tm 29)),
 O 31 (.sub (B .sub ty_int) (tm 30) (.cst (iv 1))),
 O 32 (.nil (tm 27)),
 O 33 (.fa 3 (tm 32)),
 .op none none (.store 1 (tm 33) (tm 31))]
def r_c3_5 : List CO := [
  O 34 (.mv (tm 0)),
 O 35 (.nil (tm 34)),
 O 36 (.fa 5 (tm 35)),
 O 37 (.load (tm 36)),
 O 38 (.add (B .add ty_int) (tm 37) (.cst (iv 1))),
 O 39 (.nil (tm 34)),
 O 40 (.fa 5 (tm 39)),
 .op none none (.store 1 (tm 40) (tm 38))]
def r_c3_6 : List CO := [
  O 2 (.mv (.cst (iv 0)))]
def r_g8_0 : List CO := [
  O 2 (.mv (.cst (iv 0)))]
def r_g8_1 : List CO := [
  O 5 (.mv (tm 0)),
 O 6 (.len false (tm 5)),
 O 7 (.lt (B .lss ty_int) (tm 6) (.cst (iv 1)))]
def r_g8_2 : List CO := [
  O 8 (.mkI ty_string (.cst (tv [115, 108, 105, 99, 101, 115, 46, 77, 105, 110, 58, 32, 101, 109, 112, 116, 121, 32, 108, 105, 115, 116]))),
 .op none none (.none)]
def r_g8_3 : List CO := [
  O 9 (.mv (tm 0)),
 O 10 (.iaS 1 (tm 9) (.cst (iv 0))),
 O 11 (.load (tm 10)),
 O 3 (.mv (tm 11))]
def r_g8_4 : List CO := [
  O 4 (.mv (.cst (iv 1)))]
def r_g8_5 : List CO := [
  O 12 (.mv (tm 4)),
 O 13 (.mv (tm 0)),
 O 14 (.len false (tm 13)),
 O 15 (.lt (B .lss ty_int) (tm 12) (tm 14))]
def r_g8_7 : List CO := [
  O 18 (.mv (tm 3)),
 O 19 (.mv (tm 0)),
 O 20 (.mv (tm 4)),
 O 21 (.iaS 1 (tm 19) (tm 20)),
 O 22 (.load (tm 21)),
 O 23 (.min (tm 18) (tm 22)),
 O 3 (.mv (tm 23))]
def r_g8_6 : List CO := [
  O 16 (.mv (tm 4)),
 O 17 (.add (B .add ty_int) (tm 16) (.cst (iv 1))),
 O 4 (.mv (tm 17))]
def r_g8_8 : List CO := [
  O 24 (.mv (tm 3)),
 O 2 (.mv (tm 24))]
def r_g7_0 : List CO := [
  O 2 (.mv (.cst (iv 0)))]
def r_g7_1 : List CO := [
  O 5 (.mv (tm 0)),
 O 6 (.len false (tm 5)),
 O 7 (.lt (B .lss ty_int) (tm 6) (.cst (iv 1)))]
def r_g7_2 : List CO := [
  O 8 (.mkI ty_string (.cst (tv [115, 108, 105, 99, 101, 115, 46, 77, 97, 120, 58, 32, 101, 109, 112, 116, 121, 32, 108, 105, 115, 116]))),
 .op none none (.none)]
def r_g7_3 : List CO := [
  O 9 (.mv (tm 0)),
 O 10 (.iaS 1 (tm 9) (.cst (iv 0))),
 O 11 (.load (tm 10)),
 O 3 (.mv (tm 11))]
def r_g7_4 : List CO := [
  O 4 (.mv (.cst (iv 1)))]
def r_g7_5 : List CO := [
  O 12 (.mv (tm 4)),
 O 13 (.mv (tm 0)),
 O 14 (.len false (tm 13)),
 O 15 (.lt (B .lss ty_int) (tm 12) (tm 14))]
def r_g7_7 : List CO := [
  O 18 (.mv (tm 3)),
 O 19 (.mv (tm 0)),
 O 20 (.mv (tm 4)),
 O 21 (.iaS 1 (tm 19) (tm 20)),
 O 22 (.load (tm 21)),
 O 23 (.max (tm 18) (tm 22)),
 O 3 (.mv (tm 23))]
def r_g7_6 : List CO := [
  O 16 (.mv (tm 4)),
 O 17 (.add (B .add ty_int) (tm 16) (.cst (iv 1))),
 O 4 (.mv (tm 17))]
def r_g7_8 : List CO := [
  O 24 (.mv (tm 3)),
 O 2 (.mv (tm 24))]
def r_a7_0 : List CO := [
  O 2 (.mv (.cst nils))]
def r_a7_1 : List CO := [
  O 3 (.mv (.cst (iv 0)))]
def r_a7_2 : List CO := [
  O 9 (.mv (tm 0)),
 O 10 (.len false (tm 9)),
 O 11 (.mv (.cst (iv 0)))]
def r_a7_3 : List CO := [
  O 12 (.lt (B .lss ty_int) (tm 11) (tm 10))]
def r_a7_4 : List CO := [
  O 13 (.iaS 1 (tm 9) (tm 11)),
 O 14 (.load (tm 13)),
 O 5 (.mv (tm 14))]
def r_a7_5 : List CO := [
  O 15 (.mv (tm 3)),
 O 16 (.mv (tm 5)),
 O 17 (.len false (tm 16)),
 O 18 (.add (B .add ty_int) (tm 15) (tm 17)),
 O 3 (.mv (tm 18))]
def r_a7_6 : List CO := [
  O 19 (.mv (tm 3)),
 O 20 (.lt (B .lss ty_int) (tm 19) (.cst (iv 0)))]
def r_a7_7 : List CO := [
  O 21 (.mkI ty_string (.cst (tv [108, 101, 110, 32, 111, 117, 116, 32, 111, 102, 32, 114, 97, 110, 103, 101]))),
 .op none none (.none)]
def r_a7_8 : List CO := [
  O 22 (.add (B .add ty_int) (tm 11) (.cst (iv 1))),
 O 11 (.mv (tm 22))]
def r_a7_9 : List CO := [
  O 23 (.mv (tm 3)),
 C 24 fn_c5 [(.cst nils), (tm 23)],
 O 6 (.mv (tm 24))]
def r_a7_10 : List CO := [
  O 25 (.mv (tm 0)),
 O 26 (.len false (tm 25)),
 O 27 (.mv (.cst (iv 0)))]
def r_a7_11 : List CO := [
  O 28 (.lt (B .lss ty_int) (tm 27) (tm 26))]
def r_a7_12 : List CO := [
  O 29 (.iaS 1 (tm 25) (tm 27)),
 O 30 (.load (tm 29)),
 O 8 (.mv (tm 30))]
def r_a7_13 : List CO := [
  O 31 (.mv (tm 6)),
 O 32 (.mv (tm 8)),
 O 33 (.app ty_uint8 1 1 [(.y 0)] (tm 31) (tm 32)),
 O 6 (.mv (tm 33))]
def r_a7_14 : List CO := [
  O 34 (.add (B .add ty_int) (tm 27) (.cst (iv 1))),
 O 27 (.mv (tm 34))]
def r_a7_15 : List CO := [
  O 35 (.mv (tm 6)),
 O 2 (.mv (tm 35))]
def r_a8_0 : List CO := [
  O 4 (.mv (.cst (iv 0)))]
def r_a8_1 : List CO := [
  O 8 (.mv (tm 0)),
 O 9 (.nil (tm 8)),
 O 10 (.fa 0 (tm 9)),
 O 11 (.load (tm 10)),
 O 12 (.mv (tm 0)),
 O 13 (.nil (tm 12)),
 O 14 (.fa 1 (tm 13)),
 O 15 (.load (tm 14)),
 O 16 (.mv (tm 1)),
 C 17 fn_f0 [(tm 11), (tm 15), (tm 16)],
 O 7 (.mv (tm 17)),
 O 18 (.ext 0 (tm 7)),
 O 19 (.ext 1 (tm 7)),
 O 5 (.mv (tm 18)),
 O 6 (.mv (tm 19))]
def r_a8_2 : List CO := [
  O 20 (.mv (tm 0)),
 O 21 (.nil (tm 20)),
 O 22 (.fa 1 (tm 21)),
 O 23 (.load (tm 22)),
 O 24 (.mv (tm 1)),
 O 25 (.add (B .add ty_int) (tm 23) (tm 24)),
 O 26 (.nil (tm 20)),
 O 27 (.fa 1 (tm 26)),
 .op none none (.store 1 (tm 27) (tm 25))]
def r_a8_3 : List CO := [
  O 28 (.mv (tm 5)),
 O 4 (.mv (tm 28))]
def r_d8_0 : List CO := [
  O 4 (.mv (.cst (.b false)))]
def r_d8_1 : List CO := [
  O 5 (.mv (tm 0)),
 O 6 (.b2s (tm 5)),
 O 7 (.mv (tm 1)),
 O 8 (.b2s (tm 7)),
 O 9 (.eq (B .eql ty_string) (tm 6) (tm 8)),
 O 4 (.mv (tm 9))]
def r_e5_0 : List CO := [
  O 4 (.box ty_codec_desc (tm 0)),
 O 8 (.alloc ty_codec_desc 2 [(iv 0), nils]),
 O 9 (.mv (.cst (iv 0)))]
def r_e5_1 : List CO := [
  O 11 (.mv (tm 3)),
 O 12 (.ne (B .neq ty_api_Errno) (tm 11) (.cst (iv 0))),
 O 13 (.mv (tm 12)),
 G 14 13 false (.mv (tm 1)),
 G 15 13 false (.mv (tm 2)),
 .call (some (pth 16)) (some (pth 13, false)) (.cst (.func fn_d8 [])) [(tm 14), (tm 15)],
 G 17 13 false (.un .not (tm 16)),
 O 18 (.pick (tm 13) (.cst (.b true)) (tm 17))]
def r_e5_2 : List CO := [
  O 10 (.alloc ty_codec_desc 2 [(iv 0), nils])]
def r_e5_3 : List CO := [
  O 19 (.loadN 2 (tm 10)),
 .op none none (.store 2 (tm 8) (tm 19)),
 O 9 (.mv (.cst (iv 4)))]
def r_e5_4 : List CO := [
  O 20 (.loadN 2 (tm 4)),
 .op none none (.store 2 (tm 8) (tm 20)),
 O 9 (.mv (.cst (iv 0)))]
def r_g6_0 : List CO := [
  O 6 (.mv (.cst (.b false)))]
def r_g6_1 : List CO := [
  O 7 (.mv (tm 0)),
 O 8 (.mv (tm 1)),
 O 9 (.ge (B .geq ty_int) (tm 7) (tm 8)),
 O 10 (.mv (tm 9)),
 G 11 10 true (.mv (tm 0)),
 G 12 10 true (.mv (tm 2)),
 G 13 10 true (.le (B .leq ty_int) (tm 11) (tm 12)),
 O 14 (.pick (tm 10) (tm 13) (.cst (.b false))),
 O 6 (.mv (tm 14))]
def r_g0_0 : List CO := [
  O 2 (.mv (.cst (iv 0)))]
def r_g0_1 : List CO := [
  O 3 (.mv (tm 0)),
 O 4 (.convI .u32 (tm 3)),
 C 5 fn_math_bits_OnesCount32 [(tm 4)],
 O 2 (.mv (tm 5))]
def r_g0_2 : List CO := [
  O 6 (.mv (tm 0)),
 C 7 fn_g1 [(tm 6)],
 O 2 (.mv (tm 7))]
def r_g4_0 : List CO := [
  O 3 (.mv (.cst (iv 0)))]
def r_g4_1 : List CO := [
  O 4 (.load (tm 1)),
 O 5 (.mv (tm 0)),
 O 6 (.add (B .add ty_int) (tm 4) (tm 5)),
 .op none none (.store 1 (tm 1) (tm 6))]
def r_g4_2 : List CO := [
  O 7 (.load (tm 1)),
 O 8 (.mv (tm 0)),
 O 9 (.sub (B .sub ty_int) (tm 7) (tm 8)),
 O 3 (.mv (tm 9))]
def r_g5_0 : List CO := [
  O 4 (.mv (.cst (iv 0)))]
def r_g5_1 : List CO := [
  O 5 (.mv (tm 0)),
 O 6 (.mv (tm 1)),
 O 7 (.add (B .add ty_int) (tm 5) (tm 6)),
 O 8 (.sub (B .sub ty_int) (tm 7) (.cst (iv 1))),
 O 9 (.mv (tm 1)),
 O 10 (.quo (B .quo ty_int) (tm 8) (tm 9)),
 O 4 (.mv (tm 10))]
def r_f1_0 : List CO := [
  O 8 (.mv (.cst nils)),
 O 9 (.mv (.cst (iv 0)))]
def r_f1_1 : List CO := [
  O 15 (.mv (tm 0)),
 O 16 (.mv (tm 1)),
 O 17 (.mv (tm 2)),
 C 18 fn_f2 [(tm 15), (tm 16), (tm 17)],
 O 14 (.mv (tm 18)),
 O 19 (.ext 0 (tm 14)),
 O 20 (.ext 1 (tm 14)),
 O 10 (.mv (tm 19)),
 O 11 (.mv (tm 20))]
def r_f1_2 : List CO := [
  O 21 (.mv (tm 11)),
 O 22 (.ne (B .neq ty_api_Errno) (tm 21) (.cst (iv 0)))]
def r_f1_3 : List CO := [
  O 23 (.mv (tm 11)),
 O 8 (.mv (.cst nils)),
 O 9 (.mv (tm 23))]
def r_f1_4 : List CO := [
  O 24 (.mv (tm 3)),
 O 25 (.lt (B .lss ty_int) (tm 24) (.cst (iv 0))),
 O 26 (.mv (tm 25)),
 G 27 26 false (.mv (tm 3)),
 G 28 26 false (.mv (tm 2)),
 G 29 26 false (.mul (B .mul ty_int) (.cst (iv 8)) (tm 28)),
 G 30 26 false (.slow (B .shr ty_int) (tm 27) (tm 29)),
 G 31 26 false (.ne (B .neq ty_int) (tm 30) (.cst (iv 0))),
 O 32 (.pick (tm 26) (.cst (.b true)) (tm 31))]
def r_f1_5 : List CO := [
  O 8 (.mv (.cst nils)),
 O 9 (.mv (.cst (iv 3)))]
def r_f1_6 : List CO := [
  O 33 (.mv (tm 0)),
 C 34 fn_a6 [(tm 33)],
 O 12 (.mv (tm 34))]
def r_f1_7 : List CO := [
  O 35 (.mv (tm 2)),
 O 36 (.mv (.cst (iv 0)))]
def r_f1_8 : List CO := [
  O 37 (.lt (B .lss ty_int) (tm 36) (tm 35))]
def r_f1_9 : List CO := [
  O 38 (.mv (tm 36)),
 O 13 (.mv (tm 38))]
def r_f1_10 : List CO := [
  O 39 (.mv (tm 12)),
 O 40 (.mv (tm 1)),
 O 41 (.mv (tm 13)),
 O 42 (.add (B .add ty_int) (tm 40) (tm 41)),
 O 43 (.mv (tm 3)),
 O 44 (.mv (tm 13)),
 O 45 (.mul (B .mul ty_int) (.cst (iv 8)) (tm 44)),
 O 46 (.slow (B .shr ty_int) (tm 43) (tm 45)),
 O 47 (.convI .u8 (tm 46)),
 O 48 (.iaS 1 (tm 39) (tm 42)),
 .op none none (.store 1 (tm 48) (tm 47))]
def r_f1_11 : List CO := [
  O 49 (.add (B .add ty_int) (tm 36) (.cst (iv 1))),
 O 36 (.mv (tm 49))]
def r_f1_12 : List CO := [
  O 50 (.mv (tm 12)),
 O 8 (.mv (tm 50)),
 O 9 (.mv (.cst (iv 0)))]
def r_e8_0 : List CO := [
  O 4 (.mv (.cst (.p (.int .u32 (0)))))]
def r_e8_1 : List CO := [
  C 8 fn_e7 [],
 O 5 (.alloc ty_16_uint32 16 [(.p (.int .u32 (0))), (.p (.int .u32 (0))), (.p (.int .u32 (0))), (.p (.int .u32 (0))), (.p (.int .u32 (0))), (.p (.int .u32 (0))), (.p (.int .u32 (0))), (.p (.int .u32 (0))), (.p (.int .u32 (0))), (.p (.int .u32 (0))), (.p (.int .u32 (0))), (.p (.int .u32 (0))), (.p (.int .u32 (0))), (.p (.int .u32 (0))), (.p (.int .u32 (0))), (.p (.int .u32 (0)))]),
 .op none none (.store 16 (tm 5) (tm 8))]
def r_e8_2 : List CO := [
  O 9 (.mv (tm 0)),
 O 10 (.un .xor (tm 9)),
 O 0 (.mv (tm 10))]
def r_e8_3 : List CO := [
  O 11 (.mv (tm 1)),
 O 12 (.len false (tm 11)),
 O 13 (.mv (.cst (iv 0)))]
def r_e8_4 : List CO := [
  O 14 (.lt (B .lss ty_int) (tm 13) (tm 12))]
def r_e8_5 : List CO := [
  O 15 (.iaS 1 (tm 11) (tm 13)),
 O 16 (.load (tm 15)),
 O 7 (.mv (tm 16))]
def r_e8_6 : List CO := [
  O 17 (.mv (tm 0)),
 O 18 (.mv (tm 7)),
 O 19 (.convI .u32 (tm 18)),
 O 20 (.slow (B .xor ty_uint32) (tm 17) (tm 19)),
 O 0 (.mv (tm 20))]
def r_e8_7 : List CO := [
  O 21 (.mv (tm 0)),
 O 22 (.and (B .and ty_uint32) (tm 21) (.cst (.p (.int .u32 (15))))),
 O 23 (.iaA 16 1 (tm 5) (tm 22)),
 O 24 (.load (tm 23)),
 O 25 (.mv (tm 0)),
 O 26 (.slow (B .shr ty_uint32) (tm 25) (.cst (.p (.int .u64 (4))))),
 O 27 (.slow (B .xor ty_uint32) (tm 24) (tm 26)),
 O 0 (.mv (tm 27))]
def r_e8_8 : List CO := [
  O 28 (.mv (tm 0)),
 O 29 (.and (B .and ty_uint32) (tm 28) (.cst (.p (.int .u32 (15))))),
 O 30 (.iaA 16 1 (tm 5) (tm 29)),
 O 31 (.load (tm 30)),
 O 32 (.mv (tm 0)),
 O 33 (.slow (B .shr ty_uint32) (tm 32) (.cst (.p (.int .u64 (4))))),
 O 34 (.slow (B .xor ty_uint32) (tm 31) (tm 33)),
 O 0 (.mv (tm 34))]
def r_e8_9 : List CO := [
  O 35 (.add (B .add ty_int) (tm 13) (.cst (iv 1))),
 O 13 (.mv (tm 35))]
def r_e8_10 : List CO := [
  O 36 (.mv (tm 0)),
 O 37 (.un .xor (tm 36)),
 O 4 (.mv (tm 37))]
def r_c5_0 : List CO := [
  O 4 (.mv (.cst nils))]
def r_c5_1 : List CO := [
  O 5 (.mv (tm 1)),
 O 6 (.lt (B .lss ty_int) (tm 5) (.cst (iv 0)))]
def r_c5_2 : List CO := [
  O 7 (.mkI ty_string (.cst (tv [99, 97, 110, 110, 111, 116, 32, 98, 101, 32, 110, 101, 103, 97, 116, 105, 118, 101]))),
 .op none none (.none)]
def r_c5_3 : List CO := [
  O 8 (.mv (tm 1)),
 O 9 (.mv (tm 0)),
 O 10 (.cap (tm 9)),
 O 11 (.mv (tm 0)),
 O 12 (.len false (tm 11)),
 O 13 (.sub (B .sub ty_int) (tm 10) (tm 12)),
 O 14 (.sub (B .sub ty_int) (tm 8) (tm 13)),
 O 1 (.mv (tm 14))]
def r_c5_4 : List CO := [
  O 15 (.mv (tm 1)),
 O 16 (.gt (B .gtr ty_int) (tm 15) (.cst (iv 0)))]
def r_c5_5 : List CO := [
  O 17 (.mv (tm 0)),
 O 18 (.mv (tm 0)),
 O 19 (.cap (tm 18)),
 O 20 (.sl 1 false (tm 17) none (some (tm 19)) none),
 O 21 (.mv (tm 1)),
 O 22 (.appz ty_uint8 1 1 [(.y 0)] (tm 20) (tm 21)),
 O 23 (.mv (tm 0)),
 O 24 (.len false (tm 23)),
 O 25 (.sl 1 false (tm 22) none (some (tm 24)) none),
 O 0 (.mv (tm 25))]
def r_c5_6 : List CO := [
  O 26 (.mv (tm 0)),
 O 4 (.mv (tm 26))]
def r_f0_0 : List CO := [
  O 6 (.mv (.cst (iv 0))),
 O 7 (.mv (.cst (iv 0)))]
def r_f0_1 : List CO := [
  O 14 (.mv (tm 0)),
 O 15 (.mv (tm 1)),
 O 16 (.mv (tm 2)),
 C 17 fn_f2 [(tm 14), (tm 15), (tm 16)],
 O 13 (.mv (tm 17)),
 O 18 (.ext 0 (tm 13)),
 O 19 (.ext 1 (tm 13)),
 O 8 (.mv (tm 18)),
 O 9 (.mv (tm 19))]
def r_f0_2 : List CO := [
  O 10 (.alloc ty_int 1 [(iv 0)]),
 .op none none (.store 1 (tm 10) (.cst (iv 0)))]
def r_f0_3 : List CO := [
  O 20 (.mv (tm 8)),
 C 21 fn_a0 [(tm 20)]]
def r_f0_4 : List CO := [
  O 12 (.mv (tm 23))]
def r_f0_5 : List CO := [
  O 24 (.load (tm 10)),
 O 25 (.slow (B .shl ty_int) (tm 24) (.cst (.p (.int .u64 (8))))),
 O 26 (.mv (tm 12)),
 O 27 (.convI .i64 (tm 26)),
 O 28 (.slow (B .or ty_int) (tm 25) (tm 27)),
 .op none none (.store 1 (tm 10) (tm 28))]
def r_f0_6 : List CO := [
  O 29 (.load (tm 10)),
 O 30 (.mv (tm 9)),
 O 6 (.mv (tm 29)),
 O 7 (.mv (tm 30))]
def r_g1_0 : List CO := [
  O 2 (.mv (.cst (iv 0)))]
def r_g1_1 : List CO := [
  O 3 (.mv (tm 0)),
 O 4 (.slow (B .shr ty_uint64) (tm 3) (.cst (.p (.int .u64 (1))))),
 O 5 (.and (B .and ty_uint64) (tm 4) (.cst (.p (.int .u64 (6148914691236517205))))),
 O 6 (.mv (tm 0)),
 O 7 (.and (B .and ty_uint64) (tm 6) (.cst (.p (.int .u64 (6148914691236517205))))),
 O 8 (.add (B .add ty_uint64) (tm 5) (tm 7)),
 O 0 (.mv (tm 8))]
def r_g1_2 : List CO := [
  O 9 (.mv (tm 0)),
 O 10 (.slow (B .shr ty_uint64) (tm 9) (.cst (.p (.int .u64 (2))))),
 O 11 (.and (B .and ty_uint64) (tm 10) (.cst (.p (.int .u64 (3689348814741910323))))),
 O 12 (.mv (tm 0)),
 O 13 (.and (B .and ty_uint64) (tm 12) (.cst (.p (.int .u64 (3689348814741910323))))),
 O 14 (.add (B .add ty_uint64) (tm 11) (tm 13)),
 O 0 (.mv (tm 14))]
def r_g1_3 : List CO := [
  O 15 (.mv (tm 0)),
 O 16 (.slow (B .shr ty_uint64) (tm 15) (.cst (.p (.int .u64 (4))))),
 O 17 (.mv (tm 0)),
 O 18 (.add (B .add ty_uint64) (tm 16) (tm 17)),
 O 19 (.and (B .and ty_uint64) (tm 18) (.cst (.p (.int .u64 (1085102592571150095))))),
 O 0 (.mv (tm 19))]
def r_g1_4 : List CO := [
  O 20 (.mv (tm 0)),
 O 21 (.mv (tm 0)),
 O 22 (.slow (B .shr ty_uint64) (tm 21) (.cst (.p (.int .u64 (8))))),
 O 23 (.add (B .add ty_uint64) (tm 20) (tm 22)),
 O 0 (.mv (tm 23))]
def r_g1_5 : List CO := [
  O 24 (.mv (tm 0)),
 O 25 (.mv (tm 0)),
 O 26 (.slow (B .shr ty_uint64) (tm 25) (.cst (.p (.int .u64 (16))))),
 O 27 (.add (B .add ty_uint64) (tm 24) (tm 26)),
 O 0 (.mv (tm 27))]
def r_g1_6 : List CO := [
  O 28 (.mv (tm 0)),
 O 29 (.mv (tm 0)),
 O 30 (.slow (B .shr ty_uint64) (tm 29) (.cst (.p (.int .u64 (32))))),
 O 31 (.add (B .add ty_uint64) (tm 28) (tm 30)),
 O 0 (.mv (tm 31))]
def r_g1_7 : List CO := [
  O 32 (.mv (tm 0)),
 O 33 (.convI .i64 (tm 32)),
 O 34 (.and (B .and ty_int) (tm 33) (.cst (iv 127))),
 O 2 (.mv (tm 34))]
def r_f2_0 : List CO := [
  O 6 (.mv (.cst nils)),
 O 7 (.mv (.cst (iv 0)))]
def r_f2_1 : List CO := [
  O 10 (.mv (tm 2))]
def r_f2_2 : List CO := [
  O 12 (.eq (B .eql ty_int) (tm 10) (.cst (iv 1))),
 O 11 (.mv (tm 12))]
def r_f2_3 : List CO := [
  O 13 (.eq (B .eql ty_int) (tm 10) (.cst (iv 2))),
 O 11 (.mv (tm 13))]
def r_f2_4 : List CO := [
  O 14 (.eq (B .eql ty_int) (tm 10) (.cst (iv 4))),
 O 11 (.mv (tm 14))]
def r_f2_5 : List CO := [
  O 16 (.mv (tm 0)),
 O 17 (.mv (tm 1)),
 O 18 (.mv (tm 2)),
 C 19 fn_f3 [(tm 16), (tm 17), (tm 18)],
 O 15 (.mv (tm 19)),
 O 20 (.ext 0 (tm 15)),
 O 21 (.ext 1 (tm 15)),
 O 8 (.mv (tm 20)),
 O 9 (.mv (tm 21))]
def r_f2_6 : List CO := [
  O 22 (.mv (tm 9)),
 O 23 (.un .not (tm 22))]
def r_f2_7 : List CO := [
  O 6 (.mv (.cst nils)),
 O 7 (.mv (.cst (iv 2)))]
def r_f2_8 : List CO := [
  O 24 (.mv (tm 8)),
 O 6 (.mv (tm 24)),
 O 7 (.mv (.cst (iv 0)))]
def r_f2_9 : List CO := [
  O 6 (.mv (.cst nils)),
 O 7 (.mv (.cst (iv 1)))]
def r_e7_0 : List CO := [
  O 0 (.alloc ty_16_uint32 16 [(.p (.int .u32 (0))), (.p (.int .u32 (0))), (.p (.int .u32 (0))), (.p (.int .u32 (0))), (.p (.int .u32 (0))), (.p (.int .u32 (0))), (.p (.int .u32 (0))), (.p (.int .u32 (0))), (.p (.int .u32 (0))), (.p (.int .u32 (0))), (.p (.int .u32 (0))), (.p (.int .u32 (0))), (.p (.int .u32 (0))), (.p (.int .u32 (0))), (.p (.int .u32 (0))), (.p (.int .u32 (0)))])]
def r_e7_1 : List CO := [
  O 1 (.build [(.p (.int .u32 (0))), (.p (.int .u32 (0))), (.p (.int .u32 (0))), (.p (.int .u32 (0))), (.p (.int .u32 (0))), (.p (.int .u32 (0))), (.p (.int .u32 (0))), (.p (.int .u32 (0))), (.p (.int .u32 (0))), (.p (.int .u32 (0))), (.p (.int .u32 (0))), (.p (.int .u32 (0))), (.p (.int .u32 (0))), (.p (.int .u32 (0))), (.p (.int .u32 (0))), (.p (.int .u32 (0)))] [(0, 1, (.cst (.p (.int .u32 (0))))), (1, 1, (.cst (.p (.int .u32 (498536548))))), (2, 1, (.cst (.p (.int .u32 (997073096))))), (3, 1, (.cst (.p (.int .u32 (651767980))))), (4, 1, (.cst (.p (.int .u32 (1994146192))))), (5, 1, (.cst (.p (.int .u32 (1802195444))))), (6, 1, (.cst (.p (.int .u32 (1303535960))))), (7, 1, (.cst (.p (.int .u32 (1342533948))))), (8, 1, (.cst (.p (.int .u32 (3988292384))))), (9, 1, (.cst (.p (.int .u32 (4027552580))))), (10, 1, (.cst (.p (.int .u32 (3604390888))))), (11, 1, (.cst (.p (.int .u32 (3412177804))))), (12, 1, (.cst (.p (.int .u32 (2607071920))))), (13, 1, (.cst (.p (.int .u32 (2262029012))))), (14, 1, (.cst (.p (.int .u32 (2685067896))))), (15, 1, (.cst (.p (.int .u32 (3183342108)))))]),
 .op none none (.store 16 (tm 0) (tm 1))]
def r_a0_0 : List CO := [
  O 1 (.box ty_suint8 (tm 0)),
 O 2 (.mv (.cst nilf))]
def r_a0_1 : List CO := [
  O 3 (.fn fn_a1 [(tm 1)]),
 O 2 (.mv (tm 3))]
def r_f3_0 : List CO := [
  O 6 (.mv (.cst nils)),
 O 7 (.mv (.cst (.b false)))]
def r_f3_1 : List CO := [
  O 8 (.mv (tm 1)),
 O 9 (.lt (B .lss ty_int) (tm 8) (.cst (iv 0))),
 O 10 (.mv (tm 9)),
 G 11 10 false (.mv (tm 2)),
 G 12 10 false (.lt (B .lss ty_int) (tm 11) (.cst (iv 0))),
 O 13 (.pick (tm 10) (.cst (.b true)) (tm 12)),
 O 14 (.mv (tm 13)),
 G 15 14 false (.mv (tm 1)),
 G 16 14 false (.mv (tm 0)),
 G 17 14 false (.len false (tm 16)),
 G 18 14 false (.gt (B .gtr ty_int) (tm 15) (tm 17)),
 O 19 (.pick (tm 14) (.cst (.b true)) (tm 18)),
 O 20 (.mv (tm 19)),
 G 21 20 false (.mv (tm 2)),
 G 22 20 false (.mv (tm 0)),
 G 23 20 false (.len false (tm 22)),
 G 24 20 false (.mv (tm 1)),
 G 25 20 false (.sub (B .sub ty_int) (tm 23) (tm 24)),
 G 26 20 false (.gt (B .gtr ty_int) (tm 21) (tm 25)),
 O 27 (.pick (tm 20) (.cst (.b true)) (tm 26))]
def r_f3_2 : List CO := [
  O 6 (.mv (.cst nils)),
 O 7 (.mv (.cst (.b false)))]
def r_f3_3 : List CO := [
  O 28 (.mv (tm 0)),
 O 29 (.mv (tm 1)),
 O 30 (.mv (tm 1)),
 O 31 (.mv (tm 2)),
 O 32 (.add (B .add ty_int) (tm 30) (tm 31)),
 O 33 (.sl 1 false (tm 28) (some (tm 29)) (some (tm 32)) none),
 O 6 (.mv (tm 33)),
 O 7 (.mv (.cst (.b true)))]
def r_a1_0 : List CO := [
  O 4 (.load (tm 1)),
 O 5 (.len false (tm 4)),
 O 6 (.sub (B .sub ty_int) (tm 5) (.cst (iv 1))),
 O 3 (.mv (tm 6))]
def r_a1_1 : List CO := [
  O 7 (.mv (tm 3)),
 O 8 (.ge (B .geq ty_int) (tm 7) (.cst (iv 0)))]
def r_a1_3 : List CO := [
  O 11 (.mv (tm 0)),
 O 12 (.mv (tm 3)),
 O 13 (.load (tm 1)),
 O 14 (.mv (tm 3)),
 O 15 (.iaS 1 (tm 13) (tm 14)),
 O 16 (.load (tm 15)),
 .call (some (pth 17)) none (tm 11) [(tm 12), (tm 16)],
 O 18 (.un .not (tm 17))]
def r_a1_2 : List CO := [
  O 9 (.mv (tm 3)),
 O 10 (.sub (B .sub ty_int) (tm 9) (.cst (iv 1))),
 O 3 (.mv (tm 10))]
def r_d0_0 : List CO := [
  O 2 (.mv (.cst (iv 0)))]
def r_d0_1 : List CO := [
  O 3 (.mv (tm 0)),
 O 4 (.eqp false (B .eql ty_pwal_Log) (tm 3) (.cst nilp))]
def r_d0_2 : List CO := [
  O 2 (.mv (.cst (iv 0)))]
def r_d0_3 : List CO := [
  O 5 (.mv (tm 0)),
 O 6 (.nil (tm 5)),
 O 7 (.fa 1 (tm 6)),
 O 8 (.fa 3 (tm 7)),
 O 9 (.load (tm 8)),
 O 10 (.mv (tm 0)),
 O 11 (.nil (tm 10)),
 O 12 (.fa 13 (tm 11)),
 O 13 (.fa 2 (tm 12)),
 O 14 (.load (tm 13)),
 O 15 (.sub (B .sub ty_int) (tm 9) (tm 14)),
 O 2 (.mv (tm 15))]
def k_f6_5 : CC := (.seq (.reg r_f6_3) .ret)
def k_f6_4 : CC := (.cond (tm 22) k_f6_5 .skip)
def k_f6_3 : CC := (.seq (.reg r_f6_2) k_f6_4)
def k_f6_11 : CC := (.seq (.reg r_f6_7) .ret)
def k_f6_10 : CC := (.cond (tm 37) k_f6_11 .skip)
def k_f6_9 : CC := (.seq (.reg r_f6_6) k_f6_10)
def k_f6_12 : CC := (.seq (.reg r_f6_8) .ret)
def k_f6_8 : CC := (.seq k_f6_9 k_f6_12)
def k_f6_7 : CC := (.seq (.reg r_f6_5) k_f6_8)
def k_f6_6 : CC := (.seq (.reg r_f6_4) k_f6_7)
def k_f6_2 : CC := (.seq k_f6_3 k_f6_6)
def k_f6_1 : CC := (.seq (.reg r_f6_1) k_f6_2)
def c_f6 : CC := (.seq (.reg r_f6_0) k_f6_1)
theorem o_f6 : Kq k_f6_5 (.seq (.reg r_f6_3) .ret) ∧
  Kq k_f6_4 (.cond (tm 22) k_f6_5 .skip) ∧
  Kq k_f6_3 (.seq (.reg r_f6_2) k_f6_4) ∧
  Kq k_f6_11 (.seq (.reg r_f6_7) .ret) ∧
  Kq k_f6_10 (.cond (tm 37) k_f6_11 .skip) ∧
  Kq k_f6_9 (.seq (.reg r_f6_6) k_f6_10) ∧
  Kq k_f6_12 (.seq (.reg r_f6_8) .ret) ∧
  Kq k_f6_8 (.seq k_f6_9 k_f6_12) ∧
  Kq k_f6_7 (.seq (.reg r_f6_5) k_f6_8) ∧
  Kq k_f6_6 (.seq (.reg r_f6_4) k_f6_7) ∧
  Kq k_f6_2 (.seq k_f6_3 k_f6_6) ∧
  Kq k_f6_1 (.seq (.reg r_f6_1) k_f6_2) ∧
  Kq c_f6 (.seq (.reg r_f6_0) k_f6_1) := ⟨kr, kr, kr, kr, kr, kr, kr, kr, kr, kr, kr, kr, kr⟩
theorem at_f6 : FnAt Tryz.prog tb fn_f6 c_f6 40 [.tmp 2, .tmp 3] := fnAt_of tb_fs Tryz.func9 rfl (by kernel_rfl) (by kernel_rfl) rfl rfl
def k_c9_4 : CC := (.seq (.reg r_c9_2) .ret)
def k_c9_3 : CC := (.cond (tm 7) k_c9_4 .skip)
def k_c9_2 : CC := (.seq (.reg r_c9_1) k_c9_3)
def k_c9_12 : CC := (.cond (tm 16) .skip (.exit 0))
def k_c9_16 : CC := (.reg r_c9_7)
def k_c9_15 : CC := (.seq (.reg r_c9_6) k_c9_16)
def k_c9_14 : CC := (.block 1 k_c9_15)
def k_c9_17 : CC := (.reg r_c9_8)
def k_c9_13 : CC := (.seq k_c9_14 k_c9_17)
def k_c9_11 : CC := (.seq k_c9_12 k_c9_13)
def k_c9_10 : CC := (.seq (.reg r_c9_5) k_c9_11)
def k_c9_9 : CC := (.loop k_c9_10)
def k_c9_8 : CC := (.block 0 k_c9_9)
def k_c9_7 : CC := (.seq (.reg r_c9_4) k_c9_8)
def k_c9_18 : CC := (.seq (.reg r_c9_9) .ret)
def k_c9_6 : CC := (.seq k_c9_7 k_c9_18)
def k_c9_5 : CC := (.seq (.reg r_c9_3) k_c9_6)
def k_c9_1 : CC := (.seq k_c9_2 k_c9_5)
def c_c9 : CC := (.seq (.reg r_c9_0) k_c9_1)
theorem o_c9 : Kq k_c9_4 (.seq (.reg r_c9_2) .ret) ∧
  Kq k_c9_3 (.cond (tm 7) k_c9_4 .skip) ∧
  Kq k_c9_2 (.seq (.reg r_c9_1) k_c9_3) ∧
  Kq k_c9_12 (.cond (tm 16) .skip (.exit 0)) ∧
  Kq k_c9_16 (.reg r_c9_7) ∧
  Kq k_c9_15 (.seq (.reg r_c9_6) k_c9_16) ∧
  Kq k_c9_14 (.block 1 k_c9_15) ∧
  Kq k_c9_17 (.reg r_c9_8) ∧
  Kq k_c9_13 (.seq k_c9_14 k_c9_17) ∧
  Kq k_c9_11 (.seq k_c9_12 k_c9_13) ∧
  Kq k_c9_10 (.seq (.reg r_c9_5) k_c9_11) ∧
  Kq k_c9_9 (.loop k_c9_10) ∧
  Kq k_c9_8 (.block 0 k_c9_9) ∧
  Kq k_c9_7 (.seq (.reg r_c9_4) k_c9_8) ∧
  Kq k_c9_18 (.seq (.reg r_c9_9) .ret) ∧
  Kq k_c9_6 (.seq k_c9_7 k_c9_18) ∧
  Kq k_c9_5 (.seq (.reg r_c9_3) k_c9_6) ∧
  Kq k_c9_1 (.seq k_c9_2 k_c9_5) ∧
  Kq c_c9 (.seq (.reg r_c9_0) k_c9_1) := ⟨kr, kr, kr, kr, kr, kr, kr, kr, kr, kr, kr, kr, kr, kr, kr, kr, kr, kr, kr⟩
theorem at_c9 : FnAt Tryz.prog tb fn_c9 c_c9 33 [.tmp 2] := fnAt_of tb_fs Tryz.func11 rfl (by kernel_rfl) (by kernel_rfl) rfl rfl
def k_b5_4 : CC := (.seq (.reg r_b5_2) .ret)
def k_b5_3 : CC := (.cond (tm 9) k_b5_4 .skip)
def k_b5_2 : CC := (.seq (.reg r_b5_1) k_b5_3)
def k_b5_11 : CC := (.cond (tm 16) .skip (.exit 0))
def k_b5_18 : CC := (.cond (tm 29) (.exit 1) .skip)
def k_b5_17 : CC := (.seq (.reg r_b5_7) k_b5_18)
def k_b5_24 : CC := (.reg r_b5_11)
def k_b5_23 : CC := (.seq (.drawn r_b5_10 [ (2, 0) , (6, 0) ]) k_b5_24)
def k_b5_22 : CC := (.cond (tm 32) k_b5_23 .skip)
def k_b5_21 : CC := (.seq (.reg r_b5_9) k_b5_22)
def k_b5_25 : CC := (.reg r_b5_12)
def k_b5_20 : CC := (.seq k_b5_21 k_b5_25)
def k_b5_19 : CC := (.seq (.reg r_b5_8) k_b5_20)
def k_b5_16 : CC := (.seq k_b5_17 k_b5_19)
def k_b5_15 : CC := (.seq (.reg r_b5_6) k_b5_16)
def k_b5_14 : CC := (.seq (.reg r_b5_5) k_b5_15)
def k_b5_13 : CC := (.block 1 k_b5_14)
def k_b5_26 : CC := (.reg r_b5_13)
def k_b5_12 : CC := (.seq k_b5_13 k_b5_26)
def k_b5_10 : CC := (.seq k_b5_11 k_b5_12)
def k_b5_9 : CC := (.seq (.reg r_b5_4) k_b5_10)
def k_b5_8 : CC := (.loop k_b5_9)
def k_b5_7 : CC := (.block 0 k_b5_8)
def k_b5_6 : CC := (.seq (.reg r_b5_3) k_b5_7)
def k_b5_28 : CC := (.seq (.reg r_b5_15) .ret)
def k_b5_27 : CC := (.seq (.reg r_b5_14) k_b5_28)
def k_b5_5 : CC := (.seq k_b5_6 k_b5_27)
def k_b5_1 : CC := (.seq k_b5_2 k_b5_5)
def c_b5 : CC := (.seq (.reg r_b5_0) k_b5_1)
theorem o_b5 : Kq k_b5_4 (.seq (.reg r_b5_2) .ret) ∧
  Kq k_b5_3 (.cond (tm 9) k_b5_4 .skip) ∧
  Kq k_b5_2 (.seq (.reg r_b5_1) k_b5_3) ∧
  Kq k_b5_11 (.cond (tm 16) .skip (.exit 0)) ∧
  Kq k_b5_18 (.cond (tm 29) (.exit 1) .skip) ∧
  Kq k_b5_17 (.seq (.reg r_b5_7) k_b5_18) ∧
  Kq k_b5_24 (.reg r_b5_11) ∧
  Kq k_b5_23 (.seq (.drawn r_b5_10 [ (2, 0) , (6, 0) ]) k_b5_24) ∧
  Kq k_b5_22 (.cond (tm 32) k_b5_23 .skip) ∧
  Kq k_b5_21 (.seq (.reg r_b5_9) k_b5_22) ∧
  Kq k_b5_25 (.reg r_b5_12) ∧
  Kq k_b5_20 (.seq k_b5_21 k_b5_25) ∧
  Kq k_b5_19 (.seq (.reg r_b5_8) k_b5_20) ∧
  Kq k_b5_16 (.seq k_b5_17 k_b5_19) ∧
  Kq k_b5_15 (.seq (.reg r_b5_6) k_b5_16) ∧
  Kq k_b5_14 (.seq (.reg r_b5_5) k_b5_15) ∧
  Kq k_b5_13 (.block 1 k_b5_14) ∧
  Kq k_b5_26 (.reg r_b5_13) ∧
  Kq k_b5_12 (.seq k_b5_13 k_b5_26) ∧
  Kq k_b5_10 (.seq k_b5_11 k_b5_12) ∧
  Kq k_b5_9 (.seq (.reg r_b5_4) k_b5_10) ∧
  Kq k_b5_8 (.loop k_b5_9) ∧
  Kq k_b5_7 (.block 0 k_b5_8) ∧
  Kq k_b5_6 (.seq (.reg r_b5_3) k_b5_7) ∧
  Kq k_b5_28 (.seq (.reg r_b5_15) .ret) ∧
  Kq k_b5_27 (.seq (.reg r_b5_14) k_b5_28) ∧
  Kq k_b5_5 (.seq k_b5_6 k_b5_27) ∧
  Kq k_b5_1 (.seq k_b5_2 k_b5_5) ∧
  Kq c_b5 (.seq (.reg r_b5_0) k_b5_1) := ⟨kr, kr, kr, kr, kr, kr, kr, kr, kr, kr, kr, kr, kr, kr, kr, kr, kr, kr, kr, kr, kr, kr, kr, kr, kr, kr, kr, kr, kr⟩
theorem at_b5 : FnAt Tryz.prog tb fn_b5 c_b5 55 [.tmp 4] := fnAt_of tb_fs Tryz.func12 rfl (by kernel_rfl) (by kernel_rfl) rfl rfl
def k_h1_5 : CC := (.seq (.reg r_h1_3) .ret)
def k_h1_4 : CC := (.cond (tm 15) k_h1_5 .skip)
def k_h1_3 : CC := (.seq (.reg r_h1_2) k_h1_4)
def k_h1_2 : CC := (.seq (.reg r_h1_1) k_h1_3)
def k_h1_10 : CC := (.seq (.reg r_h1_6) .ret)
def k_h1_9 : CC := (.cond (tm 23) k_h1_10 .skip)
def k_h1_8 : CC := (.seq (.reg r_h1_5) k_h1_9)
def k_h1_16 : CC := (.seq (.reg r_h1_10) .ret)
def k_h1_15 : CC := (.cond (tm 59) k_h1_16 .skip)
def k_h1_14 : CC := (.seq (.drawn r_h1_9 [ (7, 0) , (9, 0) , (17, 0) , (19, 0) ]) k_h1_15)
def k_h1_13 : CC := (.seq (.reg r_h1_8) k_h1_14)
def k_h1_21 : CC := (.seq (.reg r_h1_13) .ret)
def k_h1_20 : CC := (.cond (tm 63) k_h1_21 .skip)
def k_h1_19 : CC := (.seq (.reg r_h1_12) k_h1_20)
def k_h1_18 : CC := (.seq (.reg r_h1_11) k_h1_19)
def k_h1_22 : CC := (.seq (.reg r_h1_14) .ret)
def k_h1_17 : CC := (.seq k_h1_18 k_h1_22)
def k_h1_12 : CC := (.seq k_h1_13 k_h1_17)
def k_h1_11 : CC := (.seq (.reg r_h1_7) k_h1_12)
def k_h1_7 : CC := (.seq k_h1_8 k_h1_11)
def k_h1_6 : CC := (.seq (.reg r_h1_4) k_h1_7)
def k_h1_1 : CC := (.seq k_h1_2 k_h1_6)
def c_h1 : CC := (.seq (.reg r_h1_0) k_h1_1)
theorem o_h1 : Kq k_h1_5 (.seq (.reg r_h1_3) .ret) ∧
  Kq k_h1_4 (.cond (tm 15) k_h1_5 .skip) ∧
  Kq k_h1_3 (.seq (.reg r_h1_2) k_h1_4) ∧
  Kq k_h1_2 (.seq (.reg r_h1_1) k_h1_3) ∧
  Kq k_h1_10 (.seq (.reg r_h1_6) .ret) ∧
  Kq k_h1_9 (.cond (tm 23) k_h1_10 .skip) ∧
  Kq k_h1_8 (.seq (.reg r_h1_5) k_h1_9) ∧
  Kq k_h1_16 (.seq (.reg r_h1_10) .ret) ∧
  Kq k_h1_15 (.cond (tm 59) k_h1_16 .skip) ∧
  Kq k_h1_14 (.seq (.drawn r_h1_9 [ (7, 0) , (9, 0) , (17, 0) , (19, 0) ]) k_h1_15) ∧
  Kq k_h1_13 (.seq (.reg r_h1_8) k_h1_14) ∧
  Kq k_h1_21 (.seq (.reg r_h1_13) .ret) ∧
  Kq k_h1_20 (.cond (tm 63) k_h1_21 .skip) ∧
  Kq k_h1_19 (.seq (.reg r_h1_12) k_h1_20) ∧
  Kq k_h1_18 (.seq (.reg r_h1_11) k_h1_19) ∧
  Kq k_h1_22 (.seq (.reg r_h1_14) .ret) ∧
  Kq k_h1_17 (.seq k_h1_18 k_h1_22) ∧
  Kq k_h1_12 (.seq k_h1_13 k_h1_17) ∧
  Kq k_h1_11 (.seq (.reg r_h1_7) k_h1_12) ∧
  Kq k_h1_7 (.seq k_h1_8 k_h1_11) ∧
  Kq k_h1_6 (.seq (.reg r_h1_4) k_h1_7) ∧
  Kq k_h1_1 (.seq k_h1_2 k_h1_6) ∧
  Kq c_h1 (.seq (.reg r_h1_0) k_h1_1) := ⟨kr, kr, kr, kr, kr, kr, kr, kr, kr, kr, kr, kr, kr, kr, kr, kr, kr, kr, kr, kr, kr, kr, kr⟩
theorem at_h1 : FnAt Tryz.prog tb fn_h1 c_h1 66 [.tmp 4, .tmp 5] := fnAt_of tb_fs Tryz.func13 rfl (by kernel_rfl) (by kernel_rfl) rfl rfl
def k_c6_5 : CC := (.seq (.reg r_c6_2) .ret)
def k_c6_8 : CC := (.seq (.reg r_c6_4) .ret)
def k_c6_11 : CC := (.seq (.reg r_c6_6) .ret)
def k_c6_10 : CC := (.cond (tm 16) k_c6_11 .skip)
def k_c6_9 : CC := (.seq (.reg r_c6_5) k_c6_10)
def k_c6_7 : CC := (.cond (tm 11) k_c6_8 k_c6_9)
def k_c6_6 : CC := (.seq (.reg r_c6_3) k_c6_7)
def k_c6_4 : CC := (.cond (tm 8) k_c6_5 k_c6_6)
def k_c6_3 : CC := (.seq (.reg r_c6_1) k_c6_4)
def k_c6_2 : CC := (.block 0 k_c6_3)
def k_c6_18 : CC := (.cond (tm 27) .skip (.exit 1))
def k_c6_25 : CC := (.seq (.reg r_c6_12) .ret)
def k_c6_24 : CC := (.cond (tm 37) k_c6_25 .skip)
def k_c6_23 : CC := (.seq (.reg r_c6_11) k_c6_24)
def k_c6_22 : CC := (.seq (.reg r_c6_10) k_c6_23)
def k_c6_21 : CC := (.seq (.reg r_c6_9) k_c6_22)
def k_c6_20 : CC := (.block 2 k_c6_21)
def k_c6_26 : CC := (.reg r_c6_13)
def k_c6_19 : CC := (.seq k_c6_20 k_c6_26)
def k_c6_17 : CC := (.seq k_c6_18 k_c6_19)
def k_c6_16 : CC := (.seq (.reg r_c6_8) k_c6_17)
def k_c6_15 : CC := (.loop k_c6_16)
def k_c6_14 : CC := (.block 1 k_c6_15)
def k_c6_13 : CC := (.seq (.reg r_c6_7) k_c6_14)
def k_c6_34 : CC := (.seq (.reg r_c6_19) .ret)
def k_c6_33 : CC := (.seq (.reg r_c6_18) k_c6_34)
def k_c6_32 : CC := (.cond (tm 66) k_c6_33 .skip)
def k_c6_31 : CC := (.seq (.reg r_c6_17) k_c6_32)
def k_c6_30 : CC := (.seq (.reg r_c6_16) k_c6_31)
def k_c6_36 : CC := (.seq (.reg r_c6_21) .ret)
def k_c6_35 : CC := (.seq (.reg r_c6_20) k_c6_36)
def k_c6_29 : CC := (.seq k_c6_30 k_c6_35)
def k_c6_28 : CC := (.seq (.drawn r_c6_15 [ (3, 0) , (5, 0) , (11, 0) ]) k_c6_29)
def k_c6_27 : CC := (.seq (.reg r_c6_14) k_c6_28)
def k_c6_12 : CC := (.seq k_c6_13 k_c6_27)
def k_c6_1 : CC := (.seq k_c6_2 k_c6_12)
def c_c6 : CC := (.seq (.reg r_c6_0) k_c6_1)
theorem o_c6 : Kq k_c6_5 (.seq (.reg r_c6_2) .ret) ∧
  Kq k_c6_8 (.seq (.reg r_c6_4) .ret) ∧
  Kq k_c6_11 (.seq (.reg r_c6_6) .ret) ∧
  Kq k_c6_10 (.cond (tm 16) k_c6_11 .skip) ∧
  Kq k_c6_9 (.seq (.reg r_c6_5) k_c6_10) ∧
  Kq k_c6_7 (.cond (tm 11) k_c6_8 k_c6_9) ∧
  Kq k_c6_6 (.seq (.reg r_c6_3) k_c6_7) ∧
  Kq k_c6_4 (.cond (tm 8) k_c6_5 k_c6_6) ∧
  Kq k_c6_3 (.seq (.reg r_c6_1) k_c6_4) ∧
  Kq k_c6_2 (.block 0 k_c6_3) ∧
  Kq k_c6_18 (.cond (tm 27) .skip (.exit 1)) ∧
  Kq k_c6_25 (.seq (.reg r_c6_12) .ret) ∧
  Kq k_c6_24 (.cond (tm 37) k_c6_25 .skip) ∧
  Kq k_c6_23 (.seq (.reg r_c6_11) k_c6_24) ∧
  Kq k_c6_22 (.seq (.reg r_c6_10) k_c6_23) ∧
  Kq k_c6_21 (.seq (.reg r_c6_9) k_c6_22) ∧
  Kq k_c6_20 (.block 2 k_c6_21) ∧
  Kq k_c6_26 (.reg r_c6_13) ∧
  Kq k_c6_19 (.seq k_c6_20 k_c6_26) ∧
  Kq k_c6_17 (.seq k_c6_18 k_c6_19) ∧
  Kq k_c6_16 (.seq (.reg r_c6_8) k_c6_17) ∧
  Kq k_c6_15 (.loop k_c6_16) ∧
  Kq k_c6_14 (.block 1 k_c6_15) ∧
  Kq k_c6_13 (.seq (.reg r_c6_7) k_c6_14) ∧
  Kq k_c6_34 (.seq (.reg r_c6_19) .ret) ∧
  Kq k_c6_33 (.seq (.reg r_c6_18) k_c6_34) ∧
  Kq k_c6_32 (.cond (tm 66) k_c6_33 .skip) ∧
  Kq k_c6_31 (.seq (.reg r_c6_17) k_c6_32) ∧
  Kq k_c6_30 (.seq (.reg r_c6_16) k_c6_31) ∧
  Kq k_c6_36 (.seq (.reg r_c6_21) .ret) ∧
  Kq k_c6_35 (.seq (.reg r_c6_20) k_c6_36) ∧
  Kq k_c6_29 (.seq k_c6_30 k_c6_35) ∧
  Kq k_c6_28 (.seq (.drawn r_c6_15 [ (3, 0) , (5, 0) , (11, 0) ]) k_c6_29) ∧
  Kq k_c6_27 (.seq (.reg r_c6_14) k_c6_28) ∧
  Kq k_c6_12 (.seq k_c6_13 k_c6_27) ∧
  Kq k_c6_1 (.seq k_c6_2 k_c6_12) ∧
  Kq c_c6 (.seq (.reg r_c6_0) k_c6_1) := ⟨kr, kr, kr, kr, kr, kr, kr, kr, kr, kr, kr, kr, kr, kr, kr, kr, kr, kr, kr, kr, kr, kr, kr, kr, kr, kr, kr, kr, kr, kr, kr, kr, kr, kr, kr, kr, kr⟩
theorem at_c6 : FnAt Tryz.prog tb fn_c6 c_c6 76 [.tmp 2] := fnAt_of tb_fs Tryz.func16 rfl (by kernel_rfl) (by kernel_rfl) rfl rfl
def k_f7_8 : CC := (.cond (tm 15) .skip (.exit 0))
def k_f7_7 : CC := (.seq (.reg r_f7_3) k_f7_8)
def k_f7_15 : CC := (.seq (.reg r_f7_7) .ret)
def k_f7_14 : CC := (.cond (tm 25) k_f7_15 .skip)
def k_f7_13 : CC := (.seq (.reg r_f7_6) k_f7_14)
def k_f7_16 : CC := (.reg r_f7_8)
def k_f7_12 : CC := (.seq k_f7_13 k_f7_16)
def k_f7_11 : CC := (.seq (.reg r_f7_5) k_f7_12)
def k_f7_10 : CC := (.block 1 k_f7_11)
def k_f7_17 : CC := (.reg r_f7_4)
def k_f7_9 : CC := (.seq k_f7_10 k_f7_17)
def k_f7_6 : CC := (.seq k_f7_7 k_f7_9)
def k_f7_5 : CC := (.loop k_f7_6)
def k_f7_4 : CC := (.block 0 k_f7_5)
def k_f7_3 : CC := (.seq (.reg r_f7_2) k_f7_4)
def k_f7_18 : CC := (.seq (.reg r_f7_9) .ret)
def k_f7_2 : CC := (.seq k_f7_3 k_f7_18)
def k_f7_1 : CC := (.seq (.reg r_f7_1) k_f7_2)
def c_f7 : CC := (.seq (.reg r_f7_0) k_f7_1)
theorem o_f7 : Kq k_f7_8 (.cond (tm 15) .skip (.exit 0)) ∧
  Kq k_f7_7 (.seq (.reg r_f7_3) k_f7_8) ∧
  Kq k_f7_15 (.seq (.reg r_f7_7) .ret) ∧
  Kq k_f7_14 (.cond (tm 25) k_f7_15 .skip) ∧
  Kq k_f7_13 (.seq (.reg r_f7_6) k_f7_14) ∧
  Kq k_f7_16 (.reg r_f7_8) ∧
  Kq k_f7_12 (.seq k_f7_13 k_f7_16) ∧
  Kq k_f7_11 (.seq (.reg r_f7_5) k_f7_12) ∧
  Kq k_f7_10 (.block 1 k_f7_11) ∧
  Kq k_f7_17 (.reg r_f7_4) ∧
  Kq k_f7_9 (.seq k_f7_10 k_f7_17) ∧
  Kq k_f7_6 (.seq k_f7_7 k_f7_9) ∧
  Kq k_f7_5 (.loop k_f7_6) ∧
  Kq k_f7_4 (.block 0 k_f7_5) ∧
  Kq k_f7_3 (.seq (.reg r_f7_2) k_f7_4) ∧
  Kq k_f7_18 (.seq (.reg r_f7_9) .ret) ∧
  Kq k_f7_2 (.seq k_f7_3 k_f7_18) ∧
  Kq k_f7_1 (.seq (.reg r_f7_1) k_f7_2) ∧
  Kq c_f7 (.seq (.reg r_f7_0) k_f7_1) := ⟨kr, kr, kr, kr, kr, kr, kr, kr, kr, kr, kr, kr, kr, kr, kr, kr, kr, kr, kr⟩
theorem at_f7 : FnAt Tryz.prog tb fn_f7 c_f7 30 [.tmp 4, .tmp 5] := fnAt_of tb_fs Tryz.func17 rfl (by kernel_rfl) (by kernel_rfl) rfl rfl
def k_b9_5 : CC := (.seq (.reg r_b9_2) .ret)
def k_b9_8 : CC := (.seq (.reg r_b9_4) .ret)
def k_b9_7 : CC := (.cond (tm 10) k_b9_8 .skip)
def k_b9_6 : CC := (.seq (.reg r_b9_3) k_b9_7)
def k_b9_4 : CC := (.cond (tm 7) k_b9_5 k_b9_6)
def k_b9_3 : CC := (.seq (.reg r_b9_1) k_b9_4)
def k_b9_2 : CC := (.block 0 k_b9_3)
def k_b9_13 : CC := (.seq (.reg r_b9_7) .ret)
def k_b9_12 : CC := (.cond (tm 19) k_b9_13 .skip)
def k_b9_11 : CC := (.seq (.reg r_b9_6) k_b9_12)
def k_b9_14 : CC := (.seq (.reg r_b9_8) .ret)
def k_b9_10 : CC := (.seq k_b9_11 k_b9_14)
def k_b9_9 : CC := (.seq (.reg r_b9_5) k_b9_10)
def k_b9_1 : CC := (.seq k_b9_2 k_b9_9)
def c_b9 : CC := (.seq (.reg r_b9_0) k_b9_1)
theorem o_b9 : Kq k_b9_5 (.seq (.reg r_b9_2) .ret) ∧
  Kq k_b9_8 (.seq (.reg r_b9_4) .ret) ∧
  Kq k_b9_7 (.cond (tm 10) k_b9_8 .skip) ∧
  Kq k_b9_6 (.seq (.reg r_b9_3) k_b9_7) ∧
  Kq k_b9_4 (.cond (tm 7) k_b9_5 k_b9_6) ∧
  Kq k_b9_3 (.seq (.reg r_b9_1) k_b9_4) ∧
  Kq k_b9_2 (.block 0 k_b9_3) ∧
  Kq k_b9_13 (.seq (.reg r_b9_7) .ret) ∧
  Kq k_b9_12 (.cond (tm 19) k_b9_13 .skip) ∧
  Kq k_b9_11 (.seq (.reg r_b9_6) k_b9_12) ∧
  Kq k_b9_14 (.seq (.reg r_b9_8) .ret) ∧
  Kq k_b9_10 (.seq k_b9_11 k_b9_14) ∧
  Kq k_b9_9 (.seq (.reg r_b9_5) k_b9_10) ∧
  Kq k_b9_1 (.seq k_b9_2 k_b9_9) ∧
  Kq c_b9 (.seq (.reg r_b9_0) k_b9_1) := ⟨kr, kr, kr, kr, kr, kr, kr, kr, kr, kr, kr, kr, kr, kr, kr⟩
theorem at_b9 : FnAt Tryz.prog tb fn_b9 c_b9 23 [.tmp 4, .tmp 5] := fnAt_of tb_fs Tryz.func19 rfl (by kernel_rfl) (by kernel_rfl) rfl rfl
def k_h0_5 : CC := (.seq (.reg r_h0_2) .ret)
def k_h0_8 : CC := (.seq (.reg r_h0_4) .ret)
def k_h0_7 : CC := (.cond (tm 10) k_h0_8 .skip)
def k_h0_6 : CC := (.seq (.reg r_h0_3) k_h0_7)
def k_h0_4 : CC := (.cond (tm 6) k_h0_5 k_h0_6)
def k_h0_3 : CC := (.seq (.reg r_h0_1) k_h0_4)
def k_h0_2 : CC := (.block 0 k_h0_3)
def k_h0_9 : CC := (.seq (.reg r_h0_5) .ret)
def k_h0_1 : CC := (.seq k_h0_2 k_h0_9)
def c_h0 : CC := (.seq (.reg r_h0_0) k_h0_1)
theorem o_h0 : Kq k_h0_5 (.seq (.reg r_h0_2) .ret) ∧
  Kq k_h0_8 (.seq (.reg r_h0_4) .ret) ∧
  Kq k_h0_7 (.cond (tm 10) k_h0_8 .skip) ∧
  Kq k_h0_6 (.seq (.reg r_h0_3) k_h0_7) ∧
  Kq k_h0_4 (.cond (tm 6) k_h0_5 k_h0_6) ∧
  Kq k_h0_3 (.seq (.reg r_h0_1) k_h0_4) ∧
  Kq k_h0_2 (.block 0 k_h0_3) ∧
  Kq k_h0_9 (.seq (.reg r_h0_5) .ret) ∧
  Kq k_h0_1 (.seq k_h0_2 k_h0_9) ∧
  Kq c_h0 (.seq (.reg r_h0_0) k_h0_1) := ⟨kr, kr, kr, kr, kr, kr, kr, kr, kr, kr⟩
theorem at_h0 : FnAt Tryz.prog tb fn_h0 c_h0 22 [.tmp 4, .tmp 5] := fnAt_of tb_fs Tryz.func21 rfl (by kernel_rfl) (by kernel_rfl) rfl rfl
def k_e9_5 : CC := (.seq (.reg r_e9_2) .ret)
def k_e9_8 : CC := (.seq (.reg r_e9_4) .ret)
def k_e9_7 : CC := (.cond (tm 30) k_e9_8 .skip)
def k_e9_6 : CC := (.seq (.reg r_e9_3) k_e9_7)
def k_e9_4 : CC := (.cond (tm 8) k_e9_5 k_e9_6)
def k_e9_3 : CC := (.seq (.reg r_e9_1) k_e9_4)
def k_e9_2 : CC := (.block 0 k_e9_3)
def k_e9_16 : CC := (.cond (tm 46) .skip (.exit 1))
def k_e9_20 : CC := (.drawn r_e9_9 [ (3, 0) , (3, 7) ])
def k_e9_19 : CC := (.seq (.reg r_e9_8) k_e9_20)
def k_e9_18 : CC := (.block 2 k_e9_19)
def k_e9_21 : CC := (.reg r_e9_10)
def k_e9_17 : CC := (.seq k_e9_18 k_e9_21)
def k_e9_15 : CC := (.seq k_e9_16 k_e9_17)
def k_e9_14 : CC := (.seq (.reg r_e9_7) k_e9_15)
def k_e9_13 : CC := (.loop k_e9_14)
def k_e9_12 : CC := (.block 1 k_e9_13)
def k_e9_11 : CC := (.seq (.reg r_e9_6) k_e9_12)
def k_e9_22 : CC := (.seq (.reg r_e9_11) .ret)
def k_e9_10 : CC := (.seq k_e9_11 k_e9_22)
def k_e9_9 : CC := (.seq (.reg r_e9_5) k_e9_10)
def k_e9_1 : CC := (.seq k_e9_2 k_e9_9)
def c_e9 : CC := (.seq (.reg r_e9_0) k_e9_1)
theorem o_e9 : Kq k_e9_5 (.seq (.reg r_e9_2) .ret) ∧
  Kq k_e9_8 (.seq (.reg r_e9_4) .ret) ∧
  Kq k_e9_7 (.cond (tm 30) k_e9_8 .skip) ∧
  Kq k_e9_6 (.seq (.reg r_e9_3) k_e9_7) ∧
  Kq k_e9_4 (.cond (tm 8) k_e9_5 k_e9_6) ∧
  Kq k_e9_3 (.seq (.reg r_e9_1) k_e9_4) ∧
  Kq k_e9_2 (.block 0 k_e9_3) ∧
  Kq k_e9_16 (.cond (tm 46) .skip (.exit 1)) ∧
  Kq k_e9_20 (.drawn r_e9_9 [ (3, 0) , (3, 7) ]) ∧
  Kq k_e9_19 (.seq (.reg r_e9_8) k_e9_20) ∧
  Kq k_e9_18 (.block 2 k_e9_19) ∧
  Kq k_e9_21 (.reg r_e9_10) ∧
  Kq k_e9_17 (.seq k_e9_18 k_e9_21) ∧
  Kq k_e9_15 (.seq k_e9_16 k_e9_17) ∧
  Kq k_e9_14 (.seq (.reg r_e9_7) k_e9_15) ∧
  Kq k_e9_13 (.loop k_e9_14) ∧
  Kq k_e9_12 (.block 1 k_e9_13) ∧
  Kq k_e9_11 (.seq (.reg r_e9_6) k_e9_12) ∧
  Kq k_e9_22 (.seq (.reg r_e9_11) .ret) ∧
  Kq k_e9_10 (.seq k_e9_11 k_e9_22) ∧
  Kq k_e9_9 (.seq (.reg r_e9_5) k_e9_10) ∧
  Kq k_e9_1 (.seq k_e9_2 k_e9_9) ∧
  Kq c_e9 (.seq (.reg r_e9_0) k_e9_1) := ⟨kr, kr, kr, kr, kr, kr, kr, kr, kr, kr, kr, kr, kr, kr, kr, kr, kr, kr, kr, kr, kr, kr, kr⟩
theorem at_e9 : FnAt Tryz.prog tb fn_e9 c_e9 59 [.tmp 4, .tmp 5] := fnAt_of tb_fs Tryz.func23 rfl (by kernel_rfl) (by kernel_rfl) rfl rfl
def k_g9_5 : CC := (.seq (.reg r_g9_3) .ret)
def k_g9_4 : CC := (.cond (tm 13) k_g9_5 .skip)
def k_g9_3 : CC := (.seq (.reg r_g9_2) k_g9_4)
def k_g9_2 : CC := (.seq (.reg r_g9_1) k_g9_3)
def k_g9_11 : CC := (.seq (.reg r_g9_7) .ret)
def k_g9_10 : CC := (.cond (tm 26) k_g9_11 .skip)
def k_g9_9 : CC := (.seq (.reg r_g9_6) k_g9_10)
def k_g9_8 : CC := (.seq (.reg r_g9_5) k_g9_9)
def k_g9_12 : CC := (.seq (.reg r_g9_8) .ret)
def k_g9_7 : CC := (.seq k_g9_8 k_g9_12)
def k_g9_6 : CC := (.seq (.reg r_g9_4) k_g9_7)
def k_g9_1 : CC := (.seq k_g9_2 k_g9_6)
def c_g9 : CC := (.seq (.reg r_g9_0) k_g9_1)
theorem o_g9 : Kq k_g9_5 (.seq (.reg r_g9_3) .ret) ∧
  Kq k_g9_4 (.cond (tm 13) k_g9_5 .skip) ∧
  Kq k_g9_3 (.seq (.reg r_g9_2) k_g9_4) ∧
  Kq k_g9_2 (.seq (.reg r_g9_1) k_g9_3) ∧
  Kq k_g9_11 (.seq (.reg r_g9_7) .ret) ∧
  Kq k_g9_10 (.cond (tm 26) k_g9_11 .skip) ∧
  Kq k_g9_9 (.seq (.reg r_g9_6) k_g9_10) ∧
  Kq k_g9_8 (.seq (.reg r_g9_5) k_g9_9) ∧
  Kq k_g9_12 (.seq (.reg r_g9_8) .ret) ∧
  Kq k_g9_7 (.seq k_g9_8 k_g9_12) ∧
  Kq k_g9_6 (.seq (.reg r_g9_4) k_g9_7) ∧
  Kq k_g9_1 (.seq k_g9_2 k_g9_6) ∧
  Kq c_g9 (.seq (.reg r_g9_0) k_g9_1) := ⟨kr, kr, kr, kr, kr, kr, kr, kr, kr, kr, kr, kr, kr⟩
theorem at_g9 : FnAt Tryz.prog tb fn_g9 c_g9 30 [.tmp 4] := fnAt_of tb_fs Tryz.func25 rfl (by kernel_rfl) (by kernel_rfl) rfl rfl
def k_d6_8 : CC := (.cond (tm 15) .skip (.exit 0))
def k_d6_15 : CC := (.seq (.reg r_d6_6) .ret)
def k_d6_14 : CC := (.cond (tm 26) k_d6_15 .skip)
def k_d6_13 : CC := (.seq (.drawn r_d6_5 [ (1, 0) , (7, 0) ]) k_d6_14)
def k_d6_16 : CC := (.reg r_d6_7)
def k_d6_12 : CC := (.seq k_d6_13 k_d6_16)
def k_d6_11 : CC := (.seq (.reg r_d6_4) k_d6_12)
def k_d6_10 : CC := (.block 1 k_d6_11)
def k_d6_17 : CC := (.reg r_d6_8)
def k_d6_9 : CC := (.seq k_d6_10 k_d6_17)
def k_d6_7 : CC := (.seq k_d6_8 k_d6_9)
def k_d6_6 : CC := (.seq (.reg r_d6_3) k_d6_7)
def k_d6_5 : CC := (.loop k_d6_6)
def k_d6_4 : CC := (.block 0 k_d6_5)
def k_d6_3 : CC := (.seq (.reg r_d6_2) k_d6_4)
def k_d6_24 : CC := (.cond (tm 36) .skip (.exit 2))
def k_d6_30 : CC := (.seq (.reg r_d6_13) .ret)
def k_d6_29 : CC := (.cond (tm 54) k_d6_30 .skip)
def k_d6_28 : CC := (.seq (.reg r_d6_12) k_d6_29)
def k_d6_27 : CC := (.seq (.reg r_d6_11) k_d6_28)
def k_d6_26 : CC := (.block 3 k_d6_27)
def k_d6_31 : CC := (.reg r_d6_14)
def k_d6_25 : CC := (.seq k_d6_26 k_d6_31)
def k_d6_23 : CC := (.seq k_d6_24 k_d6_25)
def k_d6_22 : CC := (.seq (.reg r_d6_10) k_d6_23)
def k_d6_21 : CC := (.loop k_d6_22)
def k_d6_20 : CC := (.block 2 k_d6_21)
def k_d6_19 : CC := (.seq (.reg r_d6_9) k_d6_20)
def k_d6_35 : CC := (.seq (.reg r_d6_16) .ret)
def k_d6_34 : CC := (.cond (tm 63) k_d6_35 .skip)
def k_d6_33 : CC := (.seq (.reg r_d6_15) k_d6_34)
def k_d6_40 : CC := (.seq (.reg r_d6_19) .ret)
def k_d6_39 : CC := (.cond (tm 84) k_d6_40 .skip)
def k_d6_38 : CC := (.seq (.reg r_d6_18) k_d6_39)
def k_d6_37 : CC := (.seq (.reg r_d6_17) k_d6_38)
def k_d6_41 : CC := (.seq (.reg r_d6_20) .ret)
def k_d6_36 : CC := (.seq k_d6_37 k_d6_41)
def k_d6_32 : CC := (.seq k_d6_33 k_d6_36)
def k_d6_18 : CC := (.seq k_d6_19 k_d6_32)
def k_d6_2 : CC := (.seq k_d6_3 k_d6_18)
def k_d6_1 : CC := (.seq (.reg r_d6_1) k_d6_2)
def c_d6 : CC := (.seq (.reg r_d6_0) k_d6_1)
theorem o_d6 : Kq k_d6_8 (.cond (tm 15) .skip (.exit 0)) ∧
  Kq k_d6_15 (.seq (.reg r_d6_6) .ret) ∧
  Kq k_d6_14 (.cond (tm 26) k_d6_15 .skip) ∧
  Kq k_d6_13 (.seq (.drawn r_d6_5 [ (1, 0) , (7, 0) ]) k_d6_14) ∧
  Kq k_d6_16 (.reg r_d6_7) ∧
  Kq k_d6_12 (.seq k_d6_13 k_d6_16) ∧
  Kq k_d6_11 (.seq (.reg r_d6_4) k_d6_12) ∧
  Kq k_d6_10 (.block 1 k_d6_11) ∧
  Kq k_d6_17 (.reg r_d6_8) ∧
  Kq k_d6_9 (.seq k_d6_10 k_d6_17) ∧
  Kq k_d6_7 (.seq k_d6_8 k_d6_9) ∧
  Kq k_d6_6 (.seq (.reg r_d6_3) k_d6_7) ∧
  Kq k_d6_5 (.loop k_d6_6) ∧
  Kq k_d6_4 (.block 0 k_d6_5) ∧
  Kq k_d6_3 (.seq (.reg r_d6_2) k_d6_4) ∧
  Kq k_d6_24 (.cond (tm 36) .skip (.exit 2)) ∧
  Kq k_d6_30 (.seq (.reg r_d6_13) .ret) ∧
  Kq k_d6_29 (.cond (tm 54) k_d6_30 .skip) ∧
  Kq k_d6_28 (.seq (.reg r_d6_12) k_d6_29) ∧
  Kq k_d6_27 (.seq (.reg r_d6_11) k_d6_28) ∧
  Kq k_d6_26 (.block 3 k_d6_27) ∧
  Kq k_d6_31 (.reg r_d6_14) ∧
  Kq k_d6_25 (.seq k_d6_26 k_d6_31) ∧
  Kq k_d6_23 (.seq k_d6_24 k_d6_25) ∧
  Kq k_d6_22 (.seq (.reg r_d6_10) k_d6_23) ∧
  Kq k_d6_21 (.loop k_d6_22) ∧
  Kq k_d6_20 (.block 2 k_d6_21) ∧
  Kq k_d6_19 (.seq (.reg r_d6_9) k_d6_20) ∧
  Kq k_d6_35 (.seq (.reg r_d6_16) .ret) ∧
  Kq k_d6_34 (.cond (tm 63) k_d6_35 .skip) ∧
  Kq k_d6_33 (.seq (.reg r_d6_15) k_d6_34) ∧
  Kq k_d6_40 (.seq (.reg r_d6_19) .ret) ∧
  Kq k_d6_39 (.cond (tm 84) k_d6_40 .skip) ∧
  Kq k_d6_38 (.seq (.reg r_d6_18) k_d6_39) ∧
  Kq k_d6_37 (.seq (.reg r_d6_17) k_d6_38) ∧
  Kq k_d6_41 (.seq (.reg r_d6_20) .ret) ∧
  Kq k_d6_36 (.seq k_d6_37 k_d6_41) ∧
  Kq k_d6_32 (.seq k_d6_33 k_d6_36) ∧
  Kq k_d6_18 (.seq k_d6_19 k_d6_32) ∧
  Kq k_d6_2 (.seq k_d6_3 k_d6_18) ∧
  Kq k_d6_1 (.seq (.reg r_d6_1) k_d6_2) ∧
  Kq c_d6 (.seq (.reg r_d6_0) k_d6_1) := ⟨kr, kr, kr, kr, kr, kr, kr, kr, kr, kr, kr, kr, kr, kr, kr, kr, kr, kr, kr, kr, kr, kr, kr, kr, kr, kr, kr, kr, kr, kr, kr, kr, kr, kr, kr, kr, kr, kr, kr, kr, kr, kr⟩
theorem at_d6 : FnAt Tryz.prog tb fn_d6 c_d6 85 [.tmp 4] := fnAt_of tb_fs Tryz.func45 rfl (by kernel_rfl) (by kernel_rfl) rfl rfl
def k_h4_1 : CC := (.seq (.drawn r_h4_1 [ (1, 0) , (5, 0) , (5, 3) ]) .ret)
def c_h4 : CC := (.seq (.reg r_h4_0) k_h4_1)
theorem o_h4 : Kq k_h4_1 (.seq (.drawn r_h4_1 [ (1, 0) , (5, 0) , (5, 3) ]) .ret) ∧
  Kq c_h4 (.seq (.reg r_h4_0) k_h4_1) := ⟨kr, kr⟩
theorem at_h4 : FnAt Tryz.prog tb fn_h4 c_h4 13 [.tmp 4] := fnAt_of tb_fs Tryz.func46 rfl (by kernel_rfl) (by kernel_rfl) rfl rfl
def k_a4_4 : CC := (.reg r_a4_2)
def k_a4_3 : CC := (.cond (tm 6) k_a4_4 .skip)
def k_a4_2 : CC := (.seq (.reg r_a4_1) k_a4_3)
def k_a4_5 : CC := (.seq (.reg r_a4_3) .ret)
def k_a4_1 : CC := (.seq k_a4_2 k_a4_5)
def c_a4 : CC := (.seq (.reg r_a4_0) k_a4_1)
theorem o_a4 : Kq k_a4_4 (.reg r_a4_2) ∧
  Kq k_a4_3 (.cond (tm 6) k_a4_4 .skip) ∧
  Kq k_a4_2 (.seq (.reg r_a4_1) k_a4_3) ∧
  Kq k_a4_5 (.seq (.reg r_a4_3) .ret) ∧
  Kq k_a4_1 (.seq k_a4_2 k_a4_5) ∧
  Kq c_a4 (.seq (.reg r_a4_0) k_a4_1) := ⟨kr, kr, kr, kr, kr, kr⟩
theorem at_a4 : FnAt Tryz.prog tb fn_a4 c_a4 9 [.tmp 4] := fnAt_of tb_fs Tryz.func47 rfl (by kernel_rfl) (by kernel_rfl) rfl rfl
def k_h3_1 : CC := (.seq (.reg r_h3_1) .ret)
def c_h3 : CC := (.seq (.reg r_h3_0) k_h3_1)
theorem o_h3 : Kq k_h3_1 (.seq (.reg r_h3_1) .ret) ∧
  Kq c_h3 (.seq (.reg r_h3_0) k_h3_1) := ⟨kr, kr⟩
theorem at_h3 : FnAt Tryz.prog tb fn_h3 c_h3 7 [.tmp 2] := fnAt_of tb_fs Tryz.func48 rfl (by kernel_rfl) (by kernel_rfl) rfl rfl
def k_d4_8 : CC := (.cond (tm 17) .skip (.exit 0))
def k_d4_12 : CC := (.reg r_d4_5)
def k_d4_11 : CC := (.seq (.reg r_d4_4) k_d4_12)
def k_d4_10 : CC := (.block 1 k_d4_11)
def k_d4_13 : CC := (.reg r_d4_6)
def k_d4_9 : CC := (.seq k_d4_10 k_d4_13)
def k_d4_7 : CC := (.seq k_d4_8 k_d4_9)
def k_d4_6 : CC := (.seq (.reg r_d4_3) k_d4_7)
def k_d4_5 : CC := (.loop k_d4_6)
def k_d4_4 : CC := (.block 0 k_d4_5)
def k_d4_3 : CC := (.seq (.reg r_d4_2) k_d4_4)
def k_d4_19 : CC := (.seq (.reg r_d4_10) .ret)
def k_d4_18 : CC := (.cond (tm 52) k_d4_19 .skip)
def k_d4_17 : CC := (.seq (.reg r_d4_9) k_d4_18)
def k_d4_16 : CC := (.seq (.reg r_d4_8) k_d4_17)
def k_d4_28 : CC := (.cond (tm 75) .skip (.exit 2))
def k_d4_36 : CC := (.seq (.reg r_d4_18) .ret)
def k_d4_35 : CC := (.cond (tm 90) k_d4_36 .skip)
def k_d4_34 : CC := (.seq (.reg r_d4_17) k_d4_35)
def k_d4_33 : CC := (.seq (.drawn r_d4_16 [ (6, 0) , (9, 0) , (9, 8) ]) k_d4_34)
def k_d4_37 : CC := (.reg r_d4_19)
def k_d4_32 : CC := (.seq k_d4_33 k_d4_37)
def k_d4_31 : CC := (.seq (.reg r_d4_15) k_d4_32)
def k_d4_30 : CC := (.block 3 k_d4_31)
def k_d4_38 : CC := (.reg r_d4_20)
def k_d4_29 : CC := (.seq k_d4_30 k_d4_38)
def k_d4_27 : CC := (.seq k_d4_28 k_d4_29)
def k_d4_26 : CC := (.seq (.reg r_d4_14) k_d4_27)
def k_d4_25 : CC := (.loop k_d4_26)
def k_d4_24 : CC := (.block 2 k_d4_25)
def k_d4_23 : CC := (.seq (.reg r_d4_13) k_d4_24)
def k_d4_39 : CC := (.seq (.reg r_d4_21) .ret)
def k_d4_22 : CC := (.seq k_d4_23 k_d4_39)
def k_d4_21 : CC := (.seq (.reg r_d4_12) k_d4_22)
def k_d4_20 : CC := (.seq (.reg r_d4_11) k_d4_21)
def k_d4_15 : CC := (.seq k_d4_16 k_d4_20)
def k_d4_14 : CC := (.seq (.drawn r_d4_7 [ (4, 0) , (10, 0) ]) k_d4_15)
def k_d4_2 : CC := (.seq k_d4_3 k_d4_14)
def k_d4_1 : CC := (.seq (.reg r_d4_1) k_d4_2)
def c_d4 : CC := (.seq (.reg r_d4_0) k_d4_1)
theorem o_d4 : Kq k_d4_8 (.cond (tm 17) .skip (.exit 0)) ∧
  Kq k_d4_12 (.reg r_d4_5) ∧
  Kq k_d4_11 (.seq (.reg r_d4_4) k_d4_12) ∧
  Kq k_d4_10 (.block 1 k_d4_11) ∧
  Kq k_d4_13 (.reg r_d4_6) ∧
  Kq k_d4_9 (.seq k_d4_10 k_d4_13) ∧
  Kq k_d4_7 (.seq k_d4_8 k_d4_9) ∧
  Kq k_d4_6 (.seq (.reg r_d4_3) k_d4_7) ∧
  Kq k_d4_5 (.loop k_d4_6) ∧
  Kq k_d4_4 (.block 0 k_d4_5) ∧
  Kq k_d4_3 (.seq (.reg r_d4_2) k_d4_4) ∧
  Kq k_d4_19 (.seq (.reg r_d4_10) .ret) ∧
  Kq k_d4_18 (.cond (tm 52) k_d4_19 .skip) ∧
  Kq k_d4_17 (.seq (.reg r_d4_9) k_d4_18) ∧
  Kq k_d4_16 (.seq (.reg r_d4_8) k_d4_17) ∧
  Kq k_d4_28 (.cond (tm 75) .skip (.exit 2)) ∧
  Kq k_d4_36 (.seq (.reg r_d4_18) .ret) ∧
  Kq k_d4_35 (.cond (tm 90) k_d4_36 .skip) ∧
  Kq k_d4_34 (.seq (.reg r_d4_17) k_d4_35) ∧
  Kq k_d4_33 (.seq (.drawn r_d4_16 [ (6, 0) , (9, 0) , (9, 8) ]) k_d4_34) ∧
  Kq k_d4_37 (.reg r_d4_19) ∧
  Kq k_d4_32 (.seq k_d4_33 k_d4_37) ∧
  Kq k_d4_31 (.seq (.reg r_d4_15) k_d4_32) ∧
  Kq k_d4_30 (.block 3 k_d4_31) ∧
  Kq k_d4_38 (.reg r_d4_20) ∧
  Kq k_d4_29 (.seq k_d4_30 k_d4_38) ∧
  Kq k_d4_27 (.seq k_d4_28 k_d4_29) ∧
  Kq k_d4_26 (.seq (.reg r_d4_14) k_d4_27) ∧
  Kq k_d4_25 (.loop k_d4_26) ∧
  Kq k_d4_24 (.block 2 k_d4_25) ∧
  Kq k_d4_23 (.seq (.reg r_d4_13) k_d4_24) ∧
  Kq k_d4_39 (.seq (.reg r_d4_21) .ret) ∧
  Kq k_d4_22 (.seq k_d4_23 k_d4_39) ∧
  Kq k_d4_21 (.seq (.reg r_d4_12) k_d4_22) ∧
  Kq k_d4_20 (.seq (.reg r_d4_11) k_d4_21) ∧
  Kq k_d4_15 (.seq k_d4_16 k_d4_20) ∧
  Kq k_d4_14 (.seq (.drawn r_d4_7 [ (4, 0) , (10, 0) ]) k_d4_15) ∧
  Kq k_d4_2 (.seq k_d4_3 k_d4_14) ∧
  Kq k_d4_1 (.seq (.reg r_d4_1) k_d4_2) ∧
  Kq c_d4 (.seq (.reg r_d4_0) k_d4_1) := ⟨kr, kr, kr, kr, kr, kr, kr, kr, kr, kr, kr, kr, kr, kr, kr, kr, kr, kr, kr, kr, kr, kr, kr, kr, kr, kr, kr, kr, kr, kr, kr, kr, kr, kr, kr, kr, kr, kr, kr, kr⟩
theorem at_d4 : FnAt Tryz.prog tb fn_d4 c_d4 102 [.tmp 4] := fnAt_of tb_fs Tryz.func49 rfl (by kernel_rfl) (by kernel_rfl) rfl rfl
def k_d2_6 : CC := (.reg r_d2_4)
def k_d2_5 : CC := (.cond (tm 25) k_d2_6 .skip)
def k_d2_4 : CC := (.seq (.reg r_d2_3) k_d2_5)
def k_d2_10 : CC := (.reg r_d2_6)
def k_d2_9 : CC := (.cond (tm 33) k_d2_10 .skip)
def k_d2_8 : CC := (.seq (.reg r_d2_5) k_d2_9)
def k_d2_12 : CC := (.seq (.reg r_d2_8) .ret)
def k_d2_11 : CC := (.seq (.reg r_d2_7) k_d2_12)
def k_d2_7 : CC := (.seq k_d2_8 k_d2_11)
def k_d2_3 : CC := (.seq k_d2_4 k_d2_7)
def k_d2_2 : CC := (.seq (.reg r_d2_2) k_d2_3)
def k_d2_1 : CC := (.seq (.drawn r_d2_1 [ (3, 0) , (8, 0) ]) k_d2_2)
def c_d2 : CC := (.seq (.reg r_d2_0) k_d2_1)
theorem o_d2 : Kq k_d2_6 (.reg r_d2_4) ∧
  Kq k_d2_5 (.cond (tm 25) k_d2_6 .skip) ∧
  Kq k_d2_4 (.seq (.reg r_d2_3) k_d2_5) ∧
  Kq k_d2_10 (.reg r_d2_6) ∧
  Kq k_d2_9 (.cond (tm 33) k_d2_10 .skip) ∧
  Kq k_d2_8 (.seq (.reg r_d2_5) k_d2_9) ∧
  Kq k_d2_12 (.seq (.reg r_d2_8) .ret) ∧
  Kq k_d2_11 (.seq (.reg r_d2_7) k_d2_12) ∧
  Kq k_d2_7 (.seq k_d2_8 k_d2_11) ∧
  Kq k_d2_3 (.seq k_d2_4 k_d2_7) ∧
  Kq k_d2_2 (.seq (.reg r_d2_2) k_d2_3) ∧
  Kq k_d2_1 (.seq (.drawn r_d2_1 [ (3, 0) , (8, 0) ]) k_d2_2) ∧
  Kq c_d2 (.seq (.reg r_d2_0) k_d2_1) := ⟨kr, kr, kr, kr, kr, kr, kr, kr, kr, kr, kr, kr, kr⟩
theorem at_d2 : FnAt Tryz.prog tb fn_d2 c_d2 51 [.tmp 2] := fnAt_of tb_fs Tryz.func50 rfl (by kernel_rfl) (by kernel_rfl) rfl rfl
def k_a6_4 : CC := (.seq (.reg r_a6_2) .ret)
def k_a6_3 : CC := (.cond (tm 4) k_a6_4 .skip)
def k_a6_2 : CC := (.seq (.reg r_a6_1) k_a6_3)
def k_a6_5 : CC := (.seq (.reg r_a6_3) .ret)
def k_a6_1 : CC := (.seq k_a6_2 k_a6_5)
def c_a6 : CC := (.seq (.reg r_a6_0) k_a6_1)
theorem o_a6 : Kq k_a6_4 (.seq (.reg r_a6_2) .ret) ∧
  Kq k_a6_3 (.cond (tm 4) k_a6_4 .skip) ∧
  Kq k_a6_2 (.seq (.reg r_a6_1) k_a6_3) ∧
  Kq k_a6_5 (.seq (.reg r_a6_3) .ret) ∧
  Kq k_a6_1 (.seq k_a6_2 k_a6_5) ∧
  Kq c_a6 (.seq (.reg r_a6_0) k_a6_1) := ⟨kr, kr, kr, kr, kr, kr⟩
theorem at_a6 : FnAt Tryz.prog tb fn_a6 c_a6 8 [.tmp 2] := fnAt_of tb_fs Tryz.func51 rfl (by kernel_rfl) (by kernel_rfl) rfl rfl
def k_a3_3 : CC := (.reg r_a3_1)
def k_a3_2 : CC := (.cond (tm 5) k_a3_3 .skip)
def k_a3_1 : CC := (.seq (.reg r_a3_0) k_a3_2)
def k_a3_4 : CC := (.reg r_a3_2)
def c_a3 : CC := (.seq k_a3_1 k_a3_4)
theorem o_a3 : Kq k_a3_3 (.reg r_a3_1) ∧
  Kq k_a3_2 (.cond (tm 5) k_a3_3 .skip) ∧
  Kq k_a3_1 (.seq (.reg r_a3_0) k_a3_2) ∧
  Kq k_a3_4 (.reg r_a3_2) ∧
  Kq c_a3 (.seq k_a3_1 k_a3_4) := ⟨kr, kr, kr, kr, kr⟩
theorem at_a3 : FnAt Tryz.prog tb fn_a3 c_a3 20 [] := fnAt_of tb_fs Tryz.func54 rfl (by kernel_rfl) (by kernel_rfl) rfl rfl
def k_h2_5 : CC := (.seq (.reg r_h2_2) .ret)
def k_h2_8 : CC := (.seq (.reg r_h2_4) .ret)
def k_h2_7 : CC := (.cond (tm 8) k_h2_8 .skip)
def k_h2_6 : CC := (.seq (.drawn r_h2_3 [ (0, 0) , (7, 2) , (7, 6) , (14, 6) , (14, 13) ]) k_h2_7)
def k_h2_4 : CC := (.cond (tm 5) k_h2_5 k_h2_6)
def k_h2_3 : CC := (.seq (.reg r_h2_1) k_h2_4)
def k_h2_2 : CC := (.block 0 k_h2_3)
def k_h2_9 : CC := (.seq (.reg r_h2_5) .ret)
def k_h2_1 : CC := (.seq k_h2_2 k_h2_9)
def c_h2 : CC := (.seq (.reg r_h2_0) k_h2_1)
theorem o_h2 : Kq k_h2_5 (.seq (.reg r_h2_2) .ret) ∧
  Kq k_h2_8 (.seq (.reg r_h2_4) .ret) ∧
  Kq k_h2_7 (.cond (tm 8) k_h2_8 .skip) ∧
  Kq k_h2_6 (.seq (.drawn r_h2_3 [ (0, 0) , (7, 2) , (7, 6) , (14, 6) , (14, 13) ]) k_h2_7) ∧
  Kq k_h2_4 (.cond (tm 5) k_h2_5 k_h2_6) ∧
  Kq k_h2_3 (.seq (.reg r_h2_1) k_h2_4) ∧
  Kq k_h2_2 (.block 0 k_h2_3) ∧
  Kq k_h2_9 (.seq (.reg r_h2_5) .ret) ∧
  Kq k_h2_1 (.seq k_h2_2 k_h2_9) ∧
  Kq c_h2 (.seq (.reg r_h2_0) k_h2_1) := ⟨kr, kr, kr, kr, kr, kr, kr, kr, kr, kr⟩
theorem at_h2 : FnAt Tryz.prog tb fn_h2 c_h2 26 [.tmp 4] := fnAt_of tb_fs Tryz.func55 rfl (by kernel_rfl) (by kernel_rfl) rfl rfl
def k_e2_4 : CC := (.seq (.reg r_e2_2) .ret)
def k_e2_3 : CC := (.cond (tm 11) k_e2_4 .skip)
def k_e2_2 : CC := (.seq (.reg r_e2_1) k_e2_3)
def k_e2_10 : CC := (.seq (.reg r_e2_8) .ret)
def k_e2_9 : CC := (.seq (.reg r_e2_7) k_e2_10)
def k_e2_8 : CC := (.seq (.reg r_e2_6) k_e2_9)
def k_e2_7 : CC := (.seq (.reg r_e2_5) k_e2_8)
def k_e2_6 : CC := (.seq (.reg r_e2_4) k_e2_7)
def k_e2_5 : CC := (.seq (.reg r_e2_3) k_e2_6)
def k_e2_1 : CC := (.seq k_e2_2 k_e2_5)
def c_e2 : CC := (.seq (.reg r_e2_0) k_e2_1)
theorem o_e2 : Kq k_e2_4 (.seq (.reg r_e2_2) .ret) ∧
  Kq k_e2_3 (.cond (tm 11) k_e2_4 .skip) ∧
  Kq k_e2_2 (.seq (.reg r_e2_1) k_e2_3) ∧
  Kq k_e2_10 (.seq (.reg r_e2_8) .ret) ∧
  Kq k_e2_9 (.seq (.reg r_e2_7) k_e2_10) ∧
  Kq k_e2_8 (.seq (.reg r_e2_6) k_e2_9) ∧
  Kq k_e2_7 (.seq (.reg r_e2_5) k_e2_8) ∧
  Kq k_e2_6 (.seq (.reg r_e2_4) k_e2_7) ∧
  Kq k_e2_5 (.seq (.reg r_e2_3) k_e2_6) ∧
  Kq k_e2_1 (.seq k_e2_2 k_e2_5) ∧
  Kq c_e2 (.seq (.reg r_e2_0) k_e2_1) := ⟨kr, kr, kr, kr, kr, kr, kr, kr, kr, kr, kr⟩
theorem at_e2 : FnAt Tryz.prog tb fn_e2 c_e2 39 [.cell 2 ty_api_Header, .tmp 3] := fnAt_of tb_fs Tryz.func56 rfl (by kernel_rfl) (by kernel_rfl) rfl rfl
def k_cr_Log_replay_1_3 : CC := (.cond (tm 16) (.goto 0) .skip)
def k_cr_Log_replay_1_2 : CC := (.seq (.reg r_d5_5) k_cr_Log_replay_1_3)
def k_cr_Log_replay_1_8 : CC := (.seq (.reg r_d5_8) .ret)
def k_cr_Log_replay_1_7 : CC := (.cond (tm 29) k_cr_Log_replay_1_8 .skip)
def k_cr_Log_replay_1_6 : CC := (.seq (.reg r_d5_7) k_cr_Log_replay_1_7)
def k_cr_Log_replay_1_5 : CC := (.seq (.drawn r_d5_6 [ (3, 0) , (3, 7) ]) k_cr_Log_replay_1_6)
def k_cr_Log_replay_1_13 : CC := (.seq (.reg r_d5_11) .ret)
def k_cr_Log_replay_1_12 : CC := (.cond (tm 60) k_cr_Log_replay_1_13 .skip)
def k_cr_Log_replay_1_11 : CC := (.seq (.reg r_d5_10) k_cr_Log_replay_1_12)
def k_cr_Log_replay_1_21 : CC := (.cond (tm 68) .skip (.exit 0))
def k_cr_Log_replay_1_29 : CC := (.seq (.reg r_d5_18) .ret)
def k_cr_Log_replay_1_28 : CC := (.cond (tm 85) k_cr_Log_replay_1_29 .skip)
def k_cr_Log_replay_1_27 : CC := (.seq (.reg r_d5_17) k_cr_Log_replay_1_28)
def k_cr_Log_replay_1_26 : CC := (.seq (.drawn r_d5_16 [ (3, 0) , (3, 10) ]) k_cr_Log_replay_1_27)
def k_cr_Log_replay_1_30 : CC := (.drawn r_d5_19 [ (3, 0) , (7, 0) ])
def k_cr_Log_replay_1_25 : CC := (.seq k_cr_Log_replay_1_26 k_cr_Log_replay_1_30)
def k_cr_Log_replay_1_24 : CC := (.seq (.reg r_d5_15) k_cr_Log_replay_1_25)
def k_cr_Log_replay_1_23 : CC := (.block 1 k_cr_Log_replay_1_24)
def k_cr_Log_replay_1_31 : CC := (.reg r_d5_20)
def k_cr_Log_replay_1_22 : CC := (.seq k_cr_Log_replay_1_23 k_cr_Log_replay_1_31)
def k_cr_Log_replay_1_20 : CC := (.seq k_cr_Log_replay_1_21 k_cr_Log_replay_1_22)
def k_cr_Log_replay_1_19 : CC := (.seq (.reg r_d5_14) k_cr_Log_replay_1_20)
def k_cr_Log_replay_1_18 : CC := (.loop k_cr_Log_replay_1_19)
def k_cr_Log_replay_1_17 : CC := (.block 0 k_cr_Log_replay_1_18)
def k_cr_Log_replay_1_16 : CC := (.seq (.reg r_d5_13) k_cr_Log_replay_1_17)
def k_cr_Log_replay_1_41 : CC := (.cond (tm 105) .skip (.exit 2))
def k_cr_Log_replay_1_47 : CC := (.seq (.reg r_d5_26) .ret)
def k_cr_Log_replay_1_46 : CC := (.cond (tm 120) k_cr_Log_replay_1_47 .skip)
def k_cr_Log_replay_1_45 : CC := (.seq (.reg r_d5_25) k_cr_Log_replay_1_46)
def k_cr_Log_replay_1_44 : CC := (.seq (.reg r_d5_24) k_cr_Log_replay_1_45)
def k_cr_Log_replay_1_43 : CC := (.block 3 k_cr_Log_replay_1_44)
def k_cr_Log_replay_1_48 : CC := (.reg r_d5_27)
def k_cr_Log_replay_1_42 : CC := (.seq k_cr_Log_replay_1_43 k_cr_Log_replay_1_48)
def k_cr_Log_replay_1_40 : CC := (.seq k_cr_Log_replay_1_41 k_cr_Log_replay_1_42)
def k_cr_Log_replay_1_39 : CC := (.seq (.reg r_d5_23) k_cr_Log_replay_1_40)
def k_cr_Log_replay_1_38 : CC := (.loop k_cr_Log_replay_1_39)
def k_cr_Log_replay_1_37 : CC := (.block 2 k_cr_Log_replay_1_38)
def k_cr_Log_replay_1_36 : CC := (.seq (.reg r_d5_22) k_cr_Log_replay_1_37)
def k_cr_Log_replay_1_49 : CC := (.seq (.reg r_d5_28) .ret)
def k_cr_Log_replay_1_35 : CC := (.seq k_cr_Log_replay_1_36 k_cr_Log_replay_1_49)
def k_cr_Log_replay_1_34 : CC := (.seq .skip k_cr_Log_replay_1_35)
def k_cr_Log_replay_1_33 : CC := (.seq (.goto 1) k_cr_Log_replay_1_34)
def k_cr_Log_replay_1_32 : CC := (.seq (.reg r_d5_21) k_cr_Log_replay_1_33)
def k_cr_Log_replay_1_15 : CC := (.seq k_cr_Log_replay_1_16 k_cr_Log_replay_1_32)
def k_cr_Log_replay_1_14 : CC := (.seq (.reg r_d5_12) k_cr_Log_replay_1_15)
def k_cr_Log_replay_1_10 : CC := (.seq k_cr_Log_replay_1_11 k_cr_Log_replay_1_14)
def k_cr_Log_replay_1_9 : CC := (.seq (.reg r_d5_9) k_cr_Log_replay_1_10)
def k_cr_Log_replay_1_4 : CC := (.seq k_cr_Log_replay_1_5 k_cr_Log_replay_1_9)
def k_cr_Log_replay_1_1 : CC := (.seq k_cr_Log_replay_1_2 k_cr_Log_replay_1_4)
theorem o_cr_Log_replay_1 : Kq k_cr_Log_replay_1_3 (.cond (tm 16) (.goto 0) .skip) ∧
  Kq k_cr_Log_replay_1_2 (.seq (.reg r_d5_5) k_cr_Log_replay_1_3) ∧
  Kq k_cr_Log_replay_1_8 (.seq (.reg r_d5_8) .ret) ∧
  Kq k_cr_Log_replay_1_7 (.cond (tm 29) k_cr_Log_replay_1_8 .skip) ∧
  Kq k_cr_Log_replay_1_6 (.seq (.reg r_d5_7) k_cr_Log_replay_1_7) ∧
  Kq k_cr_Log_replay_1_5 (.seq (.drawn r_d5_6 [ (3, 0) , (3, 7) ]) k_cr_Log_replay_1_6) ∧
  Kq k_cr_Log_replay_1_13 (.seq (.reg r_d5_11) .ret) ∧
  Kq k_cr_Log_replay_1_12 (.cond (tm 60) k_cr_Log_replay_1_13 .skip) ∧
  Kq k_cr_Log_replay_1_11 (.seq (.reg r_d5_10) k_cr_Log_replay_1_12) ∧
  Kq k_cr_Log_replay_1_21 (.cond (tm 68) .skip (.exit 0)) ∧
  Kq k_cr_Log_replay_1_29 (.seq (.reg r_d5_18) .ret) ∧
  Kq k_cr_Log_replay_1_28 (.cond (tm 85) k_cr_Log_replay_1_29 .skip) ∧
  Kq k_cr_Log_replay_1_27 (.seq (.reg r_d5_17) k_cr_Log_replay_1_28) ∧
  Kq k_cr_Log_replay_1_26 (.seq (.drawn r_d5_16 [ (3, 0) , (3, 10) ]) k_cr_Log_replay_1_27) ∧
  Kq k_cr_Log_replay_1_30 (.drawn r_d5_19 [ (3, 0) , (7, 0) ]) ∧
  Kq k_cr_Log_replay_1_25 (.seq k_cr_Log_replay_1_26 k_cr_Log_replay_1_30) ∧
  Kq k_cr_Log_replay_1_24 (.seq (.reg r_d5_15) k_cr_Log_replay_1_25) ∧
  Kq k_cr_Log_replay_1_23 (.block 1 k_cr_Log_replay_1_24) ∧
  Kq k_cr_Log_replay_1_31 (.reg r_d5_20) ∧
  Kq k_cr_Log_replay_1_22 (.seq k_cr_Log_replay_1_23 k_cr_Log_replay_1_31) ∧
  Kq k_cr_Log_replay_1_20 (.seq k_cr_Log_replay_1_21 k_cr_Log_replay_1_22) ∧
  Kq k_cr_Log_replay_1_19 (.seq (.reg r_d5_14) k_cr_Log_replay_1_20) ∧
  Kq k_cr_Log_replay_1_18 (.loop k_cr_Log_replay_1_19) ∧
  Kq k_cr_Log_replay_1_17 (.block 0 k_cr_Log_replay_1_18) ∧
  Kq k_cr_Log_replay_1_16 (.seq (.reg r_d5_13) k_cr_Log_replay_1_17) ∧
  Kq k_cr_Log_replay_1_41 (.cond (tm 105) .skip (.exit 2)) ∧
  Kq k_cr_Log_replay_1_47 (.seq (.reg r_d5_26) .ret) ∧
  Kq k_cr_Log_replay_1_46 (.cond (tm 120) k_cr_Log_replay_1_47 .skip) ∧
  Kq k_cr_Log_replay_1_45 (.seq (.reg r_d5_25) k_cr_Log_replay_1_46) ∧
  Kq k_cr_Log_replay_1_44 (.seq (.reg r_d5_24) k_cr_Log_replay_1_45) ∧
  Kq k_cr_Log_replay_1_43 (.block 3 k_cr_Log_replay_1_44) ∧
  Kq k_cr_Log_replay_1_48 (.reg r_d5_27) ∧
  Kq k_cr_Log_replay_1_42 (.seq k_cr_Log_replay_1_43 k_cr_Log_replay_1_48) ∧
  Kq k_cr_Log_replay_1_40 (.seq k_cr_Log_replay_1_41 k_cr_Log_replay_1_42) ∧
  Kq k_cr_Log_replay_1_39 (.seq (.reg r_d5_23) k_cr_Log_replay_1_40) ∧
  Kq k_cr_Log_replay_1_38 (.loop k_cr_Log_replay_1_39) ∧
  Kq k_cr_Log_replay_1_37 (.block 2 k_cr_Log_replay_1_38) ∧
  Kq k_cr_Log_replay_1_36 (.seq (.reg r_d5_22) k_cr_Log_replay_1_37) ∧
  Kq k_cr_Log_replay_1_49 (.seq (.reg r_d5_28) .ret) ∧
  Kq k_cr_Log_replay_1_35 (.seq k_cr_Log_replay_1_36 k_cr_Log_replay_1_49) ∧
  Kq k_cr_Log_replay_1_34 (.seq .skip k_cr_Log_replay_1_35) ∧
  Kq k_cr_Log_replay_1_33 (.seq (.goto 1) k_cr_Log_replay_1_34) ∧
  Kq k_cr_Log_replay_1_32 (.seq (.reg r_d5_21) k_cr_Log_replay_1_33) ∧
  Kq k_cr_Log_replay_1_15 (.seq k_cr_Log_replay_1_16 k_cr_Log_replay_1_32) ∧
  Kq k_cr_Log_replay_1_14 (.seq (.reg r_d5_12) k_cr_Log_replay_1_15) ∧
  Kq k_cr_Log_replay_1_10 (.seq k_cr_Log_replay_1_11 k_cr_Log_replay_1_14) ∧
  Kq k_cr_Log_replay_1_9 (.seq (.reg r_d5_9) k_cr_Log_replay_1_10) ∧
  Kq k_cr_Log_replay_1_4 (.seq k_cr_Log_replay_1_5 k_cr_Log_replay_1_9) ∧
  Kq k_cr_Log_replay_1_1 (.seq k_cr_Log_replay_1_2 k_cr_Log_replay_1_4) ∧
  Kq cr_Log_replay_1 (.seq .skip k_cr_Log_replay_1_1) := ⟨kr, kr, kr, kr, kr, kr, kr, kr, kr, kr, kr, kr, kr, kr, kr, kr, kr, kr, kr, kr, kr, kr, kr, kr, kr, kr, kr, kr, kr, kr, kr, kr, kr, kr, kr, kr, kr, kr, kr, kr, kr, kr, kr, kr, kr, kr, kr, kr, kr, kr⟩
def k_cr_Log_replay_0_7 : CC := (.cond (tm 105) .skip (.exit 2))
def k_cr_Log_replay_0_13 : CC := (.seq (.reg r_d5_26) .ret)
def k_cr_Log_replay_0_12 : CC := (.cond (tm 120) k_cr_Log_replay_0_13 .skip)
def k_cr_Log_replay_0_11 : CC := (.seq (.reg r_d5_25) k_cr_Log_replay_0_12)
def k_cr_Log_replay_0_10 : CC := (.seq (.reg r_d5_24) k_cr_Log_replay_0_11)
def k_cr_Log_replay_0_9 : CC := (.block 3 k_cr_Log_replay_0_10)
def k_cr_Log_replay_0_14 : CC := (.reg r_d5_27)
def k_cr_Log_replay_0_8 : CC := (.seq k_cr_Log_replay_0_9 k_cr_Log_replay_0_14)
def k_cr_Log_replay_0_6 : CC := (.seq k_cr_Log_replay_0_7 k_cr_Log_replay_0_8)
def k_cr_Log_replay_0_5 : CC := (.seq (.reg r_d5_23) k_cr_Log_replay_0_6)
def k_cr_Log_replay_0_4 : CC := (.loop k_cr_Log_replay_0_5)
def k_cr_Log_replay_0_3 : CC := (.block 2 k_cr_Log_replay_0_4)
def k_cr_Log_replay_0_2 : CC := (.seq (.reg r_d5_22) k_cr_Log_replay_0_3)
def k_cr_Log_replay_0_15 : CC := (.seq (.reg r_d5_28) .ret)
def k_cr_Log_replay_0_1 : CC := (.seq k_cr_Log_replay_0_2 k_cr_Log_replay_0_15)
theorem o_cr_Log_replay_0 : Kq k_cr_Log_replay_0_7 (.cond (tm 105) .skip (.exit 2)) ∧
  Kq k_cr_Log_replay_0_13 (.seq (.reg r_d5_26) .ret) ∧
  Kq k_cr_Log_replay_0_12 (.cond (tm 120) k_cr_Log_replay_0_13 .skip) ∧
  Kq k_cr_Log_replay_0_11 (.seq (.reg r_d5_25) k_cr_Log_replay_0_12) ∧
  Kq k_cr_Log_replay_0_10 (.seq (.reg r_d5_24) k_cr_Log_replay_0_11) ∧
  Kq k_cr_Log_replay_0_9 (.block 3 k_cr_Log_replay_0_10) ∧
  Kq k_cr_Log_replay_0_14 (.reg r_d5_27) ∧
  Kq k_cr_Log_replay_0_8 (.seq k_cr_Log_replay_0_9 k_cr_Log_replay_0_14) ∧
  Kq k_cr_Log_replay_0_6 (.seq k_cr_Log_replay_0_7 k_cr_Log_replay_0_8) ∧
  Kq k_cr_Log_replay_0_5 (.seq (.reg r_d5_23) k_cr_Log_replay_0_6) ∧
  Kq k_cr_Log_replay_0_4 (.loop k_cr_Log_replay_0_5) ∧
  Kq k_cr_Log_replay_0_3 (.block 2 k_cr_Log_replay_0_4) ∧
  Kq k_cr_Log_replay_0_2 (.seq (.reg r_d5_22) k_cr_Log_replay_0_3) ∧
  Kq k_cr_Log_replay_0_15 (.seq (.reg r_d5_28) .ret) ∧
  Kq k_cr_Log_replay_0_1 (.seq k_cr_Log_replay_0_2 k_cr_Log_replay_0_15) ∧
  Kq cr_Log_replay_0 (.seq .skip k_cr_Log_replay_0_1) := ⟨kr, kr, kr, kr, kr, kr, kr, kr, kr, kr, kr, kr, kr, kr, kr, kr⟩
def c_d5 : CC := (.seq (.reg r_d5_0) (.scope b_Log_replay))
theorem o_d5 : Kq c_d5 (.seq (.reg r_d5_0) (.scope b_Log_replay)) := kr
theorem at_d5 : FnAt Tryz.prog tb fn_d5 c_d5 122 [.tmp 2] := fnAt_of tb_fs Tryz.func57 rfl (by kernel_rfl) (by kernel_rfl) rfl rfl
def k_d7_3 : CC := (.seq (.reg r_d7_3) .ret)
def k_d7_2 : CC := (.seq (.reg r_d7_2) k_d7_3)
def k_d7_1 : CC := (.seq (.reg r_d7_1) k_d7_2)
def c_d7 : CC := (.seq (.reg r_d7_0) k_d7_1)
theorem o_d7 : Kq k_d7_3 (.seq (.reg r_d7_3) .ret) ∧
  Kq k_d7_2 (.seq (.reg r_d7_2) k_d7_3) ∧
  Kq k_d7_1 (.seq (.reg r_d7_1) k_d7_2) ∧
  Kq c_d7 (.seq (.reg r_d7_0) k_d7_1) := ⟨kr, kr, kr, kr⟩
theorem at_d7 : FnAt Tryz.prog tb fn_d7 c_d7 27 [.tmp 6] := fnAt_of tb_fs Tryz.func58 rfl (by kernel_rfl) (by kernel_rfl) rfl rfl
def k_c2_4 : CC := (.seq (.reg r_c2_2) .ret)
def k_c2_3 : CC := (.cond (tm 15) k_c2_4 .skip)
def k_c2_2 : CC := (.seq (.reg r_c2_1) k_c2_3)
def k_c2_5 : CC := (.seq (.reg r_c2_3) .ret)
def k_c2_1 : CC := (.seq k_c2_2 k_c2_5)
def c_c2 : CC := (.seq (.reg r_c2_0) k_c2_1)
theorem o_c2 : Kq k_c2_4 (.seq (.reg r_c2_2) .ret) ∧
  Kq k_c2_3 (.cond (tm 15) k_c2_4 .skip) ∧
  Kq k_c2_2 (.seq (.reg r_c2_1) k_c2_3) ∧
  Kq k_c2_5 (.seq (.reg r_c2_3) .ret) ∧
  Kq k_c2_1 (.seq k_c2_2 k_c2_5) ∧
  Kq c_c2 (.seq (.reg r_c2_0) k_c2_1) := ⟨kr, kr, kr, kr, kr, kr⟩
theorem at_c2 : FnAt Tryz.prog tb fn_c2 c_c2 22 [.tmp 4] := fnAt_of tb_fs Tryz.func59 rfl (by kernel_rfl) (by kernel_rfl) rfl rfl
def k_a2_5 : CC := (.seq (.reg r_a2_3) .ret)
def k_a2_4 : CC := (.cond (tm 10) k_a2_5 .skip)
def k_a2_3 : CC := (.seq (.reg r_a2_2) k_a2_4)
def k_a2_2 : CC := (.seq (.reg r_a2_1) k_a2_3)
def k_a2_6 : CC := (.seq (.reg r_a2_4) .ret)
def k_a2_1 : CC := (.seq k_a2_2 k_a2_6)
def c_a2 : CC := (.seq (.reg r_a2_0) k_a2_1)
theorem o_a2 : Kq k_a2_5 (.seq (.reg r_a2_3) .ret) ∧
  Kq k_a2_4 (.cond (tm 10) k_a2_5 .skip) ∧
  Kq k_a2_3 (.seq (.reg r_a2_2) k_a2_4) ∧
  Kq k_a2_2 (.seq (.reg r_a2_1) k_a2_3) ∧
  Kq k_a2_6 (.seq (.reg r_a2_4) .ret) ∧
  Kq k_a2_1 (.seq k_a2_2 k_a2_6) ∧
  Kq c_a2 (.seq (.reg r_a2_0) k_a2_1) := ⟨kr, kr, kr, kr, kr, kr, kr⟩
theorem at_a2 : FnAt Tryz.prog tb fn_a2 c_a2 23 [.tmp 2] := fnAt_of tb_fs Tryz.func60 rfl (by kernel_rfl) (by kernel_rfl) rfl rfl
def k_g2_5 : CC := (.seq (.reg r_g2_3) .ret)
def k_g2_4 : CC := (.cond (tm 23) k_g2_5 .skip)
def k_g2_3 : CC := (.seq (.reg r_g2_2) k_g2_4)
def k_g2_2 : CC := (.seq (.reg r_g2_1) k_g2_3)
def k_g2_6 : CC := (.seq (.reg r_g2_4) .ret)
def k_g2_1 : CC := (.seq k_g2_2 k_g2_6)
def c_g2 : CC := (.seq (.reg r_g2_0) k_g2_1)
theorem o_g2 : Kq k_g2_5 (.seq (.reg r_g2_3) .ret) ∧
  Kq k_g2_4 (.cond (tm 23) k_g2_5 .skip) ∧
  Kq k_g2_3 (.seq (.reg r_g2_2) k_g2_4) ∧
  Kq k_g2_2 (.seq (.reg r_g2_1) k_g2_3) ∧
  Kq k_g2_6 (.seq (.reg r_g2_4) .ret) ∧
  Kq k_g2_1 (.seq k_g2_2 k_g2_6) ∧
  Kq c_g2 (.seq (.reg r_g2_0) k_g2_1) := ⟨kr, kr, kr, kr, kr, kr, kr⟩
theorem at_g2 : FnAt Tryz.prog tb fn_g2 c_g2 24 [.tmp 2] := fnAt_of tb_fs Tryz.func61 rfl (by kernel_rfl) (by kernel_rfl) rfl rfl
def k_e0_4 : CC := (.seq (.reg r_e0_2) .ret)
def k_e0_3 : CC := (.cond (tm 9) k_e0_4 .skip)
def k_e0_2 : CC := (.seq (.reg r_e0_1) k_e0_3)
def k_e0_9 : CC := (.seq (.reg r_e0_7) .ret)
def k_e0_8 : CC := (.seq (.reg r_e0_6) k_e0_9)
def k_e0_7 : CC := (.seq (.reg r_e0_5) k_e0_8)
def k_e0_6 : CC := (.seq (.reg r_e0_4) k_e0_7)
def k_e0_5 : CC := (.seq (.reg r_e0_3) k_e0_6)
def k_e0_1 : CC := (.seq k_e0_2 k_e0_5)
def c_e0 : CC := (.seq (.reg r_e0_0) k_e0_1)
theorem o_e0 : Kq k_e0_4 (.seq (.reg r_e0_2) .ret) ∧
  Kq k_e0_3 (.cond (tm 9) k_e0_4 .skip) ∧
  Kq k_e0_2 (.seq (.reg r_e0_1) k_e0_3) ∧
  Kq k_e0_9 (.seq (.reg r_e0_7) .ret) ∧
  Kq k_e0_8 (.seq (.reg r_e0_6) k_e0_9) ∧
  Kq k_e0_7 (.seq (.reg r_e0_5) k_e0_8) ∧
  Kq k_e0_6 (.seq (.reg r_e0_4) k_e0_7) ∧
  Kq k_e0_5 (.seq (.reg r_e0_3) k_e0_6) ∧
  Kq k_e0_1 (.seq k_e0_2 k_e0_5) ∧
  Kq c_e0 (.seq (.reg r_e0_0) k_e0_1) := ⟨kr, kr, kr, kr, kr, kr, kr, kr, kr, kr⟩
theorem at_e0 : FnAt Tryz.prog tb fn_e0 c_e0 37 [.tmp 4, .tmp 5] := fnAt_of tb_fs Tryz.func65 rfl (by kernel_rfl) (by kernel_rfl) rfl rfl
def k_c0_5 : CC := (.seq (.reg r_c0_3) .ret)
def k_c0_4 : CC := (.cond (tm 15) k_c0_5 .skip)
def k_c0_3 : CC := (.seq (.reg r_c0_2) k_c0_4)
def k_c0_2 : CC := (.seq (.reg r_c0_1) k_c0_3)
def k_c0_10 : CC := (.seq (.reg r_c0_6) .ret)
def k_c0_9 : CC := (.cond (tm 20) k_c0_10 .skip)
def k_c0_8 : CC := (.seq (.reg r_c0_5) k_c0_9)
def k_c0_7 : CC := (.seq (.reg r_c0_4) k_c0_8)
def k_c0_16 : CC := (.reg r_c0_10)
def k_c0_15 : CC := (.seq (.reg r_c0_9) k_c0_16)
def k_c0_14 : CC := (.cond (tm 30) k_c0_15 .skip)
def k_c0_13 : CC := (.seq (.reg r_c0_8) k_c0_14)
def k_c0_18 : CC := (.seq (.reg r_c0_12) .ret)
def k_c0_17 : CC := (.seq (.drawn r_c0_11 [ (4, 0) , (4, 7) , (4, 8) ]) k_c0_18)
def k_c0_12 : CC := (.seq k_c0_13 k_c0_17)
def k_c0_11 : CC := (.seq (.reg r_c0_7) k_c0_12)
def k_c0_6 : CC := (.seq k_c0_7 k_c0_11)
def k_c0_1 : CC := (.seq k_c0_2 k_c0_6)
def c_c0 : CC := (.seq (.reg r_c0_0) k_c0_1)
theorem o_c0 : Kq k_c0_5 (.seq (.reg r_c0_3) .ret) ∧
  Kq k_c0_4 (.cond (tm 15) k_c0_5 .skip) ∧
  Kq k_c0_3 (.seq (.reg r_c0_2) k_c0_4) ∧
  Kq k_c0_2 (.seq (.reg r_c0_1) k_c0_3) ∧
  Kq k_c0_10 (.seq (.reg r_c0_6) .ret) ∧
  Kq k_c0_9 (.cond (tm 20) k_c0_10 .skip) ∧
  Kq k_c0_8 (.seq (.reg r_c0_5) k_c0_9) ∧
  Kq k_c0_7 (.seq (.reg r_c0_4) k_c0_8) ∧
  Kq k_c0_16 (.reg r_c0_10) ∧
  Kq k_c0_15 (.seq (.reg r_c0_9) k_c0_16) ∧
  Kq k_c0_14 (.cond (tm 30) k_c0_15 .skip) ∧
  Kq k_c0_13 (.seq (.reg r_c0_8) k_c0_14) ∧
  Kq k_c0_18 (.seq (.reg r_c0_12) .ret) ∧
  Kq k_c0_17 (.seq (.drawn r_c0_11 [ (4, 0) , (4, 7) , (4, 8) ]) k_c0_18) ∧
  Kq k_c0_12 (.seq k_c0_13 k_c0_17) ∧
  Kq k_c0_11 (.seq (.reg r_c0_7) k_c0_12) ∧
  Kq k_c0_6 (.seq k_c0_7 k_c0_11) ∧
  Kq k_c0_1 (.seq k_c0_2 k_c0_6) ∧
  Kq c_c0 (.seq (.reg r_c0_0) k_c0_1) := ⟨kr, kr, kr, kr, kr, kr, kr, kr, kr, kr, kr, kr, kr, kr, kr, kr, kr, kr, kr⟩
theorem at_c0 : FnAt Tryz.prog tb fn_c0 c_c0 59 [.tmp 6] := fnAt_of tb_fs Tryz.func66 rfl (by kernel_rfl) (by kernel_rfl) rfl rfl
def k_b7_4 : CC := (.seq (.reg r_b7_2) .ret)
def k_b7_3 : CC := (.cond (tm 6) k_b7_4 .skip)
def k_b7_2 : CC := (.seq (.reg r_b7_1) k_b7_3)
def k_b7_9 : CC := (.seq (.reg r_b7_5) .ret)
def k_b7_8 : CC := (.cond (tm 10) k_b7_9 .skip)
def k_b7_7 : CC := (.seq (.reg r_b7_4) k_b7_8)
def k_b7_6 : CC := (.seq (.reg r_b7_3) k_b7_7)
def k_b7_16 : CC := (.cond (tm 18) .skip (.exit 0))
def k_b7_20 : CC := (.drawn r_b7_9 [ (3, 0) , (9, 0) , (13, 0) ])
def k_b7_19 : CC := (.seq (.reg r_b7_8) k_b7_20)
def k_b7_18 : CC := (.block 1 k_b7_19)
def k_b7_21 : CC := (.reg r_b7_10)
def k_b7_17 : CC := (.seq k_b7_18 k_b7_21)
def k_b7_15 : CC := (.seq k_b7_16 k_b7_17)
def k_b7_14 : CC := (.seq (.reg r_b7_7) k_b7_15)
def k_b7_13 : CC := (.loop k_b7_14)
def k_b7_12 : CC := (.block 0 k_b7_13)
def k_b7_11 : CC := (.seq (.reg r_b7_6) k_b7_12)
def k_b7_22 : CC := (.seq (.reg r_b7_11) .ret)
def k_b7_10 : CC := (.seq k_b7_11 k_b7_22)
def k_b7_5 : CC := (.seq k_b7_6 k_b7_10)
def k_b7_1 : CC := (.seq k_b7_2 k_b7_5)
def c_b7 : CC := (.seq (.reg r_b7_0) k_b7_1)
theorem o_b7 : Kq k_b7_4 (.seq (.reg r_b7_2) .ret) ∧
  Kq k_b7_3 (.cond (tm 6) k_b7_4 .skip) ∧
  Kq k_b7_2 (.seq (.reg r_b7_1) k_b7_3) ∧
  Kq k_b7_9 (.seq (.reg r_b7_5) .ret) ∧
  Kq k_b7_8 (.cond (tm 10) k_b7_9 .skip) ∧
  Kq k_b7_7 (.seq (.reg r_b7_4) k_b7_8) ∧
  Kq k_b7_6 (.seq (.reg r_b7_3) k_b7_7) ∧
  Kq k_b7_16 (.cond (tm 18) .skip (.exit 0)) ∧
  Kq k_b7_20 (.drawn r_b7_9 [ (3, 0) , (9, 0) , (13, 0) ]) ∧
  Kq k_b7_19 (.seq (.reg r_b7_8) k_b7_20) ∧
  Kq k_b7_18 (.block 1 k_b7_19) ∧
  Kq k_b7_21 (.reg r_b7_10) ∧
  Kq k_b7_17 (.seq k_b7_18 k_b7_21) ∧
  Kq k_b7_15 (.seq k_b7_16 k_b7_17) ∧
  Kq k_b7_14 (.seq (.reg r_b7_7) k_b7_15) ∧
  Kq k_b7_13 (.loop k_b7_14) ∧
  Kq k_b7_12 (.block 0 k_b7_13) ∧
  Kq k_b7_11 (.seq (.reg r_b7_6) k_b7_12) ∧
  Kq k_b7_22 (.seq (.reg r_b7_11) .ret) ∧
  Kq k_b7_10 (.seq k_b7_11 k_b7_22) ∧
  Kq k_b7_5 (.seq k_b7_6 k_b7_10) ∧
  Kq k_b7_1 (.seq k_b7_2 k_b7_5) ∧
  Kq c_b7 (.seq (.reg r_b7_0) k_b7_1) := ⟨kr, kr, kr, kr, kr, kr, kr, kr, kr, kr, kr, kr, kr, kr, kr, kr, kr, kr, kr, kr, kr, kr, kr⟩
theorem at_b7 : FnAt Tryz.prog tb fn_b7 c_b7 37 [.tmp 2] := fnAt_of tb_fs Tryz.func67 rfl (by kernel_rfl) (by kernel_rfl) rfl rfl
def k_c4_5 : CC := (.seq (.reg r_c4_2) .ret)
def k_c4_8 : CC := (.seq (.reg r_c4_4) .ret)
def k_c4_11 : CC := (.seq (.reg r_c4_6) .ret)
def k_c4_10 : CC := (.cond (tm 15) k_c4_11 .skip)
def k_c4_9 : CC := (.seq (.reg r_c4_5) k_c4_10)
def k_c4_7 : CC := (.cond (tm 10) k_c4_8 k_c4_9)
def k_c4_6 : CC := (.seq (.reg r_c4_3) k_c4_7)
def k_c4_4 : CC := (.cond (tm 7) k_c4_5 k_c4_6)
def k_c4_3 : CC := (.seq (.reg r_c4_1) k_c4_4)
def k_c4_2 : CC := (.block 0 k_c4_3)
def k_c4_12 : CC := (.seq (.reg r_c4_7) .ret)
def k_c4_1 : CC := (.seq k_c4_2 k_c4_12)
def c_c4 : CC := (.seq (.reg r_c4_0) k_c4_1)
theorem o_c4 : Kq k_c4_5 (.seq (.reg r_c4_2) .ret) ∧
  Kq k_c4_8 (.seq (.reg r_c4_4) .ret) ∧
  Kq k_c4_11 (.seq (.reg r_c4_6) .ret) ∧
  Kq k_c4_10 (.cond (tm 15) k_c4_11 .skip) ∧
  Kq k_c4_9 (.seq (.reg r_c4_5) k_c4_10) ∧
  Kq k_c4_7 (.cond (tm 10) k_c4_8 k_c4_9) ∧
  Kq k_c4_6 (.seq (.reg r_c4_3) k_c4_7) ∧
  Kq k_c4_4 (.cond (tm 7) k_c4_5 k_c4_6) ∧
  Kq k_c4_3 (.seq (.reg r_c4_1) k_c4_4) ∧
  Kq k_c4_2 (.block 0 k_c4_3) ∧
  Kq k_c4_12 (.seq (.reg r_c4_7) .ret) ∧
  Kq k_c4_1 (.seq k_c4_2 k_c4_12) ∧
  Kq c_c4 (.seq (.reg r_c4_0) k_c4_1) := ⟨kr, kr, kr, kr, kr, kr, kr, kr, kr, kr, kr, kr, kr⟩
theorem at_c4 : FnAt Tryz.prog tb fn_c4 c_c4 23 [.tmp 6] := fnAt_of tb_fs Tryz.func79 rfl (by kernel_rfl) (by kernel_rfl) rfl rfl
def k_d3_8 : CC := (.cond (tm 12) .skip (.exit 0))
def k_d3_12 : CC := (.reg r_d3_5)
def k_d3_11 : CC := (.seq (.reg r_d3_4) k_d3_12)
def k_d3_10 : CC := (.block 1 k_d3_11)
def k_d3_13 : CC := (.reg r_d3_6)
def k_d3_9 : CC := (.seq k_d3_10 k_d3_13)
def k_d3_7 : CC := (.seq k_d3_8 k_d3_9)
def k_d3_6 : CC := (.seq (.reg r_d3_3) k_d3_7)
def k_d3_5 : CC := (.loop k_d3_6)
def k_d3_4 : CC := (.block 0 k_d3_5)
def k_d3_3 : CC := (.seq (.reg r_d3_2) k_d3_4)
def k_d3_14 : CC := (.seq (.drawn r_d3_7 [ (1, 0) , (12, 0) , (12, 8) , (22, 8) , (22, 18) ]) .ret)
def k_d3_2 : CC := (.seq k_d3_3 k_d3_14)
def k_d3_1 : CC := (.seq (.reg r_d3_1) k_d3_2)
def c_d3 : CC := (.seq (.reg r_d3_0) k_d3_1)
theorem o_d3 : Kq k_d3_8 (.cond (tm 12) .skip (.exit 0)) ∧
  Kq k_d3_12 (.reg r_d3_5) ∧
  Kq k_d3_11 (.seq (.reg r_d3_4) k_d3_12) ∧
  Kq k_d3_10 (.block 1 k_d3_11) ∧
  Kq k_d3_13 (.reg r_d3_6) ∧
  Kq k_d3_9 (.seq k_d3_10 k_d3_13) ∧
  Kq k_d3_7 (.seq k_d3_8 k_d3_9) ∧
  Kq k_d3_6 (.seq (.reg r_d3_3) k_d3_7) ∧
  Kq k_d3_5 (.loop k_d3_6) ∧
  Kq k_d3_4 (.block 0 k_d3_5) ∧
  Kq k_d3_3 (.seq (.reg r_d3_2) k_d3_4) ∧
  Kq k_d3_14 (.seq (.drawn r_d3_7 [ (1, 0) , (12, 0) , (12, 8) , (22, 8) , (22, 18) ]) .ret) ∧
  Kq k_d3_2 (.seq k_d3_3 k_d3_14) ∧
  Kq k_d3_1 (.seq (.reg r_d3_1) k_d3_2) ∧
  Kq c_d3 (.seq (.reg r_d3_0) k_d3_1) := ⟨kr, kr, kr, kr, kr, kr, kr, kr, kr, kr, kr, kr, kr, kr, kr⟩
theorem at_d3 : FnAt Tryz.prog tb fn_d3 c_d3 44 [.tmp 4] := fnAt_of tb_fs Tryz.func86 rfl (by kernel_rfl) (by kernel_rfl) rfl rfl
def k_a5_5 : CC := (.cond (tm 9) .skip (.exit 0))
def k_a5_4 : CC := (.seq (.reg r_a5_1) k_a5_5)
def k_a5_10 : CC := (.cond (tm 30) .ret .skip)
def k_a5_9 : CC := (.seq (.reg r_a5_4) k_a5_10)
def k_a5_8 : CC := (.seq (.drawn r_a5_3 [ (0, 0) , (1, 0) , (3, 0) ]) k_a5_9)
def k_a5_7 : CC := (.block 1 k_a5_8)
def k_a5_11 : CC := (.reg r_a5_2)
def k_a5_6 : CC := (.seq k_a5_7 k_a5_11)
def k_a5_3 : CC := (.seq k_a5_4 k_a5_6)
def k_a5_2 : CC := (.loop k_a5_3)
def k_a5_1 : CC := (.block 0 k_a5_2)
def c_a5 : CC := (.seq (.reg r_a5_0) k_a5_1)
theorem o_a5 : Kq k_a5_5 (.cond (tm 9) .skip (.exit 0)) ∧
  Kq k_a5_4 (.seq (.reg r_a5_1) k_a5_5) ∧
  Kq k_a5_10 (.cond (tm 30) .ret .skip) ∧
  Kq k_a5_9 (.seq (.reg r_a5_4) k_a5_10) ∧
  Kq k_a5_8 (.seq (.drawn r_a5_3 [ (0, 0) , (1, 0) , (3, 0) ]) k_a5_9) ∧
  Kq k_a5_7 (.block 1 k_a5_8) ∧
  Kq k_a5_11 (.reg r_a5_2) ∧
  Kq k_a5_6 (.seq k_a5_7 k_a5_11) ∧
  Kq k_a5_3 (.seq k_a5_4 k_a5_6) ∧
  Kq k_a5_2 (.loop k_a5_3) ∧
  Kq k_a5_1 (.block 0 k_a5_2) ∧
  Kq c_a5 (.seq (.reg r_a5_0) k_a5_1) := ⟨kr, kr, kr, kr, kr, kr, kr, kr, kr, kr, kr, kr⟩
theorem at_a5 : FnAt Tryz.prog tb fn_a5 c_a5 31 [] := fnAt_of tb_fs Tryz.func87 rfl (by kernel_rfl) (by kernel_rfl) rfl rfl
def k_d9_4 : CC := (.seq (.reg r_d9_2) .ret)
def k_d9_3 : CC := (.cond (tm 14) k_d9_4 .skip)
def k_d9_2 : CC := (.seq (.reg r_d9_1) k_d9_3)
def k_d9_13 : CC := (.seq (.drawn r_d9_8 [ (3, 0) ]) .ret)
def k_d9_16 : CC := (.seq (.reg r_d9_10) .ret)
def k_d9_15 : CC := (.cond (tm 38) k_d9_16 .skip)
def k_d9_14 : CC := (.seq (.reg r_d9_9) k_d9_15)
def k_d9_12 : CC := (.cond (tm 28) k_d9_13 k_d9_14)
def k_d9_11 : CC := (.seq (.reg r_d9_7) k_d9_12)
def k_d9_10 : CC := (.block 0 k_d9_11)
def k_d9_20 : CC := (.seq (.reg r_d9_14) .ret)
def k_d9_19 : CC := (.seq (.reg r_d9_13) k_d9_20)
def k_d9_18 : CC := (.seq (.reg r_d9_12) k_d9_19)
def k_d9_17 : CC := (.seq (.reg r_d9_11) k_d9_18)
def k_d9_9 : CC := (.seq k_d9_10 k_d9_17)
def k_d9_8 : CC := (.seq (.reg r_d9_6) k_d9_9)
def k_d9_7 : CC := (.seq (.reg r_d9_5) k_d9_8)
def k_d9_6 : CC := (.seq (.reg r_d9_4) k_d9_7)
def k_d9_5 : CC := (.seq (.reg r_d9_3) k_d9_6)
def k_d9_1 : CC := (.seq k_d9_2 k_d9_5)
def c_d9 : CC := (.seq (.reg r_d9_0) k_d9_1)
theorem o_d9 : Kq k_d9_4 (.seq (.reg r_d9_2) .ret) ∧
  Kq k_d9_3 (.cond (tm 14) k_d9_4 .skip) ∧
  Kq k_d9_2 (.seq (.reg r_d9_1) k_d9_3) ∧
  Kq k_d9_13 (.seq (.drawn r_d9_8 [ (3, 0) ]) .ret) ∧
  Kq k_d9_16 (.seq (.reg r_d9_10) .ret) ∧
  Kq k_d9_15 (.cond (tm 38) k_d9_16 .skip) ∧
  Kq k_d9_14 (.seq (.reg r_d9_9) k_d9_15) ∧
  Kq k_d9_12 (.cond (tm 28) k_d9_13 k_d9_14) ∧
  Kq k_d9_11 (.seq (.reg r_d9_7) k_d9_12) ∧
  Kq k_d9_10 (.block 0 k_d9_11) ∧
  Kq k_d9_20 (.seq (.reg r_d9_14) .ret) ∧
  Kq k_d9_19 (.seq (.reg r_d9_13) k_d9_20) ∧
  Kq k_d9_18 (.seq (.reg r_d9_12) k_d9_19) ∧
  Kq k_d9_17 (.seq (.reg r_d9_11) k_d9_18) ∧
  Kq k_d9_9 (.seq k_d9_10 k_d9_17) ∧
  Kq k_d9_8 (.seq (.reg r_d9_6) k_d9_9) ∧
  Kq k_d9_7 (.seq (.reg r_d9_5) k_d9_8) ∧
  Kq k_d9_6 (.seq (.reg r_d9_4) k_d9_7) ∧
  Kq k_d9_5 (.seq (.reg r_d9_3) k_d9_6) ∧
  Kq k_d9_1 (.seq k_d9_2 k_d9_5) ∧
  Kq c_d9 (.seq (.reg r_d9_0) k_d9_1) := ⟨kr, kr, kr, kr, kr, kr, kr, kr, kr, kr, kr, kr, kr, kr, kr, kr, kr, kr, kr, kr, kr⟩
theorem at_d9 : FnAt Tryz.prog tb fn_d9 c_d9 65 [.tmp 6, .tmp 7] := fnAt_of tb_fs Tryz.func88 rfl (by kernel_rfl) (by kernel_rfl) rfl rfl
def k_d1_1 : CC := (.seq (.drawn r_d1_1 [ (4, 0) , (9, 0) , (16, 0) ]) .ret)
def c_d1 : CC := (.seq (.reg r_d1_0) k_d1_1)
theorem o_d1 : Kq k_d1_1 (.seq (.drawn r_d1_1 [ (4, 0) , (9, 0) , (16, 0) ]) .ret) ∧
  Kq c_d1 (.seq (.reg r_d1_0) k_d1_1) := ⟨kr, kr⟩
theorem at_d1 : FnAt Tryz.prog tb fn_d1 c_d1 24 [.tmp 4] := fnAt_of tb_fs Tryz.func89 rfl (by kernel_rfl) (by kernel_rfl) rfl rfl
def k_b3_4 : CC := (.seq (.reg r_b3_2) .ret)
def k_b3_3 : CC := (.cond (tm 4) k_b3_4 .skip)
def k_b3_2 : CC := (.seq (.reg r_b3_1) k_b3_3)
def k_b3_5 : CC := (.seq (.reg r_b3_3) .ret)
def k_b3_1 : CC := (.seq k_b3_2 k_b3_5)
def c_b3 : CC := (.seq (.reg r_b3_0) k_b3_1)
theorem o_b3 : Kq k_b3_4 (.seq (.reg r_b3_2) .ret) ∧
  Kq k_b3_3 (.cond (tm 4) k_b3_4 .skip) ∧
  Kq k_b3_2 (.seq (.reg r_b3_1) k_b3_3) ∧
  Kq k_b3_5 (.seq (.reg r_b3_3) .ret) ∧
  Kq k_b3_1 (.seq k_b3_2 k_b3_5) ∧
  Kq c_b3 (.seq (.reg r_b3_0) k_b3_1) := ⟨kr, kr, kr, kr, kr, kr⟩
theorem at_b3 : FnAt Tryz.prog tb fn_b3 c_b3 9 [.tmp 2] := fnAt_of tb_fs Tryz.func93 rfl (by kernel_rfl) (by kernel_rfl) rfl rfl
def k_b4_4 : CC := (.seq (.reg r_b4_2) .ret)
def k_b4_3 : CC := (.cond (tm 4) k_b4_4 .skip)
def k_b4_2 : CC := (.seq (.reg r_b4_1) k_b4_3)
def k_b4_5 : CC := (.seq (.reg r_b4_3) .ret)
def k_b4_1 : CC := (.seq k_b4_2 k_b4_5)
def c_b4 : CC := (.seq (.reg r_b4_0) k_b4_1)
theorem o_b4 : Kq k_b4_4 (.seq (.reg r_b4_2) .ret) ∧
  Kq k_b4_3 (.cond (tm 4) k_b4_4 .skip) ∧
  Kq k_b4_2 (.seq (.reg r_b4_1) k_b4_3) ∧
  Kq k_b4_5 (.seq (.reg r_b4_3) .ret) ∧
  Kq k_b4_1 (.seq k_b4_2 k_b4_5) ∧
  Kq c_b4 (.seq (.reg r_b4_0) k_b4_1) := ⟨kr, kr, kr, kr, kr, kr⟩
theorem at_b4 : FnAt Tryz.prog tb fn_b4 c_b4 10 [.tmp 2] := fnAt_of tb_fs Tryz.func94 rfl (by kernel_rfl) (by kernel_rfl) rfl rfl
def k_e3_1 : CC := (.seq (.reg r_e3_1) .ret)
def c_e3 : CC := (.seq (.reg r_e3_0) k_e3_1)
theorem o_e3 : Kq k_e3_1 (.seq (.reg r_e3_1) .ret) ∧
  Kq c_e3 (.seq (.reg r_e3_0) k_e3_1) := ⟨kr, kr⟩
theorem at_e3 : FnAt Tryz.prog tb fn_e3 c_e3 16 [.tmp 2] := fnAt_of tb_fs Tryz.func95 rfl (by kernel_rfl) (by kernel_rfl) rfl rfl
def k_a9_5 : CC := (.cond (tm 11) .skip (.exit 0))
def k_a9_9 : CC := (.reg r_a9_3)
def k_a9_8 : CC := (.seq (.reg r_a9_2) k_a9_9)
def k_a9_7 : CC := (.block 1 k_a9_8)
def k_a9_10 : CC := (.reg r_a9_4)
def k_a9_6 : CC := (.seq k_a9_7 k_a9_10)
def k_a9_4 : CC := (.seq k_a9_5 k_a9_6)
def k_a9_3 : CC := (.seq (.reg r_a9_1) k_a9_4)
def k_a9_2 : CC := (.loop k_a9_3)
def k_a9_1 : CC := (.block 0 k_a9_2)
def c_a9 : CC := (.seq (.reg r_a9_0) k_a9_1)
theorem o_a9 : Kq k_a9_5 (.cond (tm 11) .skip (.exit 0)) ∧
  Kq k_a9_9 (.reg r_a9_3) ∧
  Kq k_a9_8 (.seq (.reg r_a9_2) k_a9_9) ∧
  Kq k_a9_7 (.block 1 k_a9_8) ∧
  Kq k_a9_10 (.reg r_a9_4) ∧
  Kq k_a9_6 (.seq k_a9_7 k_a9_10) ∧
  Kq k_a9_4 (.seq k_a9_5 k_a9_6) ∧
  Kq k_a9_3 (.seq (.reg r_a9_1) k_a9_4) ∧
  Kq k_a9_2 (.loop k_a9_3) ∧
  Kq k_a9_1 (.block 0 k_a9_2) ∧
  Kq c_a9 (.seq (.reg r_a9_0) k_a9_1) := ⟨kr, kr, kr, kr, kr, kr, kr, kr, kr, kr, kr⟩
theorem at_a9 : FnAt Tryz.prog tb fn_a9 c_a9 20 [] := fnAt_of tb_fs Tryz.func96 rfl (by kernel_rfl) (by kernel_rfl) rfl rfl
def k_e4_5 : CC := (.seq (.reg r_e4_3) .ret)
def k_e4_4 : CC := (.seq (.reg r_e4_2) k_e4_5)
def k_e4_3 : CC := (.cond (tm 18) k_e4_4 .skip)
def k_e4_2 : CC := (.seq (.reg r_e4_1) k_e4_3)
def k_e4_6 : CC := (.seq (.reg r_e4_4) .ret)
def k_e4_1 : CC := (.seq k_e4_2 k_e4_6)
def c_e4 : CC := (.seq (.reg r_e4_0) k_e4_1)
theorem o_e4 : Kq k_e4_5 (.seq (.reg r_e4_3) .ret) ∧
  Kq k_e4_4 (.seq (.reg r_e4_2) k_e4_5) ∧
  Kq k_e4_3 (.cond (tm 18) k_e4_4 .skip) ∧
  Kq k_e4_2 (.seq (.reg r_e4_1) k_e4_3) ∧
  Kq k_e4_6 (.seq (.reg r_e4_4) .ret) ∧
  Kq k_e4_1 (.seq k_e4_2 k_e4_6) ∧
  Kq c_e4 (.seq (.reg r_e4_0) k_e4_1) := ⟨kr, kr, kr, kr, kr, kr, kr⟩
theorem at_e4 : FnAt Tryz.prog tb fn_e4 c_e4 21 [.cell 8 ty_api_Header, .tmp 9] := fnAt_of tb_fs Tryz.func97 rfl (by kernel_rfl) (by kernel_rfl) rfl rfl
def k_e1_4 : CC := (.seq (.reg r_e1_2) .ret)
def k_e1_3 : CC := (.cond (tm 12) k_e1_4 .skip)
def k_e1_2 : CC := (.seq (.reg r_e1_1) k_e1_3)
def k_e1_11 : CC := (.seq (.reg r_e1_7) .ret)
def k_e1_10 : CC := (.cond (tm 26) k_e1_11 .skip)
def k_e1_9 : CC := (.seq (.reg r_e1_6) k_e1_10)
def k_e1_18 : CC := (.cond (tm 29) .skip (.exit 0))
def k_e1_21 : CC := (.drawn r_e1_10 [ (1, 0) , (1, 4) , (1, 5) ])
def k_e1_20 : CC := (.block 1 k_e1_21)
def k_e1_22 : CC := (.reg r_e1_11)
def k_e1_19 : CC := (.seq k_e1_20 k_e1_22)
def k_e1_17 : CC := (.seq k_e1_18 k_e1_19)
def k_e1_16 : CC := (.seq (.reg r_e1_9) k_e1_17)
def k_e1_15 : CC := (.loop k_e1_16)
def k_e1_14 : CC := (.block 0 k_e1_15)
def k_e1_13 : CC := (.seq (.reg r_e1_8) k_e1_14)
def k_e1_25 : CC := (.seq (.drawn r_e1_14 [ (1, 0) , (3, 0) ]) .ret)
def k_e1_24 : CC := (.seq (.reg r_e1_13) k_e1_25)
def k_e1_23 : CC := (.seq (.reg r_e1_12) k_e1_24)
def k_e1_12 : CC := (.seq k_e1_13 k_e1_23)
def k_e1_8 : CC := (.seq k_e1_9 k_e1_12)
def k_e1_7 : CC := (.seq (.reg r_e1_5) k_e1_8)
def k_e1_6 : CC := (.seq (.reg r_e1_4) k_e1_7)
def k_e1_5 : CC := (.seq (.reg r_e1_3) k_e1_6)
def k_e1_1 : CC := (.seq k_e1_2 k_e1_5)
def c_e1 : CC := (.seq (.reg r_e1_0) k_e1_1)
theorem o_e1 : Kq k_e1_4 (.seq (.reg r_e1_2) .ret) ∧
  Kq k_e1_3 (.cond (tm 12) k_e1_4 .skip) ∧
  Kq k_e1_2 (.seq (.reg r_e1_1) k_e1_3) ∧
  Kq k_e1_11 (.seq (.reg r_e1_7) .ret) ∧
  Kq k_e1_10 (.cond (tm 26) k_e1_11 .skip) ∧
  Kq k_e1_9 (.seq (.reg r_e1_6) k_e1_10) ∧
  Kq k_e1_18 (.cond (tm 29) .skip (.exit 0)) ∧
  Kq k_e1_21 (.drawn r_e1_10 [ (1, 0) , (1, 4) , (1, 5) ]) ∧
  Kq k_e1_20 (.block 1 k_e1_21) ∧
  Kq k_e1_22 (.reg r_e1_11) ∧
  Kq k_e1_19 (.seq k_e1_20 k_e1_22) ∧
  Kq k_e1_17 (.seq k_e1_18 k_e1_19) ∧
  Kq k_e1_16 (.seq (.reg r_e1_9) k_e1_17) ∧
  Kq k_e1_15 (.loop k_e1_16) ∧
  Kq k_e1_14 (.block 0 k_e1_15) ∧
  Kq k_e1_13 (.seq (.reg r_e1_8) k_e1_14) ∧
  Kq k_e1_25 (.seq (.drawn r_e1_14 [ (1, 0) , (3, 0) ]) .ret) ∧
  Kq k_e1_24 (.seq (.reg r_e1_13) k_e1_25) ∧
  Kq k_e1_23 (.seq (.reg r_e1_12) k_e1_24) ∧
  Kq k_e1_12 (.seq k_e1_13 k_e1_23) ∧
  Kq k_e1_8 (.seq k_e1_9 k_e1_12) ∧
  Kq k_e1_7 (.seq (.reg r_e1_5) k_e1_8) ∧
  Kq k_e1_6 (.seq (.reg r_e1_4) k_e1_7) ∧
  Kq k_e1_5 (.seq (.reg r_e1_3) k_e1_6) ∧
  Kq k_e1_1 (.seq k_e1_2 k_e1_5) ∧
  Kq c_e1 (.seq (.reg r_e1_0) k_e1_1) := ⟨kr, kr, kr, kr, kr, kr, kr, kr, kr, kr, kr, kr, kr, kr, kr, kr, kr, kr, kr, kr, kr, kr, kr, kr, kr, kr⟩
theorem at_e1 : FnAt Tryz.prog tb fn_e1 c_e1 61 [.tmp 2, .tmp 3, .tmp 4] := fnAt_of tb_fs Tryz.func98 rfl (by kernel_rfl) (by kernel_rfl) rfl rfl
def k_g3_10 : CC := (.reg r_g3_4)
def k_g3_9 : CC := (.cond (tm 13) .skip k_g3_10)
def k_g3_8 : CC := (.seq (.reg r_g3_3) k_g3_9)
def k_g3_7 : CC := (.cond (tm 13) .skip k_g3_8)
def k_g3_6 : CC := (.seq (.reg r_g3_2) k_g3_7)
def k_g3_5 : CC := (.cond (tm 13) .skip k_g3_6)
def k_g3_4 : CC := (.seq (.reg r_g3_1) k_g3_5)
def k_g3_12 : CC := (.seq (.reg r_g3_5) .ret)
def k_g3_15 : CC := (.seq (.reg r_g3_7) .ret)
def k_g3_14 : CC := (.cond (tm 33) k_g3_15 .skip)
def k_g3_13 : CC := (.seq (.reg r_g3_6) k_g3_14)
def k_g3_11 : CC := (.cond (tm 13) k_g3_12 k_g3_13)
def k_g3_3 : CC := (.seq k_g3_4 k_g3_11)
def k_g3_2 : CC := (.block 0 k_g3_3)
def k_g3_25 : CC := (.seq (.reg r_g3_15) .ret)
def k_g3_24 : CC := (.cond (tm 84) k_g3_25 .skip)
def k_g3_23 : CC := (.seq (.reg r_g3_14) k_g3_24)
def k_g3_26 : CC := (.seq (.reg r_g3_16) .ret)
def k_g3_22 : CC := (.seq k_g3_23 k_g3_26)
def k_g3_21 : CC := (.seq (.reg r_g3_13) k_g3_22)
def k_g3_20 : CC := (.seq (.drawn r_g3_12 [ (5, 0) , (5, 3) , (9, 0) , (9, 3) , (9, 7) , (13, 0) , (13, 3) , (13, 7) , (13, 11) ]) k_g3_21)
def k_g3_19 : CC := (.seq (.reg r_g3_11) k_g3_20)
def k_g3_18 : CC := (.seq (.reg r_g3_10) k_g3_19)
def k_g3_17 : CC := (.seq (.reg r_g3_9) k_g3_18)
def k_g3_16 : CC := (.seq (.reg r_g3_8) k_g3_17)
def k_g3_1 : CC := (.seq k_g3_2 k_g3_16)
def c_g3 : CC := (.seq (.reg r_g3_0) k_g3_1)
theorem o_g3 : Kq k_g3_10 (.reg r_g3_4) ∧
  Kq k_g3_9 (.cond (tm 13) .skip k_g3_10) ∧
  Kq k_g3_8 (.seq (.reg r_g3_3) k_g3_9) ∧
  Kq k_g3_7 (.cond (tm 13) .skip k_g3_8) ∧
  Kq k_g3_6 (.seq (.reg r_g3_2) k_g3_7) ∧
  Kq k_g3_5 (.cond (tm 13) .skip k_g3_6) ∧
  Kq k_g3_4 (.seq (.reg r_g3_1) k_g3_5) ∧
  Kq k_g3_12 (.seq (.reg r_g3_5) .ret) ∧
  Kq k_g3_15 (.seq (.reg r_g3_7) .ret) ∧
  Kq k_g3_14 (.cond (tm 33) k_g3_15 .skip) ∧
  Kq k_g3_13 (.seq (.reg r_g3_6) k_g3_14) ∧
  Kq k_g3_11 (.cond (tm 13) k_g3_12 k_g3_13) ∧
  Kq k_g3_3 (.seq k_g3_4 k_g3_11) ∧
  Kq k_g3_2 (.block 0 k_g3_3) ∧
  Kq k_g3_25 (.seq (.reg r_g3_15) .ret) ∧
  Kq k_g3_24 (.cond (tm 84) k_g3_25 .skip) ∧
  Kq k_g3_23 (.seq (.reg r_g3_14) k_g3_24) ∧
  Kq k_g3_26 (.seq (.reg r_g3_16) .ret) ∧
  Kq k_g3_22 (.seq k_g3_23 k_g3_26) ∧
  Kq k_g3_21 (.seq (.reg r_g3_13) k_g3_22) ∧
  Kq k_g3_20 (.seq (.drawn r_g3_12 [ (5, 0) , (5, 3) , (9, 0) , (9, 3) , (9, 7) , (13, 0) , (13, 3) , (13, 7) , (13, 11) ]) k_g3_21) ∧
  Kq k_g3_19 (.seq (.reg r_g3_11) k_g3_20) ∧
  Kq k_g3_18 (.seq (.reg r_g3_10) k_g3_19) ∧
  Kq k_g3_17 (.seq (.reg r_g3_9) k_g3_18) ∧
  Kq k_g3_16 (.seq (.reg r_g3_8) k_g3_17) ∧
  Kq k_g3_1 (.seq k_g3_2 k_g3_16) ∧
  Kq c_g3 (.seq (.reg r_g3_0) k_g3_1) := ⟨kr, kr, kr, kr, kr, kr, kr, kr, kr, kr, kr, kr, kr, kr, kr, kr, kr, kr, kr, kr, kr, kr, kr, kr, kr, kr, kr⟩
theorem at_g3 : FnAt Tryz.prog tb fn_g3 c_g3 87 [.cell 8 ty_api_Plan, .tmp 9] := fnAt_of tb_fs Tryz.func99 rfl (by kernel_rfl) (by kernel_rfl) rfl rfl
def k_b0_4 : CC := (.reg r_b0_2)
def k_b0_3 : CC := (.cond (tm 24) k_b0_4 .skip)
def k_b0_2 : CC := (.seq (.reg r_b0_1) k_b0_3)
def k_b0_5 : CC := (.reg r_b0_3)
def k_b0_1 : CC := (.seq k_b0_2 k_b0_5)
def c_b0 : CC := (.seq (.reg r_b0_0) k_b0_1)
theorem o_b0 : Kq k_b0_4 (.reg r_b0_2) ∧
  Kq k_b0_3 (.cond (tm 24) k_b0_4 .skip) ∧
  Kq k_b0_2 (.seq (.reg r_b0_1) k_b0_3) ∧
  Kq k_b0_5 (.reg r_b0_3) ∧
  Kq k_b0_1 (.seq k_b0_2 k_b0_5) ∧
  Kq c_b0 (.seq (.reg r_b0_0) k_b0_1) := ⟨kr, kr, kr, kr, kr, kr⟩
theorem at_b0 : FnAt Tryz.prog tb fn_b0 c_b0 38 [] := fnAt_of tb_fs Tryz.func100 rfl (by kernel_rfl) (by kernel_rfl) rfl rfl
def k_b1_5 : CC := (.cond (tm 11) .skip (.exit 0))
def k_b1_9 : CC := (.reg r_b1_3)
def k_b1_8 : CC := (.seq (.reg r_b1_2) k_b1_9)
def k_b1_7 : CC := (.block 1 k_b1_8)
def k_b1_10 : CC := (.reg r_b1_4)
def k_b1_6 : CC := (.seq k_b1_7 k_b1_10)
def k_b1_4 : CC := (.seq k_b1_5 k_b1_6)
def k_b1_3 : CC := (.seq (.reg r_b1_1) k_b1_4)
def k_b1_2 : CC := (.loop k_b1_3)
def k_b1_1 : CC := (.block 0 k_b1_2)
def c_b1 : CC := (.seq (.reg r_b1_0) k_b1_1)
theorem o_b1 : Kq k_b1_5 (.cond (tm 11) .skip (.exit 0)) ∧
  Kq k_b1_9 (.reg r_b1_3) ∧
  Kq k_b1_8 (.seq (.reg r_b1_2) k_b1_9) ∧
  Kq k_b1_7 (.block 1 k_b1_8) ∧
  Kq k_b1_10 (.reg r_b1_4) ∧
  Kq k_b1_6 (.seq k_b1_7 k_b1_10) ∧
  Kq k_b1_4 (.seq k_b1_5 k_b1_6) ∧
  Kq k_b1_3 (.seq (.reg r_b1_1) k_b1_4) ∧
  Kq k_b1_2 (.loop k_b1_3) ∧
  Kq k_b1_1 (.block 0 k_b1_2) ∧
  Kq c_b1 (.seq (.reg r_b1_0) k_b1_1) := ⟨kr, kr, kr, kr, kr, kr, kr, kr, kr, kr, kr⟩
theorem at_b1 : FnAt Tryz.prog tb fn_b1 c_b1 19 [] := fnAt_of tb_fs Tryz.func101 rfl (by kernel_rfl) (by kernel_rfl) rfl rfl
def k_e6_1 : CC := (.seq (.reg r_e6_1) .ret)
def c_e6 : CC := (.seq (.reg r_e6_0) k_e6_1)
theorem o_e6 : Kq k_e6_1 (.seq (.reg r_e6_1) .ret) ∧
  Kq c_e6 (.seq (.reg r_e6_0) k_e6_1) := ⟨kr, kr⟩
theorem at_e6 : FnAt Tryz.prog tb fn_e6 c_e6 6 [.tmp 2] := fnAt_of tb_fs Tryz.func102 rfl (by kernel_rfl) (by kernel_rfl) rfl rfl
def k_b2_4 : CC := (.seq (.drawn r_b2_2 [ (3, 0) ]) .ret)
def k_b2_3 : CC := (.cond (tm 10) k_b2_4 .skip)
def k_b2_2 : CC := (.seq (.reg r_b2_1) k_b2_3)
def k_b2_5 : CC := (.seq (.drawn r_b2_3 [ (3, 0) , (8, 0) ]) .ret)
def k_b2_1 : CC := (.seq k_b2_2 k_b2_5)
def c_b2 : CC := (.seq (.reg r_b2_0) k_b2_1)
theorem o_b2 : Kq k_b2_4 (.seq (.drawn r_b2_2 [ (3, 0) ]) .ret) ∧
  Kq k_b2_3 (.cond (tm 10) k_b2_4 .skip) ∧
  Kq k_b2_2 (.seq (.reg r_b2_1) k_b2_3) ∧
  Kq k_b2_5 (.seq (.drawn r_b2_3 [ (3, 0) , (8, 0) ]) .ret) ∧
  Kq k_b2_1 (.seq k_b2_2 k_b2_5) ∧
  Kq c_b2 (.seq (.reg r_b2_0) k_b2_1) := ⟨kr, kr, kr, kr, kr, kr⟩
theorem at_b2 : FnAt Tryz.prog tb fn_b2 c_b2 27 [.tmp 4, .tmp 5] := fnAt_of tb_fs Tryz.func103 rfl (by kernel_rfl) (by kernel_rfl) rfl rfl
def k_c3_5 : CC := (.seq (.reg r_c3_3) .ret)
def k_c3_4 : CC := (.cond (tm 26) k_c3_5 .skip)
def k_c3_3 : CC := (.seq (.reg r_c3_2) k_c3_4)
def k_c3_8 : CC := (.seq (.reg r_c3_6) .ret)
def k_c3_7 : CC := (.seq (.reg r_c3_5) k_c3_8)
def k_c3_6 : CC := (.seq (.reg r_c3_4) k_c3_7)
def k_c3_2 : CC := (.seq k_c3_3 k_c3_6)
def k_c3_1 : CC := (.seq (.reg r_c3_1) k_c3_2)
def c_c3 : CC := (.seq (.reg r_c3_0) k_c3_1)
theorem o_c3 : Kq k_c3_5 (.seq (.reg r_c3_3) .ret) ∧
  Kq k_c3_4 (.cond (tm 26) k_c3_5 .skip) ∧
  Kq k_c3_3 (.seq (.reg r_c3_2) k_c3_4) ∧
  Kq k_c3_8 (.seq (.reg r_c3_6) .ret) ∧
  Kq k_c3_7 (.seq (.reg r_c3_5) k_c3_8) ∧
  Kq k_c3_6 (.seq (.reg r_c3_4) k_c3_7) ∧
  Kq k_c3_2 (.seq k_c3_3 k_c3_6) ∧
  Kq k_c3_1 (.seq (.reg r_c3_1) k_c3_2) ∧
  Kq c_c3 (.seq (.reg r_c3_0) k_c3_1) := ⟨kr, kr, kr, kr, kr, kr, kr, kr, kr⟩
theorem at_c3 : FnAt Tryz.prog tb fn_c3 c_c3 41 [.tmp 2] := fnAt_of tb_fs Tryz.func104 rfl (by kernel_rfl) (by kernel_rfl) rfl rfl
def k_g8_4 : CC := (.reg r_g8_2)
def k_g8_3 : CC := (.cond (tm 7) k_g8_4 .skip)
def k_g8_2 : CC := (.seq (.reg r_g8_1) k_g8_3)
def k_g8_12 : CC := (.cond (tm 15) .skip (.exit 0))
def k_g8_11 : CC := (.seq (.reg r_g8_5) k_g8_12)
def k_g8_15 : CC := (.reg r_g8_7)
def k_g8_14 : CC := (.block 1 k_g8_15)
def k_g8_16 : CC := (.reg r_g8_6)
def k_g8_13 : CC := (.seq k_g8_14 k_g8_16)
def k_g8_10 : CC := (.seq k_g8_11 k_g8_13)
def k_g8_9 : CC := (.loop k_g8_10)
def k_g8_8 : CC := (.block 0 k_g8_9)
def k_g8_7 : CC := (.seq (.reg r_g8_4) k_g8_8)
def k_g8_17 : CC := (.seq (.reg r_g8_8) .ret)
def k_g8_6 : CC := (.seq k_g8_7 k_g8_17)
def k_g8_5 : CC := (.seq (.reg r_g8_3) k_g8_6)
def k_g8_1 : CC := (.seq k_g8_2 k_g8_5)
def c_g8 : CC := (.seq (.reg r_g8_0) k_g8_1)
theorem o_g8 : Kq k_g8_4 (.reg r_g8_2) ∧
  Kq k_g8_3 (.cond (tm 7) k_g8_4 .skip) ∧
  Kq k_g8_2 (.seq (.reg r_g8_1) k_g8_3) ∧
  Kq k_g8_12 (.cond (tm 15) .skip (.exit 0)) ∧
  Kq k_g8_11 (.seq (.reg r_g8_5) k_g8_12) ∧
  Kq k_g8_15 (.reg r_g8_7) ∧
  Kq k_g8_14 (.block 1 k_g8_15) ∧
  Kq k_g8_16 (.reg r_g8_6) ∧
  Kq k_g8_13 (.seq k_g8_14 k_g8_16) ∧
  Kq k_g8_10 (.seq k_g8_11 k_g8_13) ∧
  Kq k_g8_9 (.loop k_g8_10) ∧
  Kq k_g8_8 (.block 0 k_g8_9) ∧
  Kq k_g8_7 (.seq (.reg r_g8_4) k_g8_8) ∧
  Kq k_g8_17 (.seq (.reg r_g8_8) .ret) ∧
  Kq k_g8_6 (.seq k_g8_7 k_g8_17) ∧
  Kq k_g8_5 (.seq (.reg r_g8_3) k_g8_6) ∧
  Kq k_g8_1 (.seq k_g8_2 k_g8_5) ∧
  Kq c_g8 (.seq (.reg r_g8_0) k_g8_1) := ⟨kr, kr, kr, kr, kr, kr, kr, kr, kr, kr, kr, kr, kr, kr, kr, kr, kr, kr⟩
theorem at_g8 : FnAt Tryz.prog tb fn_g8 c_g8 25 [.tmp 2] := fnAt_of tb_fs Tryz.func114 rfl (by kernel_rfl) (by kernel_rfl) rfl rfl
def k_g7_4 : CC := (.reg r_g7_2)
def k_g7_3 : CC := (.cond (tm 7) k_g7_4 .skip)
def k_g7_2 : CC := (.seq (.reg r_g7_1) k_g7_3)
def k_g7_12 : CC := (.cond (tm 15) .skip (.exit 0))
def k_g7_11 : CC := (.seq (.reg r_g7_5) k_g7_12)
def k_g7_15 : CC := (.reg r_g7_7)
def k_g7_14 : CC := (.block 1 k_g7_15)
def k_g7_16 : CC := (.reg r_g7_6)
def k_g7_13 : CC := (.seq k_g7_14 k_g7_16)
def k_g7_10 : CC := (.seq k_g7_11 k_g7_13)
def k_g7_9 : CC := (.loop k_g7_10)
def k_g7_8 : CC := (.block 0 k_g7_9)
def k_g7_7 : CC := (.seq (.reg r_g7_4) k_g7_8)
def k_g7_17 : CC := (.seq (.reg r_g7_8) .ret)
def k_g7_6 : CC := (.seq k_g7_7 k_g7_17)
def k_g7_5 : CC := (.seq (.reg r_g7_3) k_g7_6)
def k_g7_1 : CC := (.seq k_g7_2 k_g7_5)
def c_g7 : CC := (.seq (.reg r_g7_0) k_g7_1)
theorem o_g7 : Kq k_g7_4 (.reg r_g7_2) ∧
  Kq k_g7_3 (.cond (tm 7) k_g7_4 .skip) ∧
  Kq k_g7_2 (.seq (.reg r_g7_1) k_g7_3) ∧
  Kq k_g7_12 (.cond (tm 15) .skip (.exit 0)) ∧
  Kq k_g7_11 (.seq (.reg r_g7_5) k_g7_12) ∧
  Kq k_g7_15 (.reg r_g7_7) ∧
  Kq k_g7_14 (.block 1 k_g7_15) ∧
  Kq k_g7_16 (.reg r_g7_6) ∧
  Kq k_g7_13 (.seq k_g7_14 k_g7_16) ∧
  Kq k_g7_10 (.seq k_g7_11 k_g7_13) ∧
  Kq k_g7_9 (.loop k_g7_10) ∧
  Kq k_g7_8 (.block 0 k_g7_9) ∧
  Kq k_g7_7 (.seq (.reg r_g7_4) k_g7_8) ∧
  Kq k_g7_17 (.seq (.reg r_g7_8) .ret) ∧
  Kq k_g7_6 (.seq k_g7_7 k_g7_17) ∧
  Kq k_g7_5 (.seq (.reg r_g7_3) k_g7_6) ∧
  Kq k_g7_1 (.seq k_g7_2 k_g7_5) ∧
  Kq c_g7 (.seq (.reg r_g7_0) k_g7_1) := ⟨kr, kr, kr, kr, kr, kr, kr, kr, kr, kr, kr, kr, kr, kr, kr, kr, kr, kr⟩
theorem at_g7 : FnAt Tryz.prog tb fn_g7 c_g7 25 [.tmp 2] := fnAt_of tb_fs Tryz.func115 rfl (by kernel_rfl) (by kernel_rfl) rfl rfl
def k_a7_8 : CC := (.cond (tm 12) .skip (.exit 0))
def k_a7_15 : CC := (.reg r_a7_7)
def k_a7_14 : CC := (.cond (tm 20) k_a7_15 .skip)
def k_a7_13 : CC := (.seq (.reg r_a7_6) k_a7_14)
def k_a7_12 : CC := (.seq (.reg r_a7_5) k_a7_13)
def k_a7_11 : CC := (.seq (.reg r_a7_4) k_a7_12)
def k_a7_10 : CC := (.block 1 k_a7_11)
def k_a7_16 : CC := (.reg r_a7_8)
def k_a7_9 : CC := (.seq k_a7_10 k_a7_16)
def k_a7_7 : CC := (.seq k_a7_8 k_a7_9)
def k_a7_6 : CC := (.seq (.reg r_a7_3) k_a7_7)
def k_a7_5 : CC := (.loop k_a7_6)
def k_a7_4 : CC := (.block 0 k_a7_5)
def k_a7_3 : CC := (.seq (.reg r_a7_2) k_a7_4)
def k_a7_24 : CC := (.cond (tm 28) .skip (.exit 2))
def k_a7_28 : CC := (.reg r_a7_13)
def k_a7_27 : CC := (.seq (.reg r_a7_12) k_a7_28)
def k_a7_26 : CC := (.block 3 k_a7_27)
def k_a7_29 : CC := (.reg r_a7_14)
def k_a7_25 : CC := (.seq k_a7_26 k_a7_29)
def k_a7_23 : CC := (.seq k_a7_24 k_a7_25)
def k_a7_22 : CC := (.seq (.reg r_a7_11) k_a7_23)
def k_a7_21 : CC := (.loop k_a7_22)
def k_a7_20 : CC := (.block 2 k_a7_21)
def k_a7_19 : CC := (.seq (.reg r_a7_10) k_a7_20)
def k_a7_30 : CC := (.seq (.reg r_a7_15) .ret)
def k_a7_18 : CC := (.seq k_a7_19 k_a7_30)
def k_a7_17 : CC := (.seq (.reg r_a7_9) k_a7_18)
def k_a7_2 : CC := (.seq k_a7_3 k_a7_17)
def k_a7_1 : CC := (.seq (.reg r_a7_1) k_a7_2)
def c_a7 : CC := (.seq (.reg r_a7_0) k_a7_1)
theorem o_a7 : Kq k_a7_8 (.cond (tm 12) .skip (.exit 0)) ∧
  Kq k_a7_15 (.reg r_a7_7) ∧
  Kq k_a7_14 (.cond (tm 20) k_a7_15 .skip) ∧
  Kq k_a7_13 (.seq (.reg r_a7_6) k_a7_14) ∧
  Kq k_a7_12 (.seq (.reg r_a7_5) k_a7_13) ∧
  Kq k_a7_11 (.seq (.reg r_a7_4) k_a7_12) ∧
  Kq k_a7_10 (.block 1 k_a7_11) ∧
  Kq k_a7_16 (.reg r_a7_8) ∧
  Kq k_a7_9 (.seq k_a7_10 k_a7_16) ∧
  Kq k_a7_7 (.seq k_a7_8 k_a7_9) ∧
  Kq k_a7_6 (.seq (.reg r_a7_3) k_a7_7) ∧
  Kq k_a7_5 (.loop k_a7_6) ∧
  Kq k_a7_4 (.block 0 k_a7_5) ∧
  Kq k_a7_3 (.seq (.reg r_a7_2) k_a7_4) ∧
  Kq k_a7_24 (.cond (tm 28) .skip (.exit 2)) ∧
  Kq k_a7_28 (.reg r_a7_13) ∧
  Kq k_a7_27 (.seq (.reg r_a7_12) k_a7_28) ∧
  Kq k_a7_26 (.block 3 k_a7_27) ∧
  Kq k_a7_29 (.reg r_a7_14) ∧
  Kq k_a7_25 (.seq k_a7_26 k_a7_29) ∧
  Kq k_a7_23 (.seq k_a7_24 k_a7_25) ∧
  Kq k_a7_22 (.seq (.reg r_a7_11) k_a7_23) ∧
  Kq k_a7_21 (.loop k_a7_22) ∧
  Kq k_a7_20 (.block 2 k_a7_21) ∧
  Kq k_a7_19 (.seq (.reg r_a7_10) k_a7_20) ∧
  Kq k_a7_30 (.seq (.reg r_a7_15) .ret) ∧
  Kq k_a7_18 (.seq k_a7_19 k_a7_30) ∧
  Kq k_a7_17 (.seq (.reg r_a7_9) k_a7_18) ∧
  Kq k_a7_2 (.seq k_a7_3 k_a7_17) ∧
  Kq k_a7_1 (.seq (.reg r_a7_1) k_a7_2) ∧
  Kq c_a7 (.seq (.reg r_a7_0) k_a7_1) := ⟨kr, kr, kr, kr, kr, kr, kr, kr, kr, kr, kr, kr, kr, kr, kr, kr, kr, kr, kr, kr, kr, kr, kr, kr, kr, kr, kr, kr, kr, kr, kr⟩
theorem at_a7 : FnAt Tryz.prog tb fn_a7 c_a7 36 [.tmp 2] := fnAt_of tb_fs Tryz.func116 rfl (by kernel_rfl) (by kernel_rfl) rfl rfl
def k_a8_3 : CC := (.seq (.reg r_a8_3) .ret)
def k_a8_2 : CC := (.seq (.reg r_a8_2) k_a8_3)
def k_a8_1 : CC := (.seq (.drawn r_a8_1 [ (3, 0) , (7, 0) ]) k_a8_2)
def c_a8 : CC := (.seq (.reg r_a8_0) k_a8_1)
theorem o_a8 : Kq k_a8_3 (.seq (.reg r_a8_3) .ret) ∧
  Kq k_a8_2 (.seq (.reg r_a8_2) k_a8_3) ∧
  Kq k_a8_1 (.seq (.drawn r_a8_1 [ (3, 0) , (7, 0) ]) k_a8_2) ∧
  Kq c_a8 (.seq (.reg r_a8_0) k_a8_1) := ⟨kr, kr, kr, kr⟩
theorem at_a8 : FnAt Tryz.prog tb fn_a8 c_a8 29 [.tmp 4] := fnAt_of tb_fs Tryz.func120 rfl (by kernel_rfl) (by kernel_rfl) rfl rfl
def k_d8_1 : CC := (.seq (.reg r_d8_1) .ret)
def c_d8 : CC := (.seq (.reg r_d8_0) k_d8_1)
theorem o_d8 : Kq k_d8_1 (.seq (.reg r_d8_1) .ret) ∧
  Kq c_d8 (.seq (.reg r_d8_0) k_d8_1) := ⟨kr, kr⟩
theorem at_d8 : FnAt Tryz.prog tb fn_d8 c_d8 10 [.tmp 4] := fnAt_of tb_fs Tryz.func121 rfl (by kernel_rfl) (by kernel_rfl) rfl rfl
def k_e5_5 : CC := (.seq (.reg r_e5_3) .ret)
def k_e5_4 : CC := (.seq (.reg r_e5_2) k_e5_5)
def k_e5_3 : CC := (.cond (tm 18) k_e5_4 .skip)
def k_e5_2 : CC := (.seq (.reg r_e5_1) k_e5_3)
def k_e5_6 : CC := (.seq (.reg r_e5_4) .ret)
def k_e5_1 : CC := (.seq k_e5_2 k_e5_6)
def c_e5 : CC := (.seq (.reg r_e5_0) k_e5_1)
theorem o_e5 : Kq k_e5_5 (.seq (.reg r_e5_3) .ret) ∧
  Kq k_e5_4 (.seq (.reg r_e5_2) k_e5_5) ∧
  Kq k_e5_3 (.cond (tm 18) k_e5_4 .skip) ∧
  Kq k_e5_2 (.seq (.reg r_e5_1) k_e5_3) ∧
  Kq k_e5_6 (.seq (.reg r_e5_4) .ret) ∧
  Kq k_e5_1 (.seq k_e5_2 k_e5_6) ∧
  Kq c_e5 (.seq (.reg r_e5_0) k_e5_1) := ⟨kr, kr, kr, kr, kr, kr, kr⟩
theorem at_e5 : FnAt Tryz.prog tb fn_e5 c_e5 21 [.cell 8 ty_codec_desc, .tmp 9] := fnAt_of tb_fs Tryz.func122 rfl (by kernel_rfl) (by kernel_rfl) rfl rfl
def k_g6_1 : CC := (.seq (.reg r_g6_1) .ret)
def c_g6 : CC := (.seq (.reg r_g6_0) k_g6_1)
theorem o_g6 : Kq k_g6_1 (.seq (.reg r_g6_1) .ret) ∧
  Kq c_g6 (.seq (.reg r_g6_0) k_g6_1) := ⟨kr, kr⟩
theorem at_g6 : FnAt Tryz.prog tb fn_g6 c_g6 15 [.tmp 6] := fnAt_of tb_fs Tryz.func123 rfl (by kernel_rfl) (by kernel_rfl) rfl rfl
def k_g0_3 : CC := (.seq (.reg r_g0_1) .ret)
def k_g0_2 : CC := (.cond (.cst (.b false)) k_g0_3 .skip)
def k_g0_4 : CC := (.seq (.reg r_g0_2) .ret)
def k_g0_1 : CC := (.seq k_g0_2 k_g0_4)
def c_g0 : CC := (.seq (.reg r_g0_0) k_g0_1)
theorem o_g0 : Kq k_g0_3 (.seq (.reg r_g0_1) .ret) ∧
  Kq k_g0_2 (.cond (.cst (.b false)) k_g0_3 .skip) ∧
  Kq k_g0_4 (.seq (.reg r_g0_2) .ret) ∧
  Kq k_g0_1 (.seq k_g0_2 k_g0_4) ∧
  Kq c_g0 (.seq (.reg r_g0_0) k_g0_1) := ⟨kr, kr, kr, kr, kr⟩
theorem at_g0 : FnAt Tryz.prog tb fn_g0 c_g0 8 [.tmp 2] := fnAt_of tb_fs Tryz.func124 rfl (by kernel_rfl) (by kernel_rfl) rfl rfl
def k_g4_2 : CC := (.seq (.reg r_g4_2) .ret)
def k_g4_1 : CC := (.seq (.reg r_g4_1) k_g4_2)
def c_g4 : CC := (.seq (.reg r_g4_0) k_g4_1)
theorem o_g4 : Kq k_g4_2 (.seq (.reg r_g4_2) .ret) ∧
  Kq k_g4_1 (.seq (.reg r_g4_1) k_g4_2) ∧
  Kq c_g4 (.seq (.reg r_g4_0) k_g4_1) := ⟨kr, kr, kr⟩
theorem at_g4 : FnAt Tryz.prog tb fn_g4 c_g4 10 [.tmp 3] := fnAt_of tb_fs Tryz.func125 rfl (by kernel_rfl) (by kernel_rfl) rfl rfl
def k_g5_1 : CC := (.seq (.reg r_g5_1) .ret)
def c_g5 : CC := (.seq (.reg r_g5_0) k_g5_1)
theorem o_g5 : Kq k_g5_1 (.seq (.reg r_g5_1) .ret) ∧
  Kq c_g5 (.seq (.reg r_g5_0) k_g5_1) := ⟨kr, kr⟩
theorem at_g5 : FnAt Tryz.prog tb fn_g5 c_g5 11 [.tmp 4] := fnAt_of tb_fs Tryz.func126 rfl (by kernel_rfl) (by kernel_rfl) rfl rfl
def k_f1_5 : CC := (.seq (.reg r_f1_3) .ret)
def k_f1_4 : CC := (.cond (tm 22) k_f1_5 .skip)
def k_f1_3 : CC := (.seq (.reg r_f1_2) k_f1_4)
def k_f1_2 : CC := (.seq (.reg r_f1_1) k_f1_3)
def k_f1_9 : CC := (.seq (.reg r_f1_5) .ret)
def k_f1_8 : CC := (.cond (tm 32) k_f1_9 .skip)
def k_f1_7 : CC := (.seq (.reg r_f1_4) k_f1_8)
def k_f1_17 : CC := (.cond (tm 37) .skip (.exit 0))
def k_f1_21 : CC := (.reg r_f1_10)
def k_f1_20 : CC := (.seq (.reg r_f1_9) k_f1_21)
def k_f1_19 : CC := (.block 1 k_f1_20)
def k_f1_22 : CC := (.reg r_f1_11)
def k_f1_18 : CC := (.seq k_f1_19 k_f1_22)
def k_f1_16 : CC := (.seq k_f1_17 k_f1_18)
def k_f1_15 : CC := (.seq (.reg r_f1_8) k_f1_16)
def k_f1_14 : CC := (.loop k_f1_15)
def k_f1_13 : CC := (.block 0 k_f1_14)
def k_f1_12 : CC := (.seq (.reg r_f1_7) k_f1_13)
def k_f1_23 : CC := (.seq (.reg r_f1_12) .ret)
def k_f1_11 : CC := (.seq k_f1_12 k_f1_23)
def k_f1_10 : CC := (.seq (.reg r_f1_6) k_f1_11)
def k_f1_6 : CC := (.seq k_f1_7 k_f1_10)
def k_f1_1 : CC := (.seq k_f1_2 k_f1_6)
def c_f1 : CC := (.seq (.reg r_f1_0) k_f1_1)
theorem o_f1 : Kq k_f1_5 (.seq (.reg r_f1_3) .ret) ∧
  Kq k_f1_4 (.cond (tm 22) k_f1_5 .skip) ∧
  Kq k_f1_3 (.seq (.reg r_f1_2) k_f1_4) ∧
  Kq k_f1_2 (.seq (.reg r_f1_1) k_f1_3) ∧
  Kq k_f1_9 (.seq (.reg r_f1_5) .ret) ∧
  Kq k_f1_8 (.cond (tm 32) k_f1_9 .skip) ∧
  Kq k_f1_7 (.seq (.reg r_f1_4) k_f1_8) ∧
  Kq k_f1_17 (.cond (tm 37) .skip (.exit 0)) ∧
  Kq k_f1_21 (.reg r_f1_10) ∧
  Kq k_f1_20 (.seq (.reg r_f1_9) k_f1_21) ∧
  Kq k_f1_19 (.block 1 k_f1_20) ∧
  Kq k_f1_22 (.reg r_f1_11) ∧
  Kq k_f1_18 (.seq k_f1_19 k_f1_22) ∧
  Kq k_f1_16 (.seq k_f1_17 k_f1_18) ∧
  Kq k_f1_15 (.seq (.reg r_f1_8) k_f1_16) ∧
  Kq k_f1_14 (.loop k_f1_15) ∧
  Kq k_f1_13 (.block 0 k_f1_14) ∧
  Kq k_f1_12 (.seq (.reg r_f1_7) k_f1_13) ∧
  Kq k_f1_23 (.seq (.reg r_f1_12) .ret) ∧
  Kq k_f1_11 (.seq k_f1_12 k_f1_23) ∧
  Kq k_f1_10 (.seq (.reg r_f1_6) k_f1_11) ∧
  Kq k_f1_6 (.seq k_f1_7 k_f1_10) ∧
  Kq k_f1_1 (.seq k_f1_2 k_f1_6) ∧
  Kq c_f1 (.seq (.reg r_f1_0) k_f1_1) := ⟨kr, kr, kr, kr, kr, kr, kr, kr, kr, kr, kr, kr, kr, kr, kr, kr, kr, kr, kr, kr, kr, kr, kr, kr⟩
theorem at_f1 : FnAt Tryz.prog tb fn_f1 c_f1 51 [.tmp 8, .tmp 9] := fnAt_of tb_fs Tryz.func127 rfl (by kernel_rfl) (by kernel_rfl) rfl rfl
def k_e8_9 : CC := (.cond (tm 14) .skip (.exit 0))
def k_e8_15 : CC := (.reg r_e8_8)
def k_e8_14 : CC := (.seq (.reg r_e8_7) k_e8_15)
def k_e8_13 : CC := (.seq (.reg r_e8_6) k_e8_14)
def k_e8_12 : CC := (.seq (.reg r_e8_5) k_e8_13)
def k_e8_11 : CC := (.block 1 k_e8_12)
def k_e8_16 : CC := (.reg r_e8_9)
def k_e8_10 : CC := (.seq k_e8_11 k_e8_16)
def k_e8_8 : CC := (.seq k_e8_9 k_e8_10)
def k_e8_7 : CC := (.seq (.reg r_e8_4) k_e8_8)
def k_e8_6 : CC := (.loop k_e8_7)
def k_e8_5 : CC := (.block 0 k_e8_6)
def k_e8_4 : CC := (.seq (.reg r_e8_3) k_e8_5)
def k_e8_17 : CC := (.seq (.reg r_e8_10) .ret)
def k_e8_3 : CC := (.seq k_e8_4 k_e8_17)
def k_e8_2 : CC := (.seq (.reg r_e8_2) k_e8_3)
def k_e8_1 : CC := (.seq (.reg r_e8_1) k_e8_2)
def c_e8 : CC := (.seq (.reg r_e8_0) k_e8_1)
theorem o_e8 : Kq k_e8_9 (.cond (tm 14) .skip (.exit 0)) ∧
  Kq k_e8_15 (.reg r_e8_8) ∧
  Kq k_e8_14 (.seq (.reg r_e8_7) k_e8_15) ∧
  Kq k_e8_13 (.seq (.reg r_e8_6) k_e8_14) ∧
  Kq k_e8_12 (.seq (.reg r_e8_5) k_e8_13) ∧
  Kq k_e8_11 (.block 1 k_e8_12) ∧
  Kq k_e8_16 (.reg r_e8_9) ∧
  Kq k_e8_10 (.seq k_e8_11 k_e8_16) ∧
  Kq k_e8_8 (.seq k_e8_9 k_e8_10) ∧
  Kq k_e8_7 (.seq (.reg r_e8_4) k_e8_8) ∧
  Kq k_e8_6 (.loop k_e8_7) ∧
  Kq k_e8_5 (.block 0 k_e8_6) ∧
  Kq k_e8_4 (.seq (.reg r_e8_3) k_e8_5) ∧
  Kq k_e8_17 (.seq (.reg r_e8_10) .ret) ∧
  Kq k_e8_3 (.seq k_e8_4 k_e8_17) ∧
  Kq k_e8_2 (.seq (.reg r_e8_2) k_e8_3) ∧
  Kq k_e8_1 (.seq (.reg r_e8_1) k_e8_2) ∧
  Kq c_e8 (.seq (.reg r_e8_0) k_e8_1) := ⟨kr, kr, kr, kr, kr, kr, kr, kr, kr, kr, kr, kr, kr, kr, kr, kr, kr, kr⟩
theorem at_e8 : FnAt Tryz.prog tb fn_e8 c_e8 38 [.tmp 4] := fnAt_of tb_fs Tryz.func128 rfl (by kernel_rfl) (by kernel_rfl) rfl rfl
def k_c5_4 : CC := (.reg r_c5_2)
def k_c5_3 : CC := (.cond (tm 6) k_c5_4 .skip)
def k_c5_2 : CC := (.seq (.reg r_c5_1) k_c5_3)
def k_c5_9 : CC := (.reg r_c5_5)
def k_c5_8 : CC := (.cond (tm 16) k_c5_9 .skip)
def k_c5_7 : CC := (.seq (.reg r_c5_4) k_c5_8)
def k_c5_6 : CC := (.seq (.reg r_c5_3) k_c5_7)
def k_c5_10 : CC := (.seq (.reg r_c5_6) .ret)
def k_c5_5 : CC := (.seq k_c5_6 k_c5_10)
def k_c5_1 : CC := (.seq k_c5_2 k_c5_5)
def c_c5 : CC := (.seq (.reg r_c5_0) k_c5_1)
theorem o_c5 : Kq k_c5_4 (.reg r_c5_2) ∧
  Kq k_c5_3 (.cond (tm 6) k_c5_4 .skip) ∧
  Kq k_c5_2 (.seq (.reg r_c5_1) k_c5_3) ∧
  Kq k_c5_9 (.reg r_c5_5) ∧
  Kq k_c5_8 (.cond (tm 16) k_c5_9 .skip) ∧
  Kq k_c5_7 (.seq (.reg r_c5_4) k_c5_8) ∧
  Kq k_c5_6 (.seq (.reg r_c5_3) k_c5_7) ∧
  Kq k_c5_10 (.seq (.reg r_c5_6) .ret) ∧
  Kq k_c5_5 (.seq k_c5_6 k_c5_10) ∧
  Kq k_c5_1 (.seq k_c5_2 k_c5_5) ∧
  Kq c_c5 (.seq (.reg r_c5_0) k_c5_1) := ⟨kr, kr, kr, kr, kr, kr, kr, kr, kr, kr, kr⟩
theorem at_c5 : FnAt Tryz.prog tb fn_c5 c_c5 27 [.tmp 4] := fnAt_of tb_fs Tryz.func131 rfl (by kernel_rfl) (by kernel_rfl) rfl rfl
def k_g1_7 : CC := (.seq (.reg r_g1_7) .ret)
def k_g1_6 : CC := (.seq (.reg r_g1_6) k_g1_7)
def k_g1_5 : CC := (.seq (.reg r_g1_5) k_g1_6)
def k_g1_4 : CC := (.seq (.reg r_g1_4) k_g1_5)
def k_g1_3 : CC := (.seq (.reg r_g1_3) k_g1_4)
def k_g1_2 : CC := (.seq (.reg r_g1_2) k_g1_3)
def k_g1_1 : CC := (.seq (.reg r_g1_1) k_g1_2)
def c_g1 : CC := (.seq (.reg r_g1_0) k_g1_1)
theorem at_g1 : FnAt Tryz.prog tb fn_g1 c_g1 35 [.tmp 2] := fnAt_of tb_fs Tryz.func145 rfl (by kernel_rfl) (by kernel_rfl) rfl rfl
def k_f2_9 : CC := (.reg r_f2_4)
def k_f2_8 : CC := (.cond (tm 11) .skip k_f2_9)
def k_f2_7 : CC := (.seq (.reg r_f2_3) k_f2_8)
def k_f2_6 : CC := (.cond (tm 11) .skip k_f2_7)
def k_f2_5 : CC := (.seq (.reg r_f2_2) k_f2_6)
def k_f2_15 : CC := (.seq (.reg r_f2_7) .ret)
def k_f2_14 : CC := (.cond (tm 23) k_f2_15 .skip)
def k_f2_13 : CC := (.seq (.reg r_f2_6) k_f2_14)
def k_f2_16 : CC := (.seq (.reg r_f2_8) .ret)
def k_f2_12 : CC := (.seq k_f2_13 k_f2_16)
def k_f2_11 : CC := (.seq (.reg r_f2_5) k_f2_12)
def k_f2_10 : CC := (.cond (tm 11) k_f2_11 .skip)
def k_f2_4 : CC := (.seq k_f2_5 k_f2_10)
def k_f2_3 : CC := (.block 0 k_f2_4)
def k_f2_2 : CC := (.seq (.reg r_f2_1) k_f2_3)
def k_f2_17 : CC := (.seq (.reg r_f2_9) .ret)
def k_f2_1 : CC := (.seq k_f2_2 k_f2_17)
def c_f2 : CC := (.seq (.reg r_f2_0) k_f2_1)
theorem o_f2 : Kq k_f2_9 (.reg r_f2_4) ∧
  Kq k_f2_8 (.cond (tm 11) .skip k_f2_9) ∧
  Kq k_f2_7 (.seq (.reg r_f2_3) k_f2_8) ∧
  Kq k_f2_6 (.cond (tm 11) .skip k_f2_7) ∧
  Kq k_f2_5 (.seq (.reg r_f2_2) k_f2_6) ∧
  Kq k_f2_15 (.seq (.reg r_f2_7) .ret) ∧
  Kq k_f2_14 (.cond (tm 23) k_f2_15 .skip) ∧
  Kq k_f2_13 (.seq (.reg r_f2_6) k_f2_14) ∧
  Kq k_f2_16 (.seq (.reg r_f2_8) .ret) ∧
  Kq k_f2_12 (.seq k_f2_13 k_f2_16) ∧
  Kq k_f2_11 (.seq (.reg r_f2_5) k_f2_12) ∧
  Kq k_f2_10 (.cond (tm 11) k_f2_11 .skip) ∧
  Kq k_f2_4 (.seq k_f2_5 k_f2_10) ∧
  Kq k_f2_3 (.block 0 k_f2_4) ∧
  Kq k_f2_2 (.seq (.reg r_f2_1) k_f2_3) ∧
  Kq k_f2_17 (.seq (.reg r_f2_9) .ret) ∧
  Kq k_f2_1 (.seq k_f2_2 k_f2_17) ∧
  Kq c_f2 (.seq (.reg r_f2_0) k_f2_1) := ⟨kr, kr, kr, kr, kr, kr, kr, kr, kr, kr, kr, kr, kr, kr, kr, kr, kr, kr⟩
theorem at_f2 : FnAt Tryz.prog tb fn_f2 c_f2 25 [.tmp 6, .tmp 7] := fnAt_of tb_fs Tryz.func146 rfl (by kernel_rfl) (by kernel_rfl) rfl rfl
def k_e7_1 : CC := (.seq (.reg r_e7_1) .ret)
def c_e7 : CC := (.seq (.reg r_e7_0) k_e7_1)
theorem o_e7 : Kq k_e7_1 (.seq (.reg r_e7_1) .ret) ∧
  Kq c_e7 (.seq (.reg r_e7_0) k_e7_1) := ⟨kr, kr⟩
theorem at_e7 : FnAt Tryz.prog tb fn_e7 c_e7 2 [.cell 0 ty_16_uint32] := fnAt_of tb_fs Tryz.func147 rfl (by kernel_rfl) (by kernel_rfl) rfl rfl
def k_a0_1 : CC := (.seq (.reg r_a0_1) .ret)
def c_a0 : CC := (.seq (.reg r_a0_0) k_a0_1)
theorem o_a0 : Kq k_a0_1 (.seq (.reg r_a0_1) .ret) ∧
  Kq c_a0 (.seq (.reg r_a0_0) k_a0_1) := ⟨kr, kr⟩
theorem at_a0 : FnAt Tryz.prog tb fn_a0 c_a0 4 [.tmp 2] := fnAt_of tb_fs Tryz.func155 rfl (by kernel_rfl) (by kernel_rfl) rfl rfl
def k_f3_4 : CC := (.seq (.reg r_f3_2) .ret)
def k_f3_3 : CC := (.cond (tm 27) k_f3_4 .skip)
def k_f3_2 : CC := (.seq (.reg r_f3_1) k_f3_3)
def k_f3_5 : CC := (.seq (.reg r_f3_3) .ret)
def k_f3_1 : CC := (.seq k_f3_2 k_f3_5)
def c_f3 : CC := (.seq (.reg r_f3_0) k_f3_1)
theorem o_f3 : Kq k_f3_4 (.seq (.reg r_f3_2) .ret) ∧
  Kq k_f3_3 (.cond (tm 27) k_f3_4 .skip) ∧
  Kq k_f3_2 (.seq (.reg r_f3_1) k_f3_3) ∧
  Kq k_f3_5 (.seq (.reg r_f3_3) .ret) ∧
  Kq k_f3_1 (.seq k_f3_2 k_f3_5) ∧
  Kq c_f3 (.seq (.reg r_f3_0) k_f3_1) := ⟨kr, kr, kr, kr, kr, kr⟩
theorem at_f3 : FnAt Tryz.prog tb fn_f3 c_f3 34 [.tmp 6, .tmp 7] := fnAt_of tb_fs Tryz.func156 rfl (by kernel_rfl) (by kernel_rfl) rfl rfl
def k_a1_5 : CC := (.cond (tm 8) .skip (.exit 0))
def k_a1_4 : CC := (.seq (.reg r_a1_1) k_a1_5)
def k_a1_9 : CC := (.cond (tm 18) .ret .skip)
def k_a1_8 : CC := (.seq (.reg r_a1_3) k_a1_9)
def k_a1_7 : CC := (.block 1 k_a1_8)
def k_a1_10 : CC := (.reg r_a1_2)
def k_a1_6 : CC := (.seq k_a1_7 k_a1_10)
def k_a1_3 : CC := (.seq k_a1_4 k_a1_6)
def k_a1_2 : CC := (.loop k_a1_3)
def k_a1_1 : CC := (.block 0 k_a1_2)
def c_a1 : CC := (.seq (.reg r_a1_0) k_a1_1)
theorem o_a1 : Kq k_a1_5 (.cond (tm 8) .skip (.exit 0)) ∧
  Kq k_a1_4 (.seq (.reg r_a1_1) k_a1_5) ∧
  Kq k_a1_9 (.cond (tm 18) .ret .skip) ∧
  Kq k_a1_8 (.seq (.reg r_a1_3) k_a1_9) ∧
  Kq k_a1_7 (.block 1 k_a1_8) ∧
  Kq k_a1_10 (.reg r_a1_2) ∧
  Kq k_a1_6 (.seq k_a1_7 k_a1_10) ∧
  Kq k_a1_3 (.seq k_a1_4 k_a1_6) ∧
  Kq k_a1_2 (.loop k_a1_3) ∧
  Kq k_a1_1 (.block 0 k_a1_2) ∧
  Kq c_a1 (.seq (.reg r_a1_0) k_a1_1) := ⟨kr, kr, kr, kr, kr, kr, kr, kr, kr, kr, kr⟩
theorem at_a1 : FnAt Tryz.prog tb fn_a1 c_a1 19 [] := fnAt_of tb_fs Tryz.func159 rfl (by kernel_rfl) (by kernel_rfl) rfl rfl
def k_d0_4 : CC := (.seq (.reg r_d0_2) .ret)
def k_d0_3 : CC := (.cond (tm 4) k_d0_4 .skip)
def k_d0_2 : CC := (.seq (.reg r_d0_1) k_d0_3)
def k_d0_5 : CC := (.seq (.drawn r_d0_3 [ (4, 0) , (9, 0) ]) .ret)
def k_d0_1 : CC := (.seq k_d0_2 k_d0_5)
def c_d0 : CC := (.seq (.reg r_d0_0) k_d0_1)
theorem o_d0 : Kq k_d0_4 (.seq (.reg r_d0_2) .ret) ∧
  Kq k_d0_3 (.cond (tm 4) k_d0_4 .skip) ∧
  Kq k_d0_2 (.seq (.reg r_d0_1) k_d0_3) ∧
  Kq k_d0_5 (.seq (.drawn r_d0_3 [ (4, 0) , (9, 0) ]) .ret) ∧
  Kq k_d0_1 (.seq k_d0_2 k_d0_5) ∧
  Kq c_d0 (.seq (.reg r_d0_0) k_d0_1) := ⟨kr, kr, kr, kr, kr, kr⟩
theorem at_d0 : FnAt Tryz.prog tb fn_d0 c_d0 16 [.tmp 2] := fnAt_of tb_fs Tryz.func41 rfl (by kernel_rfl) (by kernel_rfl) rfl rfl
abbrev fn_f5 : FuncId := 5
abbrev fn_b8 : FuncId := 33
abbrev fn_f8 : FuncId := 34
abbrev fn_f9 : FuncId := 35
abbrev fn_b6 : FuncId := 36
def r_f5_0 : List CO := [
  O 8 (.mv (.cst (.b false)))]
def r_f5_1 : List CO := [
  C 26 fn_l9_wakes [],
 O 27 (.un .not (tm 26))]
def r_f5_2 : List CO := [
  O 8 (.mv (.cst (.b false)))]
def r_f5_3 : List CO := [
  C 28 fn_l9_small [],
 O 9 (.alloc ty_api_Plan 12 [(iv 0), (iv 0), (iv 0), (iv 0), (iv 0), (iv 0), (iv 0), (iv 0), (iv 0), (iv 0), (iv 0), (iv 0)]),
 .op none none (.store 12 (tm 9) (tm 28))]
def r_f5_4 : List CO := [
  O 30 (.loadN 12 (tm 9)),
 C 31 fn_f6 [(tm 30)],
 O 29 (.mv (tm 31)),
 O 32 (.ext 0 (tm 29)),
 O 33 (.ext 1 (tm 29)),
 O 10 (.mv (tm 32)),
 O 11 (.mv (tm 33))]
def r_f5_5 : List CO := [
  O 35 (.mv (tm 10)),
 O 36 (.loadN 12 (tm 9)),
 C 37 fn_f7 [(tm 35), (tm 36)],
 O 34 (.mv (tm 37)),
 O 38 (.ext 0 (tm 34)),
 O 39 (.ext 1 (tm 34)),
 O 12 (.mv (tm 38)),
 O 13 (.mv (tm 39))]
def r_f5_6 : List CO := [
  O 40 (.mv (tm 13)),
 O 41 (.un .not (tm 40))]
def r_f5_7 : List CO := [
  O 8 (.mv (.cst (.b false)))]
def r_f5_8 : List CO := [
  O 42 (.mv (tm 1)),
 O 43 (.ge (B .geq ty_int) (tm 42) (.cst (iv 0)))]
def r_f5_9 : List CO := [
  O 44 (.mv (tm 10)),
 O 45 (.mv (tm 1)),
 C 46 fn_b8 [(tm 44), (tm 45)]]
def r_f5_10 : List CO := [
  O 47 (.mv (tm 12)),
 O 48 (.b2s (tm 47)),
 O 49 (.bslice ty_string 1 1 [(tv [])] [(0, 1, (tm 48))]),
 O 14 (.mv (tm 49))]
def r_f5_11 : List CO := [
  O 15 (.mv (.cst (iv 0)))]
def r_f5_12 : List CO := [
  O 50 (.mv (tm 15)),
 O 51 (.mv (tm 0)),
 O 52 (.len false (tm 51)),
 O 53 (.lt (B .lss ty_int) (tm 50) (tm 52)),
 O 54 (.mv (tm 53)),
 G 55 54 true (.mv (tm 15)),
 G 56 54 true (.lt (B .lss ty_int) (tm 55) (.cst (iv 20))),
 O 57 (.pick (tm 54) (tm 56) (.cst (.b false)))]
def r_f5_14 : List CO := [
  O 16 (.mv (.cst (iv 0)))]
def r_f5_15 : List CO := [
  O 60 (.mv (tm 0)),
 O 61 (.mv (tm 15)),
 O 62 (.iaS 1 (tm 60) (tm 61)),
 O 63 (.load (tm 62)),
 O 64 (.len false (tm 63)),
 O 65 (.eq (B .eql ty_int) (tm 64) (.cst (iv 0)))]
def r_f5_16 : List CO := [
  O 66 (.mv (tm 11)),
 C 67 fn_c6 [(tm 66)],
 O 16 (.mv (tm 67))]
def r_f5_17 : List CO := [
  O 68 (.mv (tm 11)),
 O 69 (.mv (tm 0)),
 O 70 (.mv (tm 15)),
 O 71 (.iaS 1 (tm 69) (tm 70)),
 O 72 (.load (tm 71)),
 C 73 fn_c7 [(tm 68), (tm 72)],
 O 16 (.mv (tm 73))]
def r_f5_18 : List CO := [
  O 74 (.mv (tm 16)),
 O 75 (.eq (B .eql ty_api_Errno) (tm 74) (.cst (iv 0))),
 O 76 (.mv (tm 75)),
 G 77 76 true (.loadN 12 (tm 9)),
 G 78 76 true (.mv (tm 0)),
 G 79 76 true (.mv (tm 15)),
 G 80 76 true (.iaS 1 (tm 78) (tm 79)),
 G 81 76 true (.load (tm 80)),
 .call (some (pth 82)) (some (pth 76, true)) (.cst (.func fn_f8 [])) [(tm 77), (tm 81)],
 G 83 76 true (.un .not (tm 82)),
 O 84 (.pick (tm 76) (tm 83) (.cst (.b false)))]
def r_f5_19 : List CO := [
  O 8 (.mv (.cst (.b false)))]
def r_f5_20 : List CO := [
  O 85 (.mv (tm 16)),
 O 86 (.eq (B .eql ty_api_Errno) (tm 85) (.cst (iv 0))),
 O 87 (.mv (tm 86)),
 G 88 87 false (.mv (tm 16)),
 G 89 87 false (.eq (B .eql ty_api_Errno) (tm 88) (.cst (iv 7))),
 G 90 87 false (.mv (tm 89)),
 G 91 90 true (.loadN 12 (tm 9)),
 G 92 90 true (.mv (tm 0)),
 G 93 90 true (.mv (tm 15)),
 G 94 90 true (.iaS 1 (tm 92) (tm 93)),
 G 95 90 true (.load (tm 94)),
 .call (some (pth 96)) (some (pth 90, true)) (.cst (.func fn_f8 [])) [(tm 91), (tm 95)],
 G 97 87 false (.pick (tm 90) (tm 96) (.cst (.b false))),
 O 98 (.pick (tm 87) (.cst (.b true)) (tm 97))]
def r_f5_21 : List CO := [
  O 99 (.mv (tm 12)),
 O 100 (.loadN 12 (tm 9)),
 O 101 (.mv (tm 0)),
 O 102 (.mv (tm 15)),
 O 103 (.iaS 1 (tm 101) (tm 102)),
 O 104 (.load (tm 103)),
 C 105 fn_f9 [(tm 99), (tm 100), (tm 104)],
 O 12 (.mv (tm 105))]
def r_f5_22 : List CO := [
  O 106 (.mv (tm 16)),
 O 107 (.eq (B .eql ty_api_Errno) (tm 106) (.cst (iv 0)))]
def r_f5_23 : List CO := [
  O 108 (.mv (tm 12)),
 O 109 (.b2s (tm 108)),
 O 110 (.bslice ty_string 1 1 [(tv [])] [(0, 1, (tm 109))]),
 O 14 (.mv (tm 110))]
def r_f5_24 : List CO := [
  O 111 (.mv (tm 16)),
 O 112 (.eq (B .eql ty_api_Errno) (tm 111) (.cst (iv 7)))]
def r_f5_25 : List CO := [
  O 113 (.mv (tm 14)),
 O 114 (.mv (tm 12)),
 O 115 (.b2s (tm 114)),
 O 116 (.bslice ty_string 1 1 [(tv [])] [(0, 1, (tm 115))]),
 O 117 (.app ty_string 1 16 [(tv [])] (tm 113) (tm 116)),
 O 14 (.mv (tm 117))]
def r_f5_13 : List CO := [
  O 58 (.mv (tm 15)),
 O 59 (.add (B .add ty_int) (tm 58) (.cst (iv 1))),
 O 15 (.mv (tm 59))]
def r_f5_26 : List CO := [
  O 17 (.mv (.cst (iv 0)))]
def r_f5_27 : List CO := [
  O 118 (.mv (tm 17)),
 O 119 (.mv (tm 3)),
 O 120 (.len false (tm 119)),
 O 121 (.le (B .leq ty_int) (tm 118) (tm 120)),
 O 122 (.mv (tm 121)),
 G 123 122 true (.mv (tm 17)),
 G 124 122 true (.lt (B .lss ty_int) (tm 123) (.cst (iv 6))),
 O 125 (.pick (tm 122) (tm 124) (.cst (.b false)))]
def r_f5_29 : List CO := [
  O 18 (.mv (.cst nils))]
def r_f5_30 : List CO := [
  O 128 (.mv (tm 17)),
 O 129 (.mv (tm 2)),
 O 130 (.len false (tm 129)),
 O 131 (.lt (B .lss ty_int) (tm 128) (tm 130))]
def r_f5_31 : List CO := [
  O 132 (.mv (tm 2)),
 O 133 (.mv (tm 17)),
 O 134 (.iaS 1 (tm 132) (tm 133)),
 O 135 (.load (tm 134)),
 O 18 (.mv (tm 135))]
def r_f5_32 : List CO := [
  O 136 (.mv (tm 10)),
 O 137 (.mv (tm 18)),
 C 138 fn_b5 [(tm 136), (tm 137)]]
def r_f5_33 : List CO := [
  O 139 (.mv (tm 17)),
 O 140 (.mv (tm 3)),
 O 141 (.len false (tm 140)),
 O 142 (.lt (B .lss ty_int) (tm 139) (tm 141)),
 O 143 (.mv (tm 142)),
 G 144 143 true (.mv (tm 3)),
 G 145 143 true (.mv (tm 17)),
 G 146 143 true (.iaS 1 (tm 144) (tm 145)),
 G 147 143 true (.load (tm 146)),
 G 148 143 true (.ge (B .geq ty_int) (tm 147) (.cst (iv 0))),
 O 149 (.pick (tm 143) (tm 148) (.cst (.b false))),
 O 150 (.mv (tm 149)),
 G 151 150 true (.mv (tm 17)),
 G 152 150 true (.lt (B .lss ty_int) (tm 151) (.cst (iv 5))),
 O 153 (.pick (tm 150) (tm 152) (.cst (.b false)))]
def r_f5_34 : List CO := [
  O 154 (.mv (tm 10)),
 O 155 (.mv (tm 3)),
 O 156 (.mv (tm 17)),
 O 157 (.iaS 1 (tm 155) (tm 156)),
 O 158 (.load (tm 157)),
 C 159 fn_b8 [(tm 154), (tm 158)]]
def r_f5_35 : List CO := [
  O 161 (.mv (tm 10)),
 O 162 (.loadN 12 (tm 9)),
 C 163 fn_h1 [(tm 161), (tm 162)],
 O 160 (.mv (tm 163)),
 O 164 (.ext 0 (tm 160)),
 O 165 (.ext 1 (tm 160)),
 O 19 (.mv (tm 164)),
 O 20 (.mv (tm 165))]
def r_f5_36 : List CO := [
  O 166 (.mv (tm 20)),
 O 167 (.ne (B .neq ty_api_Errno) (tm 166) (.cst (iv 0))),
 O 168 (.mv (tm 167)),
 G 169 168 false (.mv (tm 19)),
 G 170 168 false (.eqp false (B .eql ty_pwal_Log) (tm 169) (.cst nilp)),
 O 171 (.pick (tm 168) (.cst (.b true)) (tm 170))]
def r_f5_37 : List CO := [
  O 8 (.mv (.cst (.b false)))]
def r_f5_38 : List CO := [
  O 172 (.mv (tm 19)),
 C 173 fn_c6 [(tm 172)],
 O 21 (.mv (tm 173))]
def r_f5_39 : List CO := [
  O 174 (.mv (tm 21)),
 O 175 (.ne (B .neq ty_api_Errno) (tm 174) (.cst (iv 0))),
 O 176 (.mv (tm 175)),
 G 177 176 true (.mv (tm 21)),
 G 178 176 true (.ne (B .neq ty_api_Errno) (tm 177) (.cst (iv 7))),
 G 179 176 true (.mv (tm 178)),
 G 180 179 false (.mv (tm 10)),
 .call (some (pth 181)) (some (pth 179, false)) (.cst (.func fn_b6 [])) [(tm 180)],
 G 182 179 false (.un .not (tm 181)),
 G 183 176 true (.pick (tm 179) (.cst (.b true)) (tm 182)),
 O 184 (.pick (tm 176) (tm 183) (.cst (.b false)))]
def r_f5_40 : List CO := [
  O 8 (.mv (.cst (.b false)))]
def r_f5_28 : List CO := [
  O 126 (.mv (tm 17)),
 O 127 (.add (B .add ty_int) (tm 126) (.cst (iv 1))),
 O 17 (.mv (tm 127))]
def r_f5_41 : List CO := [
  O 185 (.mv (tm 10)),
 C 186 fn_b5 [(tm 185), (.cst nils)]]
def r_f5_42 : List CO := [
  O 188 (.mv (tm 10)),
 O 189 (.loadN 12 (tm 9)),
 C 190 fn_h1 [(tm 188), (tm 189)],
 O 187 (.mv (tm 190)),
 O 191 (.ext 0 (tm 187)),
 O 192 (.ext 1 (tm 187)),
 O 22 (.mv (tm 191)),
 O 23 (.mv (tm 192))]
def r_f5_43 : List CO := [
  O 193 (.mv (tm 23)),
 O 194 (.ne (B .neq ty_api_Errno) (tm 193) (.cst (iv 0))),
 O 195 (.mv (tm 194)),
 G 196 195 false (.mv (tm 22)),
 G 197 195 false (.eqp false (B .eql ty_pwal_Log) (tm 196) (.cst nilp)),
 O 198 (.pick (tm 195) (.cst (.b true)) (tm 197))]
def r_f5_44 : List CO := [
  O 8 (.mv (.cst (.b false)))]
def r_f5_45 : List CO := [
  O 199 (.mv (tm 22)),
 C 200 fn_c6 [(tm 199)],
 O 23 (.mv (tm 200))]
def r_f5_46 : List CO := [
  O 202 (.mv (tm 10)),
 O 203 (.loadN 12 (tm 9)),
 C 204 fn_f7 [(tm 202), (tm 203)],
 O 201 (.mv (tm 204)),
 O 205 (.ext 0 (tm 201)),
 O 206 (.ext 1 (tm 201)),
 O 24 (.mv (tm 205)),
 O 13 (.mv (tm 206))]
def r_f5_47 : List CO := [
  O 207 (.mv (tm 23)),
 O 208 (.ne (B .neq ty_api_Errno) (tm 207) (.cst (iv 0))),
 O 209 (.mv (tm 208)),
 G 210 209 false (.mv (tm 13)),
 G 211 209 false (.un .not (tm 210)),
 O 212 (.pick (tm 209) (.cst (.b true)) (tm 211))]
def r_f5_48 : List CO := [
  O 8 (.mv (.cst (.b false)))]
def r_f5_49 : List CO := [
  O 25 (.mv (.cst (iv 0)))]
def r_f5_50 : List CO := [
  O 213 (.mv (tm 25)),
 O 214 (.mv (tm 14)),
 O 215 (.len false (tm 214)),
 O 216 (.lt (B .lss ty_int) (tm 213) (tm 215))]
def r_f5_52 : List CO := [
  O 219 (.mv (tm 24)),
 O 220 (.b2s (tm 219)),
 O 221 (.mv (tm 14)),
 O 222 (.mv (tm 25)),
 O 223 (.iaS 1 (tm 221) (tm 222)),
 O 224 (.load (tm 223)),
 O 225 (.eq (B .eql ty_string) (tm 220) (tm 224))]
def r_f5_53 : List CO := [
  O 8 (.mv (.cst (.b true)))]
def r_f5_51 : List CO := [
  O 217 (.mv (tm 25)),
 O 218 (.add (B .add ty_int) (tm 217) (.cst (iv 1))),
 O 25 (.mv (tm 218))]
def r_f5_54 : List CO := [
  O 8 (.mv (.cst (.b false)))]
def r_b8_0 : List CO := [
  O 4 (.mv (.cst (iv 0)))]
def r_b8_1 : List CO := [
  O 6 (.mv (tm 0)),
 O 7 (.eqp false (B .eql ty_pdevice_Device) (tm 6) (.cst nilp)),
 O 8 (.mv (tm 7)),
 G 9 8 false (.mv (tm 1)),
 G 10 8 false (.lt (B .lss ty_int) (tm 9) (.cst (iv 0))),
 O 11 (.pick (tm 8) (.cst (.b true)) (tm 10)),
 O 5 (.mv (tm 11))]
def r_b8_2 : List CO := [
  O 4 (.mv (.cst (iv 1)))]
def r_b8_3 : List CO := [
  O 13 (.mv (tm 0)),
 O 14 (.nil (tm 13)),
 O 15 (.fa 4 (tm 14)),
 O 16 (.load (tm 15)),
 O 12 (.mv (tm 16))]
def r_b8_4 : List CO := [
  O 4 (.mv (.cst (iv 7)))]
def r_b8_5 : List CO := [
  O 17 (.mv (tm 0)),
 O 18 (.mv (tm 0)),
 O 19 (.mv (tm 1)),
 O 20 (.nil (tm 17)),
 O 21 (.fa 2 (tm 20)),
 .op none none (.store 1 (tm 21) (.cst (.b true))),
 O 22 (.nil (tm 18)),
 O 23 (.fa 3 (tm 22)),
 .op none none (.store 1 (tm 23) (tm 19))]
def r_b8_6 : List CO := [
  O 4 (.mv (.cst (iv 0)))]
def r_f8_0 : List CO := [
  O 2 (.box ty_api_Plan (tm 0)),
 O 4 (.mv (.cst (.b false)))]
def r_f8_1 : List CO := [
  O 5 (.mv (.cst (iv 0)))]
def r_f8_2 : List CO := [
  O 6 (.mv (tm 5)),
 O 7 (.mv (tm 1)),
 O 8 (.len false (tm 7)),
 O 9 (.lt (B .lss ty_int) (tm 6) (tm 8))]
def r_f8_4 : List CO := [
  O 12 (.mv (tm 1)),
 O 13 (.mv (tm 5)),
 O 14 (.iaS 2 (tm 12) (tm 13)),
 O 15 (.fa 1 (tm 14)),
 O 16 (.load (tm 15)),
 O 17 (.len false (tm 16)),
 O 18 (.fa 0 (tm 2)),
 O 19 (.load (tm 18)),
 O 20 (.ne (B .neq ty_int) (tm 17) (tm 19)),
 O 21 (.mv (tm 20)),
 G 22 21 false (.mv (tm 1)),
 G 23 21 false (.mv (tm 5)),
 G 24 21 false (.iaS 2 (tm 22) (tm 23)),
 G 25 21 false (.fa 0 (tm 24)),
 G 26 21 false (.load (tm 25)),
 G 27 21 false (.fa 5 (tm 2)),
 G 28 21 false (.load (tm 27)),
 G 29 21 false (.lt (B .lss ty_int) (tm 26) (tm 28)),
 O 30 (.pick (tm 21) (.cst (.b true)) (tm 29)),
 O 31 (.mv (tm 30)),
 G 32 31 false (.mv (tm 1)),
 G 33 31 false (.mv (tm 5)),
 G 34 31 false (.iaS 2 (tm 32) (tm 33)),
 G 35 31 false (.fa 0 (tm 34)),
 G 36 31 false (.load (tm 35)),
 G 37 31 false (.fa 1 (tm 2)),
 G 38 31 false (.load (tm 37)),
 G 39 31 false (.ge (B .geq ty_int) (tm 36) (tm 38)),
 O 40 (.pick (tm 31) (.cst (.b true)) (tm 39))]
def r_f8_5 : List CO := [
  O 4 (.mv (.cst (.b false)))]
def r_f8_3 : List CO := [
  O 10 (.mv (tm 5)),
 O 11 (.add (B .add ty_int) (tm 10) (.cst (iv 1))),
 O 5 (.mv (tm 11))]
def r_f8_6 : List CO := [
  O 4 (.mv (.cst (.b true)))]
def r_f9_0 : List CO := [
  O 4 (.box ty_api_Plan (tm 1)),
 O 6 (.mv (.cst nils))]
def r_f9_1 : List CO := [
  O 10 (.bslice ty_uint8 0 0 [(.y 0)] []),
 O 11 (.mv (tm 0)),
 O 12 (.app ty_uint8 1 1 [(.y 0)] (tm 10) (tm 11)),
 O 7 (.mv (tm 12))]
def r_f9_2 : List CO := [
  O 8 (.mv (.cst (iv 0)))]
def r_f9_3 : List CO := [
  O 13 (.mv (tm 8)),
 O 14 (.mv (tm 2)),
 O 15 (.len false (tm 14)),
 O 16 (.lt (B .lss ty_int) (tm 13) (tm 15))]
def r_f9_5 : List CO := [
  O 9 (.mv (.cst (iv 0)))]
def r_f9_6 : List CO := [
  O 19 (.mv (tm 9)),
 O 20 (.fa 0 (tm 4)),
 O 21 (.load (tm 20)),
 O 22 (.lt (B .lss ty_int) (tm 19) (tm 21))]
def r_f9_8 : List CO := [
  O 25 (.mv (tm 7)),
 O 26 (.mv (tm 2)),
 O 27 (.mv (tm 8)),
 O 28 (.iaS 2 (tm 26) (tm 27)),
 O 29 (.fa 0 (tm 28)),
 O 30 (.load (tm 29)),
 O 31 (.fa 5 (tm 4)),
 O 32 (.load (tm 31)),
 O 33 (.sub (B .sub ty_int) (tm 30) (tm 32)),
 O 34 (.fa 0 (tm 4)),
 O 35 (.load (tm 34)),
 O 36 (.mul (B .mul ty_int) (tm 33) (tm 35)),
 O 37 (.mv (tm 9)),
 O 38 (.add (B .add ty_int) (tm 36) (tm 37)),
 O 39 (.mv (tm 2)),
 O 40 (.mv (tm 8)),
 O 41 (.iaS 2 (tm 39) (tm 40)),
 O 42 (.fa 1 (tm 41)),
 O 43 (.load (tm 42)),
 O 44 (.mv (tm 9)),
 O 45 (.iaS 1 (tm 43) (tm 44)),
 O 46 (.load (tm 45)),
 O 47 (.iaS 1 (tm 25) (tm 38)),
 .op none none (.store 1 (tm 47) (tm 46))]
def r_f9_7 : List CO := [
  O 23 (.mv (tm 9)),
 O 24 (.add (B .add ty_int) (tm 23) (.cst (iv 1))),
 O 9 (.mv (tm 24))]
def r_f9_4 : List CO := [
  O 17 (.mv (tm 8)),
 O 18 (.add (B .add ty_int) (tm 17) (.cst (iv 1))),
 O 8 (.mv (tm 18))]
def r_f9_9 : List CO := [
  O 48 (.mv (tm 7)),
 O 6 (.mv (tm 48))]
def r_b6_0 : List CO := [
  O 2 (.mv (.cst (.b false)))]
def r_b6_1 : List CO := [
  O 3 (.mv (tm 0)),
 O 4 (.eqp true (B .neq ty_pdevice_Device) (tm 3) (.cst nilp)),
 O 5 (.mv (tm 4)),
 G 6 5 true (.mv (tm 0)),
 G 7 5 true (.nil (tm 6)),
 G 8 5 true (.fa 4 (tm 7)),
 G 9 5 true (.load (tm 8)),
 O 10 (.pick (tm 5) (tm 9) (.cst (.b false))),
 O 2 (.mv (tm 10))]
def k_f5_4 : CC := (.seq (.reg r_f5_2) .ret)
def k_f5_3 : CC := (.cond (tm 27) k_f5_4 .skip)
def k_f5_2 : CC := (.seq (.reg r_f5_1) k_f5_3)
def k_f5_11 : CC := (.seq (.reg r_f5_7) .ret)
def k_f5_10 : CC := (.cond (tm 41) k_f5_11 .skip)
def k_f5_9 : CC := (.seq (.reg r_f5_6) k_f5_10)
def k_f5_15 : CC := (.reg r_f5_9)
def k_f5_14 : CC := (.cond (tm 43) k_f5_15 .skip)
def k_f5_13 : CC := (.seq (.reg r_f5_8) k_f5_14)
def k_f5_23 : CC := (.cond (tm 57) .skip (.exit 0))
def k_f5_22 : CC := (.seq (.reg r_f5_12) k_f5_23)
def k_f5_30 : CC := (.reg r_f5_16)
def k_f5_31 : CC := (.reg r_f5_17)
def k_f5_29 : CC := (.cond (tm 65) k_f5_30 k_f5_31)
def k_f5_28 : CC := (.seq (.reg r_f5_15) k_f5_29)
def k_f5_35 : CC := (.seq (.reg r_f5_19) .ret)
def k_f5_34 : CC := (.cond (tm 84) k_f5_35 .skip)
def k_f5_33 : CC := (.seq (.drawn r_f5_18 [ (3, 0) , (7, 0) ]) k_f5_34)
def k_f5_39 : CC := (.drawn r_f5_21 [ (1, 0) , (5, 0) ])
def k_f5_38 : CC := (.cond (tm 98) k_f5_39 .skip)
def k_f5_37 : CC := (.seq (.drawn r_f5_20 [ (6, 0) , (10, 0) ]) k_f5_38)
def k_f5_43 : CC := (.reg r_f5_23)
def k_f5_42 : CC := (.cond (tm 107) k_f5_43 .skip)
def k_f5_41 : CC := (.seq (.reg r_f5_22) k_f5_42)
def k_f5_46 : CC := (.seq (.reg r_f5_25) (.exit 0))
def k_f5_45 : CC := (.cond (tm 112) k_f5_46 .skip)
def k_f5_44 : CC := (.seq (.reg r_f5_24) k_f5_45)
def k_f5_40 : CC := (.seq k_f5_41 k_f5_44)
def k_f5_36 : CC := (.seq k_f5_37 k_f5_40)
def k_f5_32 : CC := (.seq k_f5_33 k_f5_36)
def k_f5_27 : CC := (.seq k_f5_28 k_f5_32)
def k_f5_26 : CC := (.seq (.reg r_f5_14) k_f5_27)
def k_f5_25 : CC := (.block 1 k_f5_26)
def k_f5_47 : CC := (.reg r_f5_13)
def k_f5_24 : CC := (.seq k_f5_25 k_f5_47)
def k_f5_21 : CC := (.seq k_f5_22 k_f5_24)
def k_f5_20 : CC := (.loop k_f5_21)
def k_f5_19 : CC := (.block 0 k_f5_20)
def k_f5_18 : CC := (.seq (.reg r_f5_11) k_f5_19)
def k_f5_54 : CC := (.cond (tm 125) .skip (.exit 2))
def k_f5_53 : CC := (.seq (.reg r_f5_27) k_f5_54)
def k_f5_61 : CC := (.reg r_f5_31)
def k_f5_60 : CC := (.cond (tm 131) k_f5_61 .skip)
def k_f5_59 : CC := (.seq (.reg r_f5_30) k_f5_60)
def k_f5_66 : CC := (.reg r_f5_34)
def k_f5_65 : CC := (.cond (tm 153) k_f5_66 .skip)
def k_f5_64 : CC := (.seq (.reg r_f5_33) k_f5_65)
def k_f5_71 : CC := (.seq (.reg r_f5_37) .ret)
def k_f5_70 : CC := (.cond (tm 171) k_f5_71 .skip)
def k_f5_69 : CC := (.seq (.reg r_f5_36) k_f5_70)
def k_f5_75 : CC := (.seq (.reg r_f5_40) .ret)
def k_f5_74 : CC := (.cond (tm 184) k_f5_75 .skip)
def k_f5_73 : CC := (.seq (.reg r_f5_39) k_f5_74)
def k_f5_72 : CC := (.seq (.reg r_f5_38) k_f5_73)
def k_f5_68 : CC := (.seq k_f5_69 k_f5_72)
def k_f5_67 : CC := (.seq (.reg r_f5_35) k_f5_68)
def k_f5_63 : CC := (.seq k_f5_64 k_f5_67)
def k_f5_62 : CC := (.seq (.reg r_f5_32) k_f5_63)
def k_f5_58 : CC := (.seq k_f5_59 k_f5_62)
def k_f5_57 : CC := (.seq (.reg r_f5_29) k_f5_58)
def k_f5_56 : CC := (.block 3 k_f5_57)
def k_f5_76 : CC := (.reg r_f5_28)
def k_f5_55 : CC := (.seq k_f5_56 k_f5_76)
def k_f5_52 : CC := (.seq k_f5_53 k_f5_55)
def k_f5_51 : CC := (.loop k_f5_52)
def k_f5_50 : CC := (.block 2 k_f5_51)
def k_f5_49 : CC := (.seq (.reg r_f5_26) k_f5_50)
def k_f5_82 : CC := (.seq (.reg r_f5_44) .ret)
def k_f5_81 : CC := (.cond (tm 198) k_f5_82 .skip)
def k_f5_80 : CC := (.seq (.reg r_f5_43) k_f5_81)
def k_f5_88 : CC := (.seq (.reg r_f5_48) .ret)
def k_f5_87 : CC := (.cond (tm 212) k_f5_88 .skip)
def k_f5_86 : CC := (.seq (.reg r_f5_47) k_f5_87)
def k_f5_95 : CC := (.cond (tm 216) .skip (.exit 4))
def k_f5_94 : CC := (.seq (.reg r_f5_50) k_f5_95)
def k_f5_100 : CC := (.seq (.reg r_f5_53) .ret)
def k_f5_99 : CC := (.cond (tm 225) k_f5_100 .skip)
def k_f5_98 : CC := (.seq (.drawn r_f5_52 [ (1, 0) , (5, 0) ]) k_f5_99)
def k_f5_97 : CC := (.block 5 k_f5_98)
def k_f5_101 : CC := (.reg r_f5_51)
def k_f5_96 : CC := (.seq k_f5_97 k_f5_101)
def k_f5_93 : CC := (.seq k_f5_94 k_f5_96)
def k_f5_92 : CC := (.loop k_f5_93)
def k_f5_91 : CC := (.block 4 k_f5_92)
def k_f5_90 : CC := (.seq (.reg r_f5_49) k_f5_91)
def k_f5_102 : CC := (.seq (.reg r_f5_54) .ret)
def k_f5_89 : CC := (.seq k_f5_90 k_f5_102)
def k_f5_85 : CC := (.seq k_f5_86 k_f5_89)
def k_f5_84 : CC := (.seq (.reg r_f5_46) k_f5_85)
def k_f5_83 : CC := (.seq (.reg r_f5_45) k_f5_84)
def k_f5_79 : CC := (.seq k_f5_80 k_f5_83)
def k_f5_78 : CC := (.seq (.reg r_f5_42) k_f5_79)
def k_f5_77 : CC := (.seq (.reg r_f5_41) k_f5_78)
def k_f5_48 : CC := (.seq k_f5_49 k_f5_77)
def k_f5_17 : CC := (.seq k_f5_18 k_f5_48)
def k_f5_16 : CC := (.seq (.reg r_f5_10) k_f5_17)
def k_f5_12 : CC := (.seq k_f5_13 k_f5_16)
def k_f5_8 : CC := (.seq k_f5_9 k_f5_12)
def k_f5_7 : CC := (.seq (.reg r_f5_5) k_f5_8)
def k_f5_6 : CC := (.seq (.reg r_f5_4) k_f5_7)
def k_f5_5 : CC := (.seq (.reg r_f5_3) k_f5_6)
def k_f5_1 : CC := (.seq k_f5_2 k_f5_5)
def c_f5 : CC := (.seq (.reg r_f5_0) k_f5_1)
theorem o_f5 : Kq k_f5_4 (.seq (.reg r_f5_2) .ret) ∧
  Kq k_f5_3 (.cond (tm 27) k_f5_4 .skip) ∧
  Kq k_f5_2 (.seq (.reg r_f5_1) k_f5_3) ∧
  Kq k_f5_11 (.seq (.reg r_f5_7) .ret) ∧
  Kq k_f5_10 (.cond (tm 41) k_f5_11 .skip) ∧
  Kq k_f5_9 (.seq (.reg r_f5_6) k_f5_10) ∧
  Kq k_f5_15 (.reg r_f5_9) ∧
  Kq k_f5_14 (.cond (tm 43) k_f5_15 .skip) ∧
  Kq k_f5_13 (.seq (.reg r_f5_8) k_f5_14) ∧
  Kq k_f5_23 (.cond (tm 57) .skip (.exit 0)) ∧
  Kq k_f5_22 (.seq (.reg r_f5_12) k_f5_23) ∧
  Kq k_f5_30 (.reg r_f5_16) ∧
  Kq k_f5_31 (.reg r_f5_17) ∧
  Kq k_f5_29 (.cond (tm 65) k_f5_30 k_f5_31) ∧
  Kq k_f5_28 (.seq (.reg r_f5_15) k_f5_29) ∧
  Kq k_f5_35 (.seq (.reg r_f5_19) .ret) ∧
  Kq k_f5_34 (.cond (tm 84) k_f5_35 .skip) ∧
  Kq k_f5_33 (.seq (.drawn r_f5_18 [ (3, 0) , (7, 0) ]) k_f5_34) ∧
  Kq k_f5_39 (.drawn r_f5_21 [ (1, 0) , (5, 0) ]) ∧
  Kq k_f5_38 (.cond (tm 98) k_f5_39 .skip) ∧
  Kq k_f5_37 (.seq (.drawn r_f5_20 [ (6, 0) , (10, 0) ]) k_f5_38) ∧
  Kq k_f5_43 (.reg r_f5_23) ∧
  Kq k_f5_42 (.cond (tm 107) k_f5_43 .skip) ∧
  Kq k_f5_41 (.seq (.reg r_f5_22) k_f5_42) ∧
  Kq k_f5_46 (.seq (.reg r_f5_25) (.exit 0)) ∧
  Kq k_f5_45 (.cond (tm 112) k_f5_46 .skip) ∧
  Kq k_f5_44 (.seq (.reg r_f5_24) k_f5_45) ∧
  Kq k_f5_40 (.seq k_f5_41 k_f5_44) ∧
  Kq k_f5_36 (.seq k_f5_37 k_f5_40) ∧
  Kq k_f5_32 (.seq k_f5_33 k_f5_36) ∧
  Kq k_f5_27 (.seq k_f5_28 k_f5_32) ∧
  Kq k_f5_26 (.seq (.reg r_f5_14) k_f5_27) ∧
  Kq k_f5_25 (.block 1 k_f5_26) ∧
  Kq k_f5_47 (.reg r_f5_13) ∧
  Kq k_f5_24 (.seq k_f5_25 k_f5_47) ∧
  Kq k_f5_21 (.seq k_f5_22 k_f5_24) ∧
  Kq k_f5_20 (.loop k_f5_21) ∧
  Kq k_f5_19 (.block 0 k_f5_20) ∧
  Kq k_f5_18 (.seq (.reg r_f5_11) k_f5_19) ∧
  Kq k_f5_54 (.cond (tm 125) .skip (.exit 2)) ∧
  Kq k_f5_53 (.seq (.reg r_f5_27) k_f5_54) ∧
  Kq k_f5_61 (.reg r_f5_31) ∧
  Kq k_f5_60 (.cond (tm 131) k_f5_61 .skip) ∧
  Kq k_f5_59 (.seq (.reg r_f5_30) k_f5_60) ∧
  Kq k_f5_66 (.reg r_f5_34) ∧
  Kq k_f5_65 (.cond (tm 153) k_f5_66 .skip) ∧
  Kq k_f5_64 (.seq (.reg r_f5_33) k_f5_65) ∧
  Kq k_f5_71 (.seq (.reg r_f5_37) .ret) ∧
  Kq k_f5_70 (.cond (tm 171) k_f5_71 .skip) ∧
  Kq k_f5_69 (.seq (.reg r_f5_36) k_f5_70) ∧
  Kq k_f5_75 (.seq (.reg r_f5_40) .ret) ∧
  Kq k_f5_74 (.cond (tm 184) k_f5_75 .skip) ∧
  Kq k_f5_73 (.seq (.reg r_f5_39) k_f5_74) ∧
  Kq k_f5_72 (.seq (.reg r_f5_38) k_f5_73) ∧
  Kq k_f5_68 (.seq k_f5_69 k_f5_72) ∧
  Kq k_f5_67 (.seq (.reg r_f5_35) k_f5_68) ∧
  Kq k_f5_63 (.seq k_f5_64 k_f5_67) ∧
  Kq k_f5_62 (.seq (.reg r_f5_32) k_f5_63) ∧
  Kq k_f5_58 (.seq k_f5_59 k_f5_62) ∧
  Kq k_f5_57 (.seq (.reg r_f5_29) k_f5_58) ∧
  Kq k_f5_56 (.block 3 k_f5_57) ∧
  Kq k_f5_76 (.reg r_f5_28) ∧
  Kq k_f5_55 (.seq k_f5_56 k_f5_76) ∧
  Kq k_f5_52 (.seq k_f5_53 k_f5_55) ∧
  Kq k_f5_51 (.loop k_f5_52) ∧
  Kq k_f5_50 (.block 2 k_f5_51) ∧
  Kq k_f5_49 (.seq (.reg r_f5_26) k_f5_50) ∧
  Kq k_f5_82 (.seq (.reg r_f5_44) .ret) ∧
  Kq k_f5_81 (.cond (tm 198) k_f5_82 .skip) ∧
  Kq k_f5_80 (.seq (.reg r_f5_43) k_f5_81) ∧
  Kq k_f5_88 (.seq (.reg r_f5_48) .ret) ∧
  Kq k_f5_87 (.cond (tm 212) k_f5_88 .skip) ∧
  Kq k_f5_86 (.seq (.reg r_f5_47) k_f5_87) ∧
  Kq k_f5_95 (.cond (tm 216) .skip (.exit 4)) ∧
  Kq k_f5_94 (.seq (.reg r_f5_50) k_f5_95) ∧
  Kq k_f5_100 (.seq (.reg r_f5_53) .ret) ∧
  Kq k_f5_99 (.cond (tm 225) k_f5_100 .skip) ∧
  Kq k_f5_98 (.seq (.drawn r_f5_52 [ (1, 0) , (5, 0) ]) k_f5_99) ∧
  Kq k_f5_97 (.block 5 k_f5_98) ∧
  Kq k_f5_101 (.reg r_f5_51) ∧
  Kq k_f5_96 (.seq k_f5_97 k_f5_101) ∧
  Kq k_f5_93 (.seq k_f5_94 k_f5_96) ∧
  Kq k_f5_92 (.loop k_f5_93) ∧
  Kq k_f5_91 (.block 4 k_f5_92) ∧
  Kq k_f5_90 (.seq (.reg r_f5_49) k_f5_91) ∧
  Kq k_f5_102 (.seq (.reg r_f5_54) .ret) ∧
  Kq k_f5_89 (.seq k_f5_90 k_f5_102) ∧
  Kq k_f5_85 (.seq k_f5_86 k_f5_89) ∧
  Kq k_f5_84 (.seq (.reg r_f5_46) k_f5_85) ∧
  Kq k_f5_83 (.seq (.reg r_f5_45) k_f5_84) ∧
  Kq k_f5_79 (.seq k_f5_80 k_f5_83) ∧
  Kq k_f5_78 (.seq (.reg r_f5_42) k_f5_79) ∧
  Kq k_f5_77 (.seq (.reg r_f5_41) k_f5_78) ∧
  Kq k_f5_48 (.seq k_f5_49 k_f5_77) ∧
  Kq k_f5_17 (.seq k_f5_18 k_f5_48) ∧
  Kq k_f5_16 (.seq (.reg r_f5_10) k_f5_17) ∧
  Kq k_f5_12 (.seq k_f5_13 k_f5_16) ∧
  Kq k_f5_8 (.seq k_f5_9 k_f5_12) ∧
  Kq k_f5_7 (.seq (.reg r_f5_5) k_f5_8) ∧
  Kq k_f5_6 (.seq (.reg r_f5_4) k_f5_7) ∧
  Kq k_f5_5 (.seq (.reg r_f5_3) k_f5_6) ∧
  Kq k_f5_1 (.seq k_f5_2 k_f5_5) ∧
  Kq c_f5 (.seq (.reg r_f5_0) k_f5_1) := ⟨kr, kr, kr, kr, kr, kr, kr, kr, kr, kr, kr, kr, kr, kr, kr, kr, kr, kr, kr, kr, kr, kr, kr, kr, kr, kr, kr, kr, kr, kr, kr, kr, kr, kr, kr, kr, kr, kr, kr, kr, kr, kr, kr, kr, kr, kr, kr, kr, kr, kr, kr, kr, kr, kr, kr, kr, kr, kr, kr, kr, kr, kr, kr, kr, kr, kr, kr, kr, kr, kr, kr, kr, kr, kr, kr, kr, kr, kr, kr, kr, kr, kr, kr, kr, kr, kr, kr, kr, kr, kr, kr, kr, kr, kr, kr, kr, kr, kr, kr, kr, kr, kr, kr⟩
theorem at_f5 : FnAt Tryz.prog tb fn_f5 c_f5 226 [.tmp 8] := fnAt_of tb_fs Tryz.func5 rfl (by kernel_rfl) (by kernel_rfl) rfl rfl
def k_b8_5 : CC := (.seq (.reg r_b8_2) .ret)
def k_b8_8 : CC := (.seq (.reg r_b8_4) .ret)
def k_b8_7 : CC := (.cond (tm 12) k_b8_8 .skip)
def k_b8_6 : CC := (.seq (.reg r_b8_3) k_b8_7)
def k_b8_4 : CC := (.cond (tm 5) k_b8_5 k_b8_6)
def k_b8_3 : CC := (.seq (.reg r_b8_1) k_b8_4)
def k_b8_2 : CC := (.block 0 k_b8_3)
def k_b8_10 : CC := (.seq (.reg r_b8_6) .ret)
def k_b8_9 : CC := (.seq (.reg r_b8_5) k_b8_10)
def k_b8_1 : CC := (.seq k_b8_2 k_b8_9)
def c_b8 : CC := (.seq (.reg r_b8_0) k_b8_1)
theorem o_b8 : Kq k_b8_5 (.seq (.reg r_b8_2) .ret) ∧
  Kq k_b8_8 (.seq (.reg r_b8_4) .ret) ∧
  Kq k_b8_7 (.cond (tm 12) k_b8_8 .skip) ∧
  Kq k_b8_6 (.seq (.reg r_b8_3) k_b8_7) ∧
  Kq k_b8_4 (.cond (tm 5) k_b8_5 k_b8_6) ∧
  Kq k_b8_3 (.seq (.reg r_b8_1) k_b8_4) ∧
  Kq k_b8_2 (.block 0 k_b8_3) ∧
  Kq k_b8_10 (.seq (.reg r_b8_6) .ret) ∧
  Kq k_b8_9 (.seq (.reg r_b8_5) k_b8_10) ∧
  Kq k_b8_1 (.seq k_b8_2 k_b8_9) ∧
  Kq c_b8 (.seq (.reg r_b8_0) k_b8_1) := ⟨kr, kr, kr, kr, kr, kr, kr, kr, kr, kr, kr⟩
theorem at_b8 : FnAt Tryz.prog tb fn_b8 c_b8 24 [.tmp 4] := fnAt_of tb_fs Tryz.func33 rfl (by kernel_rfl) (by kernel_rfl) rfl rfl
def k_f8_7 : CC := (.cond (tm 9) .skip (.exit 0))
def k_f8_6 : CC := (.seq (.reg r_f8_2) k_f8_7)
def k_f8_12 : CC := (.seq (.reg r_f8_5) .ret)
def k_f8_11 : CC := (.cond (tm 40) k_f8_12 .skip)
def k_f8_10 : CC := (.seq (.drawn r_f8_4 [ (4, 0) , (7, 0) , (14, 0) , (16, 0) , (24, 0) , (26, 0) ]) k_f8_11)
def k_f8_9 : CC := (.block 1 k_f8_10)
def k_f8_13 : CC := (.reg r_f8_3)
def k_f8_8 : CC := (.seq k_f8_9 k_f8_13)
def k_f8_5 : CC := (.seq k_f8_6 k_f8_8)
def k_f8_4 : CC := (.loop k_f8_5)
def k_f8_3 : CC := (.block 0 k_f8_4)
def k_f8_2 : CC := (.seq (.reg r_f8_1) k_f8_3)
def k_f8_14 : CC := (.seq (.reg r_f8_6) .ret)
def k_f8_1 : CC := (.seq k_f8_2 k_f8_14)
def c_f8 : CC := (.seq (.reg r_f8_0) k_f8_1)
theorem o_f8 : Kq k_f8_7 (.cond (tm 9) .skip (.exit 0)) ∧
  Kq k_f8_6 (.seq (.reg r_f8_2) k_f8_7) ∧
  Kq k_f8_12 (.seq (.reg r_f8_5) .ret) ∧
  Kq k_f8_11 (.cond (tm 40) k_f8_12 .skip) ∧
  Kq k_f8_10 (.seq (.drawn r_f8_4 [ (4, 0) , (7, 0) , (14, 0) , (16, 0) , (24, 0) , (26, 0) ]) k_f8_11) ∧
  Kq k_f8_9 (.block 1 k_f8_10) ∧
  Kq k_f8_13 (.reg r_f8_3) ∧
  Kq k_f8_8 (.seq k_f8_9 k_f8_13) ∧
  Kq k_f8_5 (.seq k_f8_6 k_f8_8) ∧
  Kq k_f8_4 (.loop k_f8_5) ∧
  Kq k_f8_3 (.block 0 k_f8_4) ∧
  Kq k_f8_2 (.seq (.reg r_f8_1) k_f8_3) ∧
  Kq k_f8_14 (.seq (.reg r_f8_6) .ret) ∧
  Kq k_f8_1 (.seq k_f8_2 k_f8_14) ∧
  Kq c_f8 (.seq (.reg r_f8_0) k_f8_1) := ⟨kr, kr, kr, kr, kr, kr, kr, kr, kr, kr, kr, kr, kr, kr, kr⟩
theorem at_f8 : FnAt Tryz.prog tb fn_f8 c_f8 41 [.tmp 4] := fnAt_of tb_fs Tryz.func34 rfl (by kernel_rfl) (by kernel_rfl) rfl rfl
def k_f9_8 : CC := (.cond (tm 16) .skip (.exit 0))
def k_f9_7 : CC := (.seq (.reg r_f9_3) k_f9_8)
def k_f9_16 : CC := (.cond (tm 22) .skip (.exit 2))
def k_f9_15 : CC := (.seq (.reg r_f9_6) k_f9_16)
def k_f9_19 : CC := (.drawn r_f9_8 [ (5, 0) , (7, 0) , (10, 0) , (18, 0) , (21, 0) ])
def k_f9_18 : CC := (.block 3 k_f9_19)
def k_f9_20 : CC := (.reg r_f9_7)
def k_f9_17 : CC := (.seq k_f9_18 k_f9_20)
def k_f9_14 : CC := (.seq k_f9_15 k_f9_17)
def k_f9_13 : CC := (.loop k_f9_14)
def k_f9_12 : CC := (.block 2 k_f9_13)
def k_f9_11 : CC := (.seq (.reg r_f9_5) k_f9_12)
def k_f9_10 : CC := (.block 1 k_f9_11)
def k_f9_21 : CC := (.reg r_f9_4)
def k_f9_9 : CC := (.seq k_f9_10 k_f9_21)
def k_f9_6 : CC := (.seq k_f9_7 k_f9_9)
def k_f9_5 : CC := (.loop k_f9_6)
def k_f9_4 : CC := (.block 0 k_f9_5)
def k_f9_3 : CC := (.seq (.reg r_f9_2) k_f9_4)
def k_f9_22 : CC := (.seq (.reg r_f9_9) .ret)
def k_f9_2 : CC := (.seq k_f9_3 k_f9_22)
def k_f9_1 : CC := (.seq (.reg r_f9_1) k_f9_2)
def c_f9 : CC := (.seq (.reg r_f9_0) k_f9_1)
theorem o_f9 : Kq k_f9_8 (.cond (tm 16) .skip (.exit 0)) ∧
  Kq k_f9_7 (.seq (.reg r_f9_3) k_f9_8) ∧
  Kq k_f9_16 (.cond (tm 22) .skip (.exit 2)) ∧
  Kq k_f9_15 (.seq (.reg r_f9_6) k_f9_16) ∧
  Kq k_f9_19 (.drawn r_f9_8 [ (5, 0) , (7, 0) , (10, 0) , (18, 0) , (21, 0) ]) ∧
  Kq k_f9_18 (.block 3 k_f9_19) ∧
  Kq k_f9_20 (.reg r_f9_7) ∧
  Kq k_f9_17 (.seq k_f9_18 k_f9_20) ∧
  Kq k_f9_14 (.seq k_f9_15 k_f9_17) ∧
  Kq k_f9_13 (.loop k_f9_14) ∧
  Kq k_f9_12 (.block 2 k_f9_13) ∧
  Kq k_f9_11 (.seq (.reg r_f9_5) k_f9_12) ∧
  Kq k_f9_10 (.block 1 k_f9_11) ∧
  Kq k_f9_21 (.reg r_f9_4) ∧
  Kq k_f9_9 (.seq k_f9_10 k_f9_21) ∧
  Kq k_f9_6 (.seq k_f9_7 k_f9_9) ∧
  Kq k_f9_5 (.loop k_f9_6) ∧
  Kq k_f9_4 (.block 0 k_f9_5) ∧
  Kq k_f9_3 (.seq (.reg r_f9_2) k_f9_4) ∧
  Kq k_f9_22 (.seq (.reg r_f9_9) .ret) ∧
  Kq k_f9_2 (.seq k_f9_3 k_f9_22) ∧
  Kq k_f9_1 (.seq (.reg r_f9_1) k_f9_2) ∧
  Kq c_f9 (.seq (.reg r_f9_0) k_f9_1) := ⟨kr, kr, kr, kr, kr, kr, kr, kr, kr, kr, kr, kr, kr, kr, kr, kr, kr, kr, kr, kr, kr, kr, kr⟩
theorem at_f9 : FnAt Tryz.prog tb fn_f9 c_f9 49 [.tmp 6] := fnAt_of tb_fs Tryz.func35 rfl (by kernel_rfl) (by kernel_rfl) rfl rfl
def k_b6_1 : CC := (.seq (.reg r_b6_1) .ret)
def c_b6 : CC := (.seq (.reg r_b6_0) k_b6_1)
theorem o_b6 : Kq k_b6_1 (.seq (.reg r_b6_1) .ret) ∧
  Kq c_b6 (.seq (.reg r_b6_0) k_b6_1) := ⟨kr, kr⟩
theorem at_b6 : FnAt Tryz.prog tb fn_b6 c_b6 11 [.tmp 2] := fnAt_of tb_fs Tryz.func36 rfl (by kernel_rfl) (by kernel_rfl) rfl rfl
end
end Go.Proofs.YthbfinjddaembaaGreat
