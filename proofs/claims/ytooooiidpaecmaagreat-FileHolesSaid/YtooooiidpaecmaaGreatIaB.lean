import Derived.Test.YtooooiidpaecmaaGreatAmRu
import Derived.Test.YtooooiidpaecmaaGreatAmMv
import Derived.Test.YtooooiidpaecmaaGreatAmRf
import Derived.Test.YtooooiidpaecmaaGreatRows
/- What is known ahead of a run: the fixed runs, sorted keys, sorted rows, the plan, and what lies in memory behind the making of a device. -/
namespace Go.Proofs.YtooooiidpaecmaaGreat
open Go Go.Am
noncomputable def smallV : AV := .agg [iv 64, iv 90, iv 6, iv 30, iv 2, iv 32, iv 1, iv 33, iv 1, iv 34, iv 3, iv 37]
noncomputable def tb0 : Tb := withVal (withVal (withSort (withTrue (libTb Tryz.prog 116 3 [163, 203, 225] [63]) [8, 23]) 79) 10 smallV) 24 smallV
noncomputable def cls : List Cl := [⟨89, [smallV], iv 0⟩, ⟨57, [smallV], .tuple [iv 68096, iv 0]⟩, ⟨54, [smallV, iv 2], .tuple [iv 35, iv 0, iv 0]⟩, ⟨54, [smallV, iv 3], .tuple [iv 35, iv 32, iv 0]⟩]
noncomputable def tbA : Tb := withCl tb0 cls
noncomputable def tb : Tb := withRun Tryz.prog tbA [9, 25]
set_option maxRecDepth 100000 in
theorem tb_fs : tb.fs = tabOf Tryz.prog := rfl
noncomputable abbrev B (o : BinOp) (t : TypeId) := binS Tryz.prog o t
noncomputable abbrev C (n : Nat) (f : FuncId) (a : List RO) : CO := .call (some (pth n)) none (.cst (.func f [])) a
noncomputable abbrev G (n k : Nat) (b : Bool) (o : OP) : CO := .op (some (pth n)) (some (pth k, b)) o
noncomputable abbrev O (n : Nat) (o : OP) : CO := .op (some (pth n)) none o
noncomputable abbrev mV (n k : Nat) : CO := .op (some (pth n)) none (.mv (tm k))
noncomputable abbrev lD (n k : Nat) : CO := .op (some (pth n)) none (.load (tm k))
noncomputable abbrev fA (n i k : Nat) : CO := .op (some (pth n)) none (.fa i (tm k))
noncomputable abbrev eX (n i k : Nat) : CO := .op (some (pth n)) none (.ext i (tm k))
noncomputable abbrev nL (n k : Nat) : CO := .op (some (pth n)) none (.nil (tm k))
abbrev Kq (a b : CC) : Prop := ∀ Q fr m, GX Tryz.prog tb a Q fr m = GX Tryz.prog tb b Q fr m
theorem kr {a : CC} : Kq a a := fun _ _ _ => rfl
theorem wA : type_of% (And.intro @cells_map <| And.intro @cells_func <| And.intro @o_fn <| And.intro @o_look <| And.intro @o_mlen <| And.intro @o_mupd <| And.intro @o_mdel <| And.intro @o_mkmap <| And.intro @o_clrs <| And.intro @o_mksl <| And.intro @o_b2s <| And.intro @o_mv <| And.intro @o_pick <| And.intro @o_alloc <| And.intro @o_box <| And.intro @o_build <| And.intro @o_bslice <| And.intro @o_load <| And.intro @o_loadN <| And.intro @o_store <| And.intro @o_nil <| And.intro @o_add <| And.intro @o_sub <| And.intro @o_mul <| And.intro @o_quo <| And.intro @o_rem <| And.intro @o_lt <| And.intro @o_le <| And.intro @o_gt <| And.intro @o_ge <| And.intro @o_eq <| And.intro @o_ne <| And.intro @o_eqp <| And.intro @o_un <| And.intro @o_sls <| And.intro @o_take <| And.intro @o_drop <| And.intro @o_fa <| And.intro @o_iaS <| And.intro @o_ext <| And.intro @o_len <| And.intro @o_app <| And.intro @o_toU <| And.intro @o_frU <| And.intro @o_usd <| And.intro @o_ust <| And.intro @o_min <| And.intro @o_max <| And.intro @v_elB <| And.intro @v_elPtr <| And.intro @v_elTup <| And.intro @v_elAgg <| And.intro @v_ob <| And.intro @v_rto <| @v_nil) := And.intro @cells_map <| And.intro @cells_func <| And.intro @o_fn <| And.intro @o_look <| And.intro @o_mlen <| And.intro @o_mupd <| And.intro @o_mdel <| And.intro @o_mkmap <| And.intro @o_clrs <| And.intro @o_mksl <| And.intro @o_b2s <| And.intro @o_mv <| And.intro @o_pick <| And.intro @o_alloc <| And.intro @o_box <| And.intro @o_build <| And.intro @o_bslice <| And.intro @o_load <| And.intro @o_loadN <| And.intro @o_store <| And.intro @o_nil <| And.intro @o_add <| And.intro @o_sub <| And.intro @o_mul <| And.intro @o_quo <| And.intro @o_rem <| And.intro @o_lt <| And.intro @o_le <| And.intro @o_gt <| And.intro @o_ge <| And.intro @o_eq <| And.intro @o_ne <| And.intro @o_eqp <| And.intro @o_un <| And.intro @o_sls <| And.intro @o_take <| And.intro @o_drop <| And.intro @o_fa <| And.intro @o_iaS <| And.intro @o_ext <| And.intro @o_len <| And.intro @o_app <| And.intro @o_toU <| And.intro @o_frU <| And.intro @o_usd <| And.intro @o_ust <| And.intro @o_min <| And.intro @o_max <| And.intro @v_elB <| And.intro @v_elPtr <| And.intro @v_elTup <| And.intro @v_elAgg <| And.intro @v_ob <| And.intro @v_rto <| @v_nil
theorem wB : type_of% (And.intro @v_eqp_n <| And.intro @v_eqp_nn <| And.intro @v_eqp_same <| And.intro @v_not <| And.intro @v_fa <| And.intro @v_min <| And.intro @v_max <| And.intro @b_lt <| And.intro @b_le <| And.intro @b_gt <| And.intro @b_ge <| And.intro @b_eq <| And.intro @b_ne <| And.intro @bs_eq <| And.intro @bs_ne <| And.intro @len_tv <| And.intro @len_sl <| And.intro @len_nils <| And.intro @cells_iv <| And.intro @cells_tv <| And.intro @cells_agg <| And.intro @cells_ptr <| And.intro @cells_b <| And.intro @cells_nilp <| And.intro @pv_nil <| And.intro @pv_cons <| And.intro @fillA_nil <| And.intro @fillA_cons <| And.intro @repl_1 <| And.intro @repl_2 <| And.intro @ev_tm <| And.intro @ev_cst <| And.intro @evs_cons <| And.intro @evs_nil <| And.intro @evo_some <| And.intro @evo_none <| And.intro @putD_none <| And.intro @putD_some <| And.intro @fill_cons <| And.intro @fill_nil <| And.intro @want_b <| And.intro @want_undef <| And.intro @bc_true <| And.intro @bc_false <| And.intro @nbeq <| And.intro @nble <| And.intro @one_0 <| And.intro @one_1 <| And.intro @one_2 <| And.intro @List.length_cons.{0} <| And.intro @List.length_nil.{0} <| And.intro @Nat.zero_add <| And.intro @Nat.add_zero <| And.intro @decide_true <| @decide_false) := And.intro @v_eqp_n <| And.intro @v_eqp_nn <| And.intro @v_eqp_same <| And.intro @v_not <| And.intro @v_fa <| And.intro @v_min <| And.intro @v_max <| And.intro @b_lt <| And.intro @b_le <| And.intro @b_gt <| And.intro @b_ge <| And.intro @b_eq <| And.intro @b_ne <| And.intro @bs_eq <| And.intro @bs_ne <| And.intro @len_tv <| And.intro @len_sl <| And.intro @len_nils <| And.intro @cells_iv <| And.intro @cells_tv <| And.intro @cells_agg <| And.intro @cells_ptr <| And.intro @cells_b <| And.intro @cells_nilp <| And.intro @pv_nil <| And.intro @pv_cons <| And.intro @fillA_nil <| And.intro @fillA_cons <| And.intro @repl_1 <| And.intro @repl_2 <| And.intro @ev_tm <| And.intro @ev_cst <| And.intro @evs_cons <| And.intro @evs_nil <| And.intro @evo_some <| And.intro @evo_none <| And.intro @putD_none <| And.intro @putD_some <| And.intro @fill_cons <| And.intro @fill_nil <| And.intro @want_b <| And.intro @want_undef <| And.intro @bc_true <| And.intro @bc_false <| And.intro @nbeq <| And.intro @nble <| And.intro @one_0 <| And.intro @one_1 <| And.intro @one_2 <| And.intro @List.length_cons.{0} <| And.intro @List.length_nil.{0} <| And.intro @Nat.zero_add <| And.intro @Nat.add_zero <| And.intro @decide_true <| @decide_false
theorem wC : type_of% (And.intro @Bool.true_and <| And.intro @Bool.and_true <| And.intro @Bool.and_self <| And.intro @Bool.false_and <| And.intro @Bool.and_false <| And.intro @Bool.or_false <| And.intro @Bool.false_or <| And.intro @Bool.or_true <| And.intro @Bool.true_or <| And.intro @Bool.not_true <| And.intro @Bool.not_false <| And.intro @List.take_succ_cons.{0} <| And.intro @List.take_zero.{0} <| And.intro @List.drop_succ_cons.{0} <| And.intro @List.drop_zero.{0} <| And.intro @List.drop_nil.{0} <| And.intro @List.take_nil.{0} <| And.intro @List.nil_append.{0} <| And.intro @List.cons_append.{0} <| And.intro @List.append_nil.{0} <| And.intro @GO_nil <| And.intro @GO_op <| And.intro @GO_opG <| And.intro @GO_call <| And.intro @GO_callG <| And.intro @GN_some <| And.intro @GG_true <| And.intro @GG_false <| And.intro @GF_func <| And.intro @GF_bnd <| And.intro @o_bfn <| And.intro @GF_yield <| And.intro @GFG_true <| And.intro @GFG_false <| And.intro @CK_app <| And.intro @GT_nil <| And.intro @GT_op <| And.intro @GT_opG <| And.intro @GT_call <| And.intro @TF_func <| And.intro @GT_callG <| And.intro @TN_some <| And.intro @TG_true <| And.intro @TG_false <| And.intro @TFG_true <| And.intro @TFG_false <| And.intro @TK_app <| And.intro @GX_skip <| And.intro @GX_reg <| And.intro @GX_drawn <| And.intro @GX_seq <| And.intro @GX_cond <| And.intro @GX_block <| And.intro @GX_exit <| @GX_ret) := And.intro @Bool.true_and <| And.intro @Bool.and_true <| And.intro @Bool.and_self <| And.intro @Bool.false_and <| And.intro @Bool.and_false <| And.intro @Bool.or_false <| And.intro @Bool.false_or <| And.intro @Bool.or_true <| And.intro @Bool.true_or <| And.intro @Bool.not_true <| And.intro @Bool.not_false <| And.intro @List.take_succ_cons.{0} <| And.intro @List.take_zero.{0} <| And.intro @List.drop_succ_cons.{0} <| And.intro @List.drop_zero.{0} <| And.intro @List.drop_nil.{0} <| And.intro @List.take_nil.{0} <| And.intro @List.nil_append.{0} <| And.intro @List.cons_append.{0} <| And.intro @List.append_nil.{0} <| And.intro @GO_nil <| And.intro @GO_op <| And.intro @GO_opG <| And.intro @GO_call <| And.intro @GO_callG <| And.intro @GN_some <| And.intro @GG_true <| And.intro @GG_false <| And.intro @GF_func <| And.intro @GF_bnd <| And.intro @o_bfn <| And.intro @GF_yield <| And.intro @GFG_true <| And.intro @GFG_false <| And.intro @CK_app <| And.intro @GT_nil <| And.intro @GT_op <| And.intro @GT_opG <| And.intro @GT_call <| And.intro @TF_func <| And.intro @GT_callG <| And.intro @TN_some <| And.intro @TG_true <| And.intro @TG_false <| And.intro @TFG_true <| And.intro @TFG_false <| And.intro @TK_app <| And.intro @GX_skip <| And.intro @GX_reg <| And.intro @GX_drawn <| And.intro @GX_seq <| And.intro @GX_cond <| And.intro @GX_block <| And.intro @GX_exit <| @GX_ret
theorem wD : type_of% (And.intro @GX_goto <| And.intro @RK_app <| And.intro @DK_app <| And.intro @SK_normal <| And.intro @SK_ret <| And.intro @SK_exit <| And.intro @SK_goto <| And.intro @GC_true <| And.intro @GC_false <| And.intro @BK_normal <| And.intro @BK_ret <| And.intro @BK_goto <| And.intro @BK_exit <| And.intro @BE_true <| And.intro @BE_false <| And.intro @LK_ret <| And.intro @LK_exit <| And.intro @LK_goto <| And.intro @FK_ret0 <| And.intro @FK_nor0 <| And.intro @FK_ret1 <| And.intro @FK_ret2 <| And.intro @FK_ret3 <| And.intro @PK_normal <| And.intro @PK_ret <| And.intro @PK_exit <| And.intro @JK_normal <| And.intro @JK_ret <| And.intro @JK_exit <| And.intro @lastT_1 <| And.intro @lastT_c <| And.intro @again0_at <| And.intro @List.all_cons.{0} <| And.intro @List.all_nil.{0} <| And.intro @want_none <| And.intro @want_sm <| And.intro @aq_iv <| And.intro @aq_tv <| And.intro @aq_ptr <| And.intro @aq_b <| And.intro @aq_map <| And.intro @aq_nilp <| And.intro @aq_undef <| And.intro @sl_aq <| And.intro @cells_slc <| And.intro @cells_nil' <| And.intro @cells_yc <| And.intro @nc0 <| And.intro @ilt <| And.intro @ile <| And.intro @Option.some.injEq.{0} <| And.intro @true_and <| And.intro @and_true <| @and_self) := And.intro @GX_goto <| And.intro @RK_app <| And.intro @DK_app <| And.intro @SK_normal <| And.intro @SK_ret <| And.intro @SK_exit <| And.intro @SK_goto <| And.intro @GC_true <| And.intro @GC_false <| And.intro @BK_normal <| And.intro @BK_ret <| And.intro @BK_goto <| And.intro @BK_exit <| And.intro @BE_true <| And.intro @BE_false <| And.intro @LK_ret <| And.intro @LK_exit <| And.intro @LK_goto <| And.intro @FK_ret0 <| And.intro @FK_nor0 <| And.intro @FK_ret1 <| And.intro @FK_ret2 <| And.intro @FK_ret3 <| And.intro @PK_normal <| And.intro @PK_ret <| And.intro @PK_exit <| And.intro @JK_normal <| And.intro @JK_ret <| And.intro @JK_exit <| And.intro @lastT_1 <| And.intro @lastT_c <| And.intro @again0_at <| And.intro @List.all_cons.{0} <| And.intro @List.all_nil.{0} <| And.intro @want_none <| And.intro @want_sm <| And.intro @aq_iv <| And.intro @aq_tv <| And.intro @aq_ptr <| And.intro @aq_b <| And.intro @aq_map <| And.intro @aq_nilp <| And.intro @aq_undef <| And.intro @sl_aq <| And.intro @cells_slc <| And.intro @cells_nil' <| And.intro @cells_yc <| And.intro @nc0 <| And.intro @ilt <| And.intro @ile <| And.intro @Option.some.injEq.{0} <| And.intro @true_and <| And.intro @and_true <| @and_self
noncomputable section
abbrev fn_h8 : FuncId := 7
abbrev fn_e1 : FuncId := 12
abbrev fn_d6 : FuncId := 13
abbrev fn_d9 : FuncId := 16
abbrev fn_e2 : FuncId := 18
abbrev fn_d8 : FuncId := 19
abbrev fn_e0 : FuncId := 20
abbrev fn_l14_wakes : FuncId := 23
abbrev fn_l14_small : FuncId := 24
abbrev fn_l14_made : FuncId := 25
abbrev fn_g4 : FuncId := 27
abbrev fn_g1 : FuncId := 29
abbrev fn_f9 : FuncId := 30
abbrev fn_g3 : FuncId := 33
abbrev fn_j0 : FuncId := 43
abbrev fn_d0 : FuncId := 44
abbrev fn_e3 : FuncId := 45
abbrev fn_a0 : FuncId := 46
abbrev fn_e6 : FuncId := 47
abbrev fn_d7 : FuncId := 48
abbrev fn_g9 : FuncId := 49
abbrev fn_b9 : FuncId := 51
abbrev fn_plan_Place : FuncId := 54
abbrev fn_f2 : FuncId := 55
abbrev fn_e4 : FuncId := 56
abbrev fn_plan_MaxSize : FuncId := 57
abbrev fn_e5 : FuncId := 58
abbrev fn_f3 : FuncId := 59
abbrev fn_g7 : FuncId := 69
abbrev fn_b1 : FuncId := 70
abbrev fn_g5 : FuncId := 71
abbrev fn_g8 : FuncId := 72
abbrev fn_c9 : FuncId := 73
abbrev fn_b0 : FuncId := 74
abbrev fn_g6 : FuncId := 75
abbrev fn_g2 : FuncId := 76
abbrev fn_b7 : FuncId := 77
abbrev fn_g0 : FuncId := 78
abbrev fn_slices_Sort_sint_int : FuncId := 79
abbrev fn_j1 : FuncId := 93
abbrev fn_d5 : FuncId := 94
abbrev fn_d1 : FuncId := 95
abbrev fn_d2 : FuncId := 96
abbrev fn_f5 : FuncId := 97
abbrev fn_a8 : FuncId := 98
abbrev fn_f6 : FuncId := 99
abbrev fn_a5 : FuncId := 100
abbrev fn_c1 : FuncId := 101
abbrev fn_b5 : FuncId := 103
abbrev fn_b4 : FuncId := 104
abbrev fn_b6 : FuncId := 105
abbrev fn_a1 : FuncId := 106
abbrev fn_b3 : FuncId := 107
abbrev fn_b2 : FuncId := 108
abbrev fn_f4 : FuncId := 109
abbrev fn_d4 : FuncId := 110
abbrev fn_Sorted : FuncId := 116
abbrev fn_a9 : FuncId := 120
abbrev fn_c4 : FuncId := 122
abbrev fn_c0 : FuncId := 125
abbrev fn_c5 : FuncId := 126
abbrev fn_c2 : FuncId := 127
abbrev fn_d3 : FuncId := 145
abbrev fn_f7 : FuncId := 146
abbrev fn_a2 : FuncId := 147
abbrev fn_a7 : FuncId := 148
abbrev fn_e7 : FuncId := 149
abbrev fn_a6 : FuncId := 151
abbrev fn_c8 : FuncId := 152
abbrev fn_f1 : FuncId := 153
abbrev fn_c3 : FuncId := 167
abbrev fn_Ca_Get : FuncId := 169
abbrev fn_c6 : FuncId := 170
abbrev fn_c7 : FuncId := 171
abbrev fn_f8 : FuncId := 191
abbrev fn_a3 : FuncId := 192
abbrev fn_e9 : FuncId := 193
abbrev fn_f0 : FuncId := 194
abbrev fn_a4 : FuncId := 196
abbrev fn_Keys_1 : FuncId := 203
abbrev fn_e8 : FuncId := 216
abbrev ty_int : TypeId := 3
abbrev ty_uint8 : TypeId := 5
abbrev ty_string : TypeId := 9
abbrev ty_sint : TypeId := 22
abbrev ty_pgroup_Group : TypeId := 24
abbrev ty_palloc_Alloc : TypeId := 25
abbrev ty_pinode_Table : TypeId := 26
abbrev ty_api_Plan : TypeId := 30
abbrev ty_pgroup_Op : TypeId := 32
abbrev ty_api_Errno : TypeId := 33
abbrev ty_api_Inode : TypeId := 53
abbrev ty_suint8 : TypeId := 59
abbrev ty_pwal_Log : TypeId := 78
abbrev ty_map_int_suint8 : TypeId := 93
abbrev ty_group_blocks : TypeId := 94
abbrev ty_group_Op : TypeId := 99
abbrev ty_inode_slot : TypeId := 104
abbrev ty_map_int_int : TypeId := 109
abbrev ty_func_int_int_int_api_Errno : TypeId := 110
abbrev ty_pint : TypeId := 111
abbrev ty_alloc_bitmap : TypeId := 115
abbrev ty_struct : TypeId := 134
abbrev ty_pfile_content : TypeId := 135
abbrev ty_file_content : TypeId := 139
abbrev ty_file_piece : TypeId := 144
abbrev ty_codec_writer : TypeId := 184
abbrev ty_codec_reader : TypeId := 190
abbrev ty_api_Write : TypeId := 199
theorem aD (a b : Int) (h1 : -9223372036854775808 ≤ a + b := by omega) (h2 : a + b ≤ 9223372036854775807 := by omega) : binS Tryz.prog .add ty_int (iv a) (iv b) = some (iv (a + b)) := b_add ty_int h1 h2
theorem sB (a b : Int) (h1 : -9223372036854775808 ≤ a - b := by omega) (h2 : a - b ≤ 9223372036854775807 := by omega) : binS Tryz.prog .sub ty_int (iv a) (iv b) = some (iv (a - b)) := b_sub ty_int h1 h2
def r_h8_0 : List CO := [
  O 6 (.mv (.cst (.b false)))]
def r_h8_1 : List CO := [
  C 18 fn_l14_wakes [],
 O 19 (.un .not (tm 18))]
def r_h8_2 : List CO := [
  O 6 (.mv (.cst (.b false)))]
def r_h8_3 : List CO := [
  mV 20 0,
 O 21 (.lt (B .lss ty_int) (tm 20) (.cst (iv 64))),
 mV 22 21,
 G 23 22 false (.mv (tm 0)),
 G 24 22 false (.gt (B .gtr ty_int) (tm 23) (.cst (iv 3000))),
 O 25 (.pick (tm 22) (.cst (.b true)) (tm 24)),
 mV 26 25,
 G 27 26 false (.mv (tm 2)),
 G 28 26 false (.lt (B .lss ty_int) (tm 27) (.cst (iv 0))),
 O 29 (.pick (tm 26) (.cst (.b true)) (tm 28)),
 mV 30 29,
 G 31 30 false (.mv (tm 2)),
 G 32 30 false (.gt (B .gtr ty_int) (tm 31) (.cst (iv 3000))),
 O 33 (.pick (tm 30) (.cst (.b true)) (tm 32)),
 mV 34 33,
 G 35 34 false (.mv (tm 1)),
 G 36 34 false (.eq (B .eql ty_uint8) (tm 35) (.cst (.y 0))),
 O 37 (.pick (tm 34) (.cst (.b true)) (tm 36))]
def r_h8_4 : List CO := [
  O 6 (.mv (.cst (.b true)))]
def r_h8_5 : List CO := [
  C 38 fn_l14_small [],
 O 7 (.alloc ty_api_Plan 12 [(iv 0), (iv 0), (iv 0), (iv 0), (iv 0), (iv 0), (iv 0), (iv 0), (iv 0), (iv 0), (iv 0), (iv 0)]),
 .op none none (.store 12 (tm 7) (tm 38))]
def r_h8_6 : List CO := [
  O 40 (.loadN 12 (tm 7)),
 C 41 fn_l14_made [(tm 40), (.cst (iv 8)), (.cst nils)],
 mV 39 41,
 eX 42 0 39,
 eX 43 1 39,
 eX 44 2 39,
 mV 8 42,
 mV 9 43,
 mV 10 44]
def r_h8_7 : List CO := [
  mV 45 10,
 mV 46 9,
 O 47 (.loadN 12 (tm 7)),
 mV 48 0,
 mV 49 1,
 O 50 (.bslice ty_uint8 1 1 [(.y 0)] [(0, 1, (tm 49))]),
 C 51 fn_g4 [(tm 45), (tm 46), (tm 47), (.cst (iv 2)), (tm 48), (tm 50)],
 mV 11 51]
def r_h8_8 : List CO := [
  mV 53 10,
 mV 54 9,
 C 55 fn_f9 [(tm 53), (tm 54), (.cst (iv 2))],
 mV 52 55,
 eX 56 0 52,
 eX 57 1 52,
 mV 12 56,
 mV 13 57]
def r_h8_9 : List CO := [
  mV 58 11,
 O 59 (.ne (B .neq ty_api_Errno) (tm 58) (.cst (iv 0))),
 mV 60 59,
 G 61 60 false (.mv (tm 13)),
 G 62 60 false (.ne (B .neq ty_api_Errno) (tm 61) (.cst (iv 0))),
 O 63 (.pick (tm 60) (.cst (.b true)) (tm 62)),
 mV 64 63,
 G 65 64 false (.mv (tm 12)),
 G 66 64 false (.len false (tm 65)),
 G 67 64 false (.ne (B .neq ty_int) (tm 66) (.cst (iv 1))),
 O 68 (.pick (tm 64) (.cst (.b true)) (tm 67))]
def r_h8_10 : List CO := [
  O 6 (.mv (.cst (.b false)))]
def r_h8_11 : List CO := [
  mV 69 10,
 mV 70 9,
 O 71 (.loadN 12 (tm 7)),
 mV 72 2,
 C 73 fn_g3 [(tm 69), (tm 70), (tm 71), (.cst (iv 2)), (tm 72)],
 mV 11 73]
def r_h8_12 : List CO := [
  mV 74 10,
 mV 75 9,
 O 76 (.loadN 12 (tm 7)),
 mV 77 0,
 O 78 (.add (B .add ty_int) (tm 77) (.cst (iv 1))),
 C 79 fn_g3 [(tm 74), (tm 75), (tm 76), (.cst (iv 2)), (tm 78)],
 mV 13 79]
def r_h8_13 : List CO := [
  mV 81 10,
 mV 82 9,
 O 83 (.loadN 12 (tm 7)),
 mV 84 0,
 C 85 fn_g1 [(tm 81), (tm 82), (tm 83), (.cst (iv 2)), (tm 84), (.cst (iv 5))],
 mV 80 85,
 eX 86 0 80,
 eX 87 1 80,
 mV 14 86,
 mV 15 87]
def r_h8_14 : List CO := [
  mV 89 10,
 mV 90 9,
 C 91 fn_f9 [(tm 89), (tm 90), (.cst (iv 2))],
 mV 88 91,
 eX 92 0 88,
 eX 93 1 88,
 mV 12 92,
 mV 16 93]
def r_h8_15 : List CO := [
  mV 94 1,
 mV 17 94]
def r_h8_16 : List CO := [
  mV 95 2,
 mV 96 0,
 O 97 (.le (B .leq ty_int) (tm 95) (tm 96))]
def r_h8_17 : List CO := [
  O 17 (.mv (.cst (.y 0)))]
def r_h8_18 : List CO := [
  mV 98 11,
 O 99 (.eq (B .eql ty_api_Errno) (tm 98) (.cst (iv 0))),
 mV 100 99,
 G 101 100 true (.mv (tm 13)),
 G 102 100 true (.eq (B .eql ty_api_Errno) (tm 101) (.cst (iv 0))),
 O 103 (.pick (tm 100) (tm 102) (.cst (.b false))),
 mV 104 103,
 G 105 104 true (.mv (tm 15)),
 G 106 104 true (.eq (B .eql ty_api_Errno) (tm 105) (.cst (iv 0))),
 O 107 (.pick (tm 104) (tm 106) (.cst (.b false))),
 mV 108 107,
 G 109 108 true (.mv (tm 16)),
 G 110 108 true (.eq (B .eql ty_api_Errno) (tm 109) (.cst (iv 0))),
 O 111 (.pick (tm 108) (tm 110) (.cst (.b false))),
 mV 112 111,
 G 113 112 true (.mv (tm 14)),
 G 114 112 true (.len false (tm 113)),
 G 115 112 true (.eq (B .eql ty_int) (tm 114) (.cst (iv 1))),
 O 116 (.pick (tm 112) (tm 115) (.cst (.b false))),
 mV 117 116,
 G 118 117 true (.mv (tm 14)),
 G 119 117 true (.iaS 1 (tm 118) (.cst (iv 0))),
 G 120 117 true (.load (tm 119)),
 G 121 117 true (.mv (tm 17)),
 G 122 117 true (.eq (B .eql ty_uint8) (tm 120) (tm 121)),
 O 123 (.pick (tm 117) (tm 122) (.cst (.b false))),
 mV 124 123,
 G 125 124 true (.mv (tm 12)),
 G 126 124 true (.len false (tm 125)),
 G 127 124 true (.le (B .leq ty_int) (tm 126) (.cst (iv 1))),
 O 128 (.pick (tm 124) (tm 127) (.cst (.b false))),
 mV 6 128]
def r_e1_0 : List CO := [
  O 8 (.mv (.cst (iv 0))),
 O 9 (.mv (.cst (.b false))),
 O 10 (.mv (.cst (iv 0)))]
def r_e1_1 : List CO := [
  mV 15 0,
 O 16 (.eqp false (B .eql ty_pinode_Table) (tm 15) (.cst nilp))]
def r_e1_2 : List CO := [
  O 8 (.mv (.cst (iv 0))),
 O 9 (.mv (.cst (.b false))),
 O 10 (.mv (.cst (iv 1)))]
def r_e1_3 : List CO := [
  mV 18 0,
 nL 19 18,
 fA 20 1 19,
 O 21 (.loadN 12 (tm 20)),
 mV 22 3,
 C 23 fn_j0 [(tm 21), (tm 22)],
 mV 17 23,
 eX 24 0 17,
 eX 25 1 17,
 mV 11 24,
 mV 10 25]
def r_e1_4 : List CO := [
  mV 26 10,
 O 27 (.ne (B .neq ty_api_Errno) (tm 26) (.cst (iv 0)))]
def r_e1_5 : List CO := [
  mV 28 10,
 O 8 (.mv (.cst (iv 0))),
 O 9 (.mv (.cst (.b false))),
 mV 10 28]
def r_e1_6 : List CO := [
  mV 29 2,
 O 30 (.build [(iv 0), (iv 0), (iv 0)] [(0, 1, (tm 29))]),
 O 12 (.alloc ty_inode_slot 3 [(iv 0), (iv 0), (iv 0)]),
 .op none none (.store 3 (tm 12) (tm 30))]
def r_e1_7 : List CO := [
  mV 31 11,
 O 32 (.len false (tm 31)),
 O 33 (.mv (.cst (iv 0)))]
def r_e1_8 : List CO := [
  O 34 (.lt (B .lss ty_int) (tm 33) (tm 32))]
def r_e1_9 : List CO := [
  mV 35 33,
 O 36 (.iaS 1 (tm 31) (tm 33)),
 lD 37 36,
 mV 13 35,
 mV 14 37]
def r_e1_10 : List CO := [
  mV 38 14,
 fA 39 2 12,
 .op none none (.store 1 (tm 39) (tm 38))]
def r_e1_11 : List CO := [
  mV 40 9,
 mV 41 40,
 G 42 41 true (.mv (tm 13)),
 G 43 41 true (.gt (B .gtr ty_int) (tm 42) (.cst (iv 0))),
 O 44 (.pick (tm 41) (tm 43) (.cst (.b false)))]
def r_e1_12 : List CO := [
  mV 45 1,
 fA 46 1 12,
 lD 47 46,
 mV 48 0,
 nL 49 48,
 fA 50 1 49,
 fA 51 0 50,
 lD 52 51,
 O 53 (.mksl ty_uint8 1 1 [(.y 0)] (tm 52) (tm 52)),
 C 54 fn_d0 [(tm 45), (tm 47), (tm 53)],
 mV 10 54]
def r_e1_13 : List CO := [
  mV 55 10,
 O 56 (.ne (B .neq ty_api_Errno) (tm 55) (.cst (iv 0)))]
def r_e1_14 : List CO := [
  mV 57 10,
 O 8 (.mv (.cst (iv 0))),
 O 9 (.mv (.cst (.b false))),
 mV 10 57]
def r_e1_15 : List CO := [
  mV 59 0,
 mV 60 1,
 O 61 (.loadN 3 (tm 12)),
 C 62 fn_e3 [(tm 59), (tm 60), (tm 61)],
 mV 58 62,
 eX 63 0 58,
 eX 64 1 58,
 mV 8 63,
 mV 10 64]
def r_e1_16 : List CO := [
  mV 65 10,
 O 66 (.ne (B .neq ty_api_Errno) (tm 65) (.cst (iv 0)))]
def r_e1_17 : List CO := [
  mV 67 10,
 O 8 (.mv (.cst (iv 0))),
 O 9 (.mv (.cst (.b false))),
 mV 10 67]
def r_e1_18 : List CO := [
  mV 68 8,
 O 69 (.eq (B .eql ty_int) (tm 68) (.cst (iv 0))),
 mV 9 69]
def r_e1_19 : List CO := [
  mV 70 9]
def r_e1_20 : List CO := [
  mV 72 0,
 nL 73 72,
 fA 74 0 73,
 lD 75 74,
 mV 76 1,
 C 77 fn_a0 [(tm 75), (tm 76)],
 mV 71 77,
 eX 78 0 71,
 eX 79 1 71,
 mV 8 78,
 mV 10 79]
def r_e1_21 : List CO := [
  mV 80 10,
 O 81 (.ne (B .neq ty_api_Errno) (tm 80) (.cst (iv 0)))]
def r_e1_22 : List CO := [
  mV 82 10,
 O 8 (.mv (.cst (iv 0))),
 O 9 (.mv (.cst (.b false))),
 mV 10 82]
def r_e1_23 : List CO := [
  mV 83 0,
 mV 84 1,
 O 85 (.loadN 3 (tm 12)),
 mV 86 8,
 C 87 fn_e6 [(tm 83), (tm 84), (tm 85), (tm 86)],
 mV 10 87]
def r_e1_24 : List CO := [
  mV 88 10,
 O 89 (.ne (B .neq ty_api_Errno) (tm 88) (.cst (iv 0)))]
def r_e1_25 : List CO := [
  mV 90 10,
 O 8 (.mv (.cst (iv 0))),
 O 9 (.mv (.cst (.b false))),
 mV 10 90]
def r_e1_26 : List CO := [
  mV 91 8,
 fA 92 1 12,
 .op none none (.store 1 (tm 92) (tm 91))]
def r_e1_27 : List CO := [
  O 93 (.add (B .add ty_int) (tm 33) (.cst (iv 1))),
 mV 33 93]
def r_e1_28 : List CO := [
  mV 94 8,
 mV 95 9,
 mV 8 94,
 mV 9 95,
 O 10 (.mv (.cst (iv 0)))]
def r_d6_0 : List CO := [
  O 3 (.box ty_pinode_Table (tm 0)),
 O 4 (.box ty_pgroup_Op (tm 1)),
 O 5 (.box ty_int (tm 2)),
 O 6 (.mv (.cst nils)),
 O 7 (.mv (.cst nils)),
 O 8 (.mv (.cst (iv 0)))]
def r_d6_1 : List CO := [
  lD 19 3,
 O 20 (.eqp false (B .eql ty_pinode_Table) (tm 19) (.cst nilp))]
def r_d6_2 : List CO := [
  O 6 (.mv (.cst nils)),
 O 7 (.mv (.cst nils)),
 O 8 (.mv (.cst (iv 1)))]
def r_d6_3 : List CO := [
  lD 22 3,
 lD 23 4,
 lD 24 5,
 C 25 fn_e0 [(tm 22), (tm 23), (tm 24)],
 mV 21 25,
 eX 26 0 21,
 eX 27 1 21,
 O 9 (.alloc ty_api_Inode 13 [(iv 0), (iv 0), (iv 0), (iv 0), (iv 0), (iv 0), (iv 0), (iv 0), (iv 0), (iv 0), (iv 0), (iv 0), (iv 0)]),
 .op none none (.store 13 (tm 9) (tm 26)),
 mV 8 27]
def r_d6_4 : List CO := [
  mV 28 8,
 O 29 (.ne (B .neq ty_api_Errno) (tm 28) (.cst (iv 0)))]
def r_d6_5 : List CO := [
  mV 30 8,
 O 6 (.mv (.cst nils)),
 O 7 (.mv (.cst nils)),
 mV 8 30]
def r_d6_6 : List CO := [
  O 31 (.mkmap none),
 O 10 (.alloc ty_map_int_int 1 [nilm]),
 .op none none (.store 1 (tm 10) (tm 31))]
def r_d6_7 : List CO := [
  O 11 (.alloc ty_int 1 [(iv 0)]),
 .op none none (.store 1 (tm 11) (.cst (iv (-1))))]
def r_d6_8 : List CO := [
  O 12 (.alloc ty_sint 1 [nils])]
def r_d6_9 : List CO := [
  O 13 (.alloc ty_func_int_int_int_api_Errno 1 [nilf])]
def r_d6_10 : List CO := [
  O 32 (.fn fn_d7 [(tm 10), (tm 11), (tm 12), (tm 3), (tm 4), (tm 5), (tm 13)]),
 .op none none (.store 1 (tm 13) (tm 32))]
def r_d6_11 : List CO := [
  O 33 (.mv (.cst (iv 0)))]
def r_d6_12 : List CO := [
  O 34 (.lt (B .lss ty_int) (tm 33) (.cst (iv 10)))]
def r_d6_13 : List CO := [
  mV 35 33,
 mV 14 35]
def r_d6_14 : List CO := [
  mV 36 14,
 mV 15 36,
 O 16 (.mv (.cst (iv 0)))]
def r_d6_15 : List CO := [
  mV 37 14]
def r_d6_16 : List CO := [
  O 39 (.eq (B .eql ty_int) (tm 37) (.cst (iv 8))),
 mV 38 39]
def r_d6_17 : List CO := [
  O 16 (.mv (.cst (iv 1)))]
def r_d6_18 : List CO := [
  O 41 (.eq (B .eql ty_int) (tm 37) (.cst (iv 9))),
 mV 40 41]
def r_d6_19 : List CO := [
  lD 42 3,
 nL 43 42,
 fA 44 13 43,
 lD 45 44,
 O 46 (.add (B .add ty_int) (.cst (iv 8)) (tm 45)),
 mV 15 46,
 O 16 (.mv (.cst (iv 2)))]
def r_d6_20 : List CO := [
  lD 47 13,
 mV 48 14,
 C 49 fn_g9 [(tm 9), (tm 48)],
 nL 50 49,
 lD 51 50,
 mV 52 15,
 mV 53 16,
 .call (some (pth 54)) none (tm 47) [(tm 51), (tm 52), (tm 53)],
 mV 17 54]
def r_d6_21 : List CO := [
  mV 55 17,
 O 56 (.ne (B .neq ty_api_Errno) (tm 55) (.cst (iv 0)))]
def r_d6_22 : List CO := [
  mV 57 17,
 O 6 (.mv (.cst nils)),
 O 7 (.mv (.cst nils)),
 mV 8 57]
def r_d6_23 : List CO := [
  O 58 (.add (B .add ty_int) (tm 33) (.cst (iv 1))),
 mV 33 58]
def r_d6_24 : List CO := [
  lD 59 11,
 O 60 (.add (B .add ty_int) (tm 59) (.cst (iv 1))),
 O 61 (.mv (.cst (iv 0)))]
def r_d6_25 : List CO := [
  O 62 (.lt (B .lss ty_int) (tm 61) (tm 60))]
def r_d6_26 : List CO := [
  mV 63 61,
 mV 18 63]
def r_d6_27 : List CO := [
  mV 64 6,
 lD 65 10,
 mV 66 18,
 O 67 (.look (some .i64) (iv 0) false (tm 65) (tm 66)),
 O 68 (.bslice ty_int 1 1 [(iv 0)] [(0, 1, (tm 67))]),
 O 69 (.app ty_int 1 8 [(iv 0)] (tm 64) (tm 68)),
 mV 6 69]
def r_d6_28 : List CO := [
  O 70 (.add (B .add ty_int) (tm 61) (.cst (iv 1))),
 mV 61 70]
def r_d6_29 : List CO := [
  mV 71 6,
 lD 72 12,
 mV 6 71,
 mV 7 72,
 O 8 (.mv (.cst (iv 0)))]
def r_d9_0 : List CO := [
  O 8 (.mv (.cst (iv 0))),
 O 9 (.mv (.cst (iv 0)))]
def r_d9_1 : List CO := [
  mV 14 0,
 O 15 (.eqp false (B .eql ty_pinode_Table) (tm 14) (.cst nilp))]
def r_d9_2 : List CO := [
  O 8 (.mv (.cst (iv 0))),
 O 9 (.mv (.cst (iv 1)))]
def r_d9_3 : List CO := [
  mV 17 0,
 nL 18 17,
 fA 19 1 18,
 O 20 (.loadN 12 (tm 19)),
 mV 21 3,
 C 22 fn_j0 [(tm 20), (tm 21)],
 mV 16 22,
 eX 23 0 16,
 eX 24 1 16,
 mV 10 23,
 mV 11 24]
def r_d9_4 : List CO := [
  mV 25 11,
 O 26 (.ne (B .neq ty_api_Errno) (tm 25) (.cst (iv 0)))]
def r_d9_5 : List CO := [
  mV 27 11,
 O 8 (.mv (.cst (iv 0))),
 mV 9 27]
def r_d9_6 : List CO := [
  mV 28 2,
 O 29 (.build [(iv 0), (iv 0), (iv 0)] [(0, 1, (tm 28))]),
 O 12 (.alloc ty_inode_slot 3 [(iv 0), (iv 0), (iv 0)]),
 .op none none (.store 3 (tm 12) (tm 29))]
def r_d9_7 : List CO := [
  O 13 (.mv (.cst (iv 0)))]
def r_d9_8 : List CO := [
  mV 30 10,
 O 31 (.len false (tm 30)),
 O 32 (.mv (.cst (iv 0)))]
def r_d9_9 : List CO := [
  O 33 (.lt (B .lss ty_int) (tm 32) (tm 31))]
def r_d9_10 : List CO := [
  O 34 (.iaS 1 (tm 30) (tm 32)),
 lD 35 34,
 fA 36 2 12,
 .op none none (.store 1 (tm 36) (tm 35))]
def r_d9_11 : List CO := [
  mV 38 0,
 mV 39 1,
 O 40 (.loadN 3 (tm 12)),
 C 41 fn_e3 [(tm 38), (tm 39), (tm 40)],
 mV 37 41,
 eX 42 0 37,
 eX 43 1 37,
 mV 13 42,
 mV 11 43]
def r_d9_12 : List CO := [
  mV 44 11,
 O 45 (.ne (B .neq ty_api_Errno) (tm 44) (.cst (iv 0)))]
def r_d9_13 : List CO := [
  mV 46 11,
 O 8 (.mv (.cst (iv 0))),
 mV 9 46]
def r_d9_14 : List CO := [
  mV 47 13,
 O 48 (.eq (B .eql ty_int) (tm 47) (.cst (iv 0)))]
def r_d9_15 : List CO := [
  mV 49 13,
 fA 50 1 12,
 .op none none (.store 1 (tm 50) (tm 49))]
def r_d9_16 : List CO := [
  O 51 (.add (B .add ty_int) (tm 32) (.cst (iv 1))),
 mV 32 51]
def r_d9_17 : List CO := [
  mV 52 13,
 mV 8 52,
 O 9 (.mv (.cst (iv 0)))]
def r_e2_0 : List CO := [
  O 7 (.box ty_api_Inode (tm 3)),
 O 8 (.mv (.cst (iv 0)))]
def r_e2_1 : List CO := [
  mV 17 0,
 O 18 (.eqp false (B .eql ty_pinode_Table) (tm 17) (.cst nilp))]
def r_e2_2 : List CO := [
  O 8 (.mv (.cst (iv 1)))]
def r_e2_3 : List CO := [
  mV 20 0,
 nL 21 20,
 fA 22 1 21,
 O 23 (.loadN 12 (tm 22)),
 mV 24 2,
 C 25 fn_plan_Place [(tm 23), (tm 24)],
 mV 19 25,
 eX 26 0 19,
 eX 27 1 19,
 eX 28 2 19,
 mV 9 26,
 mV 10 27,
 mV 11 28]
def r_e2_4 : List CO := [
  mV 29 11,
 O 30 (.ne (B .neq ty_api_Errno) (tm 29) (.cst (iv 0)))]
def r_e2_5 : List CO := [
  mV 31 11,
 mV 8 31]
def r_e2_6 : List CO := [
  O 33 (.loadN 13 (tm 7)),
 C 34 fn_f2 [(tm 33)],
 mV 32 34,
 eX 35 0 32,
 eX 36 1 32,
 mV 12 35,
 mV 13 36]
def r_e2_7 : List CO := [
  mV 37 13,
 O 38 (.ne (B .neq ty_api_Errno) (tm 37) (.cst (iv 0)))]
def r_e2_8 : List CO := [
  mV 39 13,
 mV 8 39]
def r_e2_9 : List CO := [
  mV 41 0,
 mV 42 1,
 mV 43 2,
 C 44 fn_e4 [(tm 41), (tm 42), (tm 43)],
 mV 40 44,
 eX 45 0 40,
 eX 46 1 40,
 eX 47 2 40,
 eX 48 3 40,
 mV 14 45,
 mV 15 46,
 mV 16 47,
 mV 13 48]
def r_e2_10 : List CO := [
  mV 49 13,
 O 50 (.ne (B .neq ty_api_Errno) (tm 49) (.cst (iv 0)))]
def r_e2_11 : List CO := [
  mV 51 13,
 mV 8 51]
def r_e2_12 : List CO := [
  mV 52 16,
 mV 53 15,
 O 54 (.sl 1 false (tm 52) (some (tm 53)) none none),
 mV 55 12,
 O 56 (.copy 1 (tm 54) (tm 55))]
def r_e2_13 : List CO := [
  mV 57 1,
 mV 58 14,
 mV 59 16,
 C 60 fn_d0 [(tm 57), (tm 58), (tm 59)],
 mV 8 60]
def r_d8_0 : List CO := [
  O 8 (.mv (.cst (iv 0)))]
def r_d8_1 : List CO := [
  mV 20 0,
 O 21 (.eqp false (B .eql ty_pinode_Table) (tm 20) (.cst nilp))]
def r_d8_2 : List CO := [
  O 8 (.mv (.cst (iv 1)))]
def r_d8_3 : List CO := [
  mV 23 0,
 nL 24 23,
 fA 25 1 24,
 O 26 (.loadN 12 (tm 25)),
 mV 27 2,
 C 28 fn_plan_Place [(tm 26), (tm 27)],
 mV 22 28,
 eX 29 0 22,
 eX 30 1 22,
 eX 31 2 22,
 mV 9 29,
 mV 10 30,
 mV 11 31]
def r_d8_4 : List CO := [
  mV 33 0,
 nL 34 33,
 fA 35 1 34,
 O 36 (.loadN 12 (tm 35)),
 C 37 fn_plan_MaxSize [(tm 36)],
 mV 32 37,
 eX 38 0 32,
 eX 39 1 32,
 mV 12 38,
 mV 13 39]
def r_d8_5 : List CO := [
  mV 40 11,
 O 41 (.ne (B .neq ty_api_Errno) (tm 40) (.cst (iv 0))),
 mV 42 41,
 G 43 42 false (.mv (tm 13)),
 G 44 42 false (.ne (B .neq ty_api_Errno) (tm 43) (.cst (iv 0))),
 O 45 (.pick (tm 42) (.cst (.b true)) (tm 44)),
 mV 46 45,
 G 47 46 false (.mv (tm 3)),
 G 48 46 false (.lt (B .lss ty_int) (tm 47) (.cst (iv 0))),
 O 49 (.pick (tm 46) (.cst (.b true)) (tm 48)),
 mV 50 49,
 G 51 50 false (.mv (tm 3)),
 G 52 50 false (.mv (tm 12)),
 G 53 50 false (.gt (B .gtr ty_int) (tm 51) (tm 52)),
 O 54 (.pick (tm 50) (.cst (.b true)) (tm 53))]
def r_d8_6 : List CO := [
  O 8 (.mv (.cst (iv 2)))]
def r_d8_7 : List CO := [
  mV 55 3,
 mV 56 0,
 nL 57 56,
 fA 58 1 57,
 fA 59 0 58,
 lD 60 59,
 O 61 (.add (B .add ty_int) (tm 55) (tm 60)),
 O 62 (.sub (B .sub ty_int) (tm 61) (.cst (iv 1))),
 mV 63 0,
 nL 64 63,
 fA 65 1 64,
 fA 66 0 65,
 lD 67 66,
 O 68 (.quo (B .quo ty_int) (tm 62) (tm 67)),
 mV 14 68]
def r_d8_8 : List CO := [
  O 69 (.mv (.cst (iv 0)))]
def r_d8_9 : List CO := [
  O 70 (.lt (B .lss ty_int) (tm 69) (.cst (iv 8)))]
def r_d8_10 : List CO := [
  mV 71 69,
 mV 15 71]
def r_d8_11 : List CO := [
  mV 72 0,
 mV 73 1,
 mV 74 2,
 mV 75 15,
 O 76 (.build [(iv 0), (iv 0), (iv 0)] [(0, 1, (tm 74)), (2, 1, (tm 75))]),
 mV 77 15,
 mV 78 14,
 C 79 fn_e5 [(tm 72), (tm 73), (tm 76), (tm 77), (tm 78), (.cst (iv 0))],
 mV 16 79]
def r_d8_12 : List CO := [
  mV 80 16,
 O 81 (.ne (B .neq ty_api_Errno) (tm 80) (.cst (iv 0)))]
def r_d8_13 : List CO := [
  mV 82 16,
 mV 8 82]
def r_d8_14 : List CO := [
  O 83 (.add (B .add ty_int) (tm 69) (.cst (iv 1))),
 mV 69 83]
def r_d8_15 : List CO := [
  mV 84 0,
 mV 85 1,
 mV 86 2,
 O 87 (.build [(iv 0), (iv 0), (iv 0)] [(0, 1, (tm 86)), (2, 1, (.cst (iv 8)))]),
 mV 88 14,
 C 89 fn_e5 [(tm 84), (tm 85), (tm 87), (.cst (iv 8)), (tm 88), (.cst (iv 1))],
 mV 17 89]
def r_d8_16 : List CO := [
  mV 90 17,
 O 91 (.ne (B .neq ty_api_Errno) (tm 90) (.cst (iv 0)))]
def r_d8_17 : List CO := [
  mV 92 17,
 mV 8 92]
def r_d8_18 : List CO := [
  mV 93 0,
 mV 94 1,
 mV 95 2,
 O 96 (.build [(iv 0), (iv 0), (iv 0)] [(0, 1, (tm 95)), (2, 1, (.cst (iv 9)))]),
 mV 97 0,
 nL 98 97,
 fA 99 13 98,
 lD 100 99,
 O 101 (.add (B .add ty_int) (.cst (iv 8)) (tm 100)),
 mV 102 14,
 C 103 fn_e5 [(tm 93), (tm 94), (tm 96), (tm 101), (tm 102), (.cst (iv 2))],
 mV 18 103]
def r_d8_19 : List CO := [
  mV 104 18,
 O 105 (.ne (B .neq ty_api_Errno) (tm 104) (.cst (iv 0)))]
def r_d8_20 : List CO := [
  mV 106 18,
 mV 8 106]
def r_d8_21 : List CO := [
  mV 108 0,
 mV 109 1,
 mV 110 2,
 C 111 fn_e0 [(tm 108), (tm 109), (tm 110)],
 mV 107 111,
 eX 112 0 107,
 eX 113 1 107,
 O 19 (.alloc ty_api_Inode 13 [(iv 0), (iv 0), (iv 0), (iv 0), (iv 0), (iv 0), (iv 0), (iv 0), (iv 0), (iv 0), (iv 0), (iv 0), (iv 0)]),
 .op none none (.store 13 (tm 19) (tm 112)),
 mV 11 113]
def r_d8_22 : List CO := [
  mV 114 11,
 O 115 (.ne (B .neq ty_api_Errno) (tm 114) (.cst (iv 0)))]
def r_d8_23 : List CO := [
  mV 116 11,
 mV 8 116]
def r_d8_24 : List CO := [
  mV 117 3,
 fA 118 2 19,
 .op none none (.store 1 (tm 118) (tm 117))]
def r_d8_25 : List CO := [
  mV 119 0,
 mV 120 1,
 mV 121 2,
 O 122 (.loadN 13 (tm 19)),
 C 123 fn_e2 [(tm 119), (tm 120), (tm 121), (tm 122)],
 mV 8 123]
def r_e0_0 : List CO := [
  O 6 (.alloc ty_api_Inode 13 [(iv 0), (iv 0), (iv 0), (iv 0), (iv 0), (iv 0), (iv 0), (iv 0), (iv 0), (iv 0), (iv 0), (iv 0), (iv 0)]),
 O 7 (.mv (.cst (iv 0)))]
def r_e0_1 : List CO := [
  mV 13 0,
 O 14 (.eqp false (B .eql ty_pinode_Table) (tm 13) (.cst nilp))]
def r_e0_2 : List CO := [
  O 15 (.build [(iv 0), (iv 0), (iv 0), (iv 0), (iv 0), (iv 0), (iv 0), (iv 0), (iv 0), (iv 0), (iv 0), (iv 0), (iv 0)] []),
 .op none none (.store 13 (tm 6) (tm 15)),
 O 7 (.mv (.cst (iv 1)))]
def r_e0_3 : List CO := [
  mV 17 0,
 mV 18 1,
 mV 19 2,
 C 20 fn_e4 [(tm 17), (tm 18), (tm 19)],
 mV 16 20,
 eX 21 0 16,
 eX 22 1 16,
 eX 23 2 16,
 eX 24 3 16,
 mV 8 21,
 mV 9 22,
 mV 10 23,
 mV 11 24]
def r_e0_4 : List CO := [
  mV 25 11,
 O 26 (.ne (B .neq ty_api_Errno) (tm 25) (.cst (iv 0)))]
def r_e0_5 : List CO := [
  O 27 (.build [(iv 0), (iv 0), (iv 0), (iv 0), (iv 0), (iv 0), (iv 0), (iv 0), (iv 0), (iv 0), (iv 0), (iv 0), (iv 0)] []),
 mV 28 11,
 .op none none (.store 13 (tm 6) (tm 27)),
 mV 7 28]
def r_e0_6 : List CO := [
  mV 30 10,
 mV 31 9,
 mV 32 9,
 O 33 (.add (B .add ty_int) (tm 32) (.cst (iv 32))),
 O 34 (.sl 1 false (tm 30) (some (tm 31)) (some (tm 33)) none),
 C 35 fn_f3 [(tm 34)],
 mV 29 35,
 eX 36 0 29,
 eX 37 1 29,
 O 12 (.alloc ty_api_Inode 13 [(iv 0), (iv 0), (iv 0), (iv 0), (iv 0), (iv 0), (iv 0), (iv 0), (iv 0), (iv 0), (iv 0), (iv 0), (iv 0)]),
 .op none none (.store 13 (tm 12) (tm 36)),
 mV 11 37]
def r_e0_7 : List CO := [
  mV 38 11,
 O 39 (.ne (B .neq ty_api_Errno) (tm 38) (.cst (iv 0)))]
def r_e0_8 : List CO := [
  O 40 (.build [(iv 0), (iv 0), (iv 0), (iv 0), (iv 0), (iv 0), (iv 0), (iv 0), (iv 0), (iv 0), (iv 0), (iv 0), (iv 0)] []),
 .op none none (.store 13 (tm 6) (tm 40)),
 O 7 (.mv (.cst (iv 9)))]
def r_e0_9 : List CO := [
  O 41 (.loadN 13 (tm 12)),
 .op none none (.store 13 (tm 6) (tm 41)),
 O 7 (.mv (.cst (iv 0)))]
def r_g4_0 : List CO := [
  O 6 (.box ty_pgroup_Op (tm 0)),
 O 7 (.box ty_pinode_Table (tm 1)),
 O 8 (.box ty_api_Plan (tm 2)),
 O 9 (.box ty_int (tm 3)),
 O 10 (.box ty_int (tm 4)),
 O 11 (.box ty_suint8 (tm 5)),
 O 12 (.alloc ty_api_Errno 1 [(iv 0)])]
def r_g4_1 : List CO := [
  lD 24 10,
 O 25 (.lt (B .lss ty_int) (tm 24) (.cst (iv 0)))]
def r_g4_2 : List CO := [
  .op none none (.store 1 (tm 12) (.cst (iv 1)))]
def r_g4_3 : List CO := [
  O 27 (.loadN 12 (tm 8)),
 C 28 fn_plan_MaxSize [(tm 27)],
 mV 26 28,
 eX 29 0 26,
 eX 30 1 26,
 mV 13 29,
 mV 14 30]
def r_g4_4 : List CO := [
  mV 31 14,
 O 32 (.ne (B .neq ty_api_Errno) (tm 31) (.cst (iv 0))),
 mV 33 32,
 G 34 33 false (.load (tm 11)),
 G 35 33 false (.len false (tm 34)),
 G 36 33 false (.gt (B .gtr ty_int) (tm 35) (.cst (iv 4096))),
 O 37 (.pick (tm 33) (.cst (.b true)) (tm 36)),
 mV 38 37,
 G 39 38 false (.load (tm 10)),
 G 40 38 false (.mv (tm 13)),
 G 41 38 false (.load (tm 11)),
 G 42 38 false (.len false (tm 41)),
 G 43 38 false (.sub (B .sub ty_int) (tm 40) (tm 42)),
 G 44 38 false (.gt (B .gtr ty_int) (tm 39) (tm 43)),
 O 45 (.pick (tm 38) (.cst (.b true)) (tm 44))]
def r_g4_5 : List CO := [
  .op none none (.store 1 (tm 12) (.cst (iv 5)))]
def r_g4_6 : List CO := [
  lD 47 6,
 lD 48 7,
 O 49 (.loadN 12 (tm 8)),
 lD 50 9,
 C 51 fn_g7 [(tm 47), (tm 48), (tm 49), (tm 50)],
 mV 46 51,
 eX 52 0 46,
 eX 53 1 46,
 O 15 (.alloc ty_pfile_content 1 [nilp]),
 .op none none (.store 1 (tm 15) (tm 52)),
 mV 16 53]
def r_g4_7 : List CO := [
  mV 54 16,
 O 55 (.ne (B .neq ty_api_Errno) (tm 54) (.cst (iv 0))),
 mV 56 55,
 G 57 56 false (.load (tm 11)),
 G 58 56 false (.len false (tm 57)),
 G 59 56 false (.eq (B .eql ty_int) (tm 58) (.cst (iv 0))),
 O 60 (.pick (tm 56) (.cst (.b true)) (tm 59))]
def r_g4_8 : List CO := [
  mV 61 16,
 .op none none (.store 1 (tm 12) (tm 61))]
def r_g4_9 : List CO := [
  lD 62 10,
 lD 63 11,
 O 64 (.len false (tm 63)),
 O 65 (.add (B .add ty_int) (tm 62) (tm 64)),
 lD 66 15,
 nL 67 66,
 fA 68 15 67,
 fA 69 2 68,
 lD 70 69,
 O 71 (.gt (B .gtr ty_int) (tm 65) (tm 70))]
def r_g4_10 : List CO := [
  lD 72 15,
 lD 73 15,
 nL 74 73,
 fA 75 15 74,
 fA 76 2 75,
 lD 77 76,
 C 78 fn_b1 [(tm 72), (tm 77)],
 mV 17 78]
def r_g4_11 : List CO := [
  mV 79 17,
 O 80 (.ne (B .neq ty_api_Errno) (tm 79) (.cst (iv 0)))]
def r_g4_12 : List CO := [
  mV 81 17,
 .op none none (.store 1 (tm 12) (tm 81))]
def r_g4_13 : List CO := [
  O 82 (.fn fn_g5 [(tm 8), (tm 10), (tm 11)])]
def r_g4_14 : List CO := [
  O 18 (.alloc ty_file_piece 4 [(iv 0), (iv 0), (iv 0), (iv 0)]),
 .op none none (.store 4 (tm 18) (tm 83))]
def r_g4_15 : List CO := [
  lD 85 7,
 lD 86 6,
 lD 87 9,
 fA 88 0 18,
 lD 89 88,
 C 90 fn_e1 [(tm 85), (tm 86), (tm 87), (tm 89)],
 mV 84 90,
 eX 91 0 84,
 eX 92 1 84,
 eX 93 2 84,
 mV 19 91,
 mV 20 92,
 mV 21 93]
def r_g4_16 : List CO := [
  mV 94 21,
 O 95 (.ne (B .neq ty_api_Errno) (tm 94) (.cst (iv 0)))]
def r_g4_17 : List CO := [
  mV 96 21,
 .op none none (.store 1 (tm 12) (tm 96))]
def r_g4_18 : List CO := [
  fA 97 0 8,
 lD 98 97,
 O 99 (.mksl ty_uint8 1 1 [(.y 0)] (tm 98) (tm 98)),
 mV 22 99]
def r_g4_19 : List CO := [
  mV 100 20,
 O 101 (.un .not (tm 100))]
def r_g4_20 : List CO := [
  lD 103 6,
 mV 104 19,
 C 105 fn_c9 [(tm 103), (tm 104)],
 mV 102 105,
 eX 106 0 102,
 eX 107 1 102,
 mV 22 106,
 mV 21 107]
def r_g4_21 : List CO := [
  mV 108 21,
 O 109 (.ne (B .neq ty_api_Errno) (tm 108) (.cst (iv 0)))]
def r_g4_22 : List CO := [
  mV 110 21,
 .op none none (.store 1 (tm 12) (tm 110))]
def r_g4_23 : List CO := [
  mV 111 22,
 fA 112 1 18,
 lD 113 112,
 fA 114 2 18,
 lD 115 114,
 O 116 (.sl 1 false (tm 111) (some (tm 113)) (some (tm 115)) none),
 lD 117 11,
 fA 118 3 18,
 lD 119 118,
 O 120 (.sl 1 false (tm 117) (some (tm 119)) none none),
 O 121 (.copy 1 (tm 116) (tm 120))]
def r_g4_24 : List CO := [
  lD 122 15,
 mV 123 19,
 mV 124 22,
 C 125 fn_b0 [(tm 122), (tm 123), (tm 124)],
 mV 23 125]
def r_g4_25 : List CO := [
  mV 126 23,
 O 127 (.ne (B .neq ty_api_Errno) (tm 126) (.cst (iv 0)))]
def r_g4_26 : List CO := [
  mV 128 23,
 .op none none (.store 1 (tm 12) (tm 128))]
def r_g4_27 : List CO := [
  lD 129 6,
 lD 130 7,
 lD 131 9,
 lD 132 10,
 lD 133 11,
 O 134 (.len false (tm 133)),
 O 135 (.add (B .add ty_int) (tm 132) (tm 134)),
 C 136 fn_g6 [(tm 129), (tm 130), (tm 131), (tm 135)],
 .op none none (.store 1 (tm 12) (tm 136))]
def r_g1_0 : List CO := [
  O 6 (.box ty_pgroup_Op (tm 0)),
 O 7 (.box ty_pinode_Table (tm 1)),
 O 8 (.box ty_api_Plan (tm 2)),
 O 9 (.box ty_int (tm 3)),
 O 10 (.box ty_int (tm 4)),
 O 11 (.box ty_int (tm 5)),
 O 12 (.alloc ty_suint8 1 [nils]),
 O 13 (.alloc ty_api_Errno 1 [(iv 0)])]
def r_g1_1 : List CO := [
  lD 20 10,
 O 21 (.lt (B .lss ty_int) (tm 20) (.cst (iv 0))),
 mV 22 21,
 G 23 22 false (.load (tm 11)),
 G 24 22 false (.lt (B .lss ty_int) (tm 23) (.cst (iv 0))),
 O 25 (.pick (tm 22) (.cst (.b true)) (tm 24)),
 mV 19 25]
def r_g1_2 : List CO := [
  .op none none (.store 1 (tm 12) (.cst nils)),
 .op none none (.store 1 (tm 13) (.cst (iv 1)))]
def r_g1_3 : List CO := [
  lD 27 11,
 O 28 (.gt (B .gtr ty_int) (tm 27) (.cst (iv 4096))),
 mV 26 28]
def r_g1_4 : List CO := [
  .op none none (.store 1 (tm 12) (.cst nils)),
 .op none none (.store 1 (tm 13) (.cst (iv 5)))]
def r_g1_5 : List CO := [
  lD 30 6,
 lD 31 7,
 O 32 (.loadN 12 (tm 8)),
 lD 33 9,
 C 34 fn_g7 [(tm 30), (tm 31), (tm 32), (tm 33)],
 mV 29 34,
 eX 35 0 29,
 eX 36 1 29,
 mV 14 35,
 .op none none (.store 1 (tm 13) (tm 36))]
def r_g1_6 : List CO := [
  lD 37 13,
 O 38 (.ne (B .neq ty_api_Errno) (tm 37) (.cst (iv 0)))]
def r_g1_7 : List CO := [
  lD 39 13,
 .op none none (.store 1 (tm 12) (.cst nils)),
 .op none none (.store 1 (tm 13) (tm 39))]
def r_g1_8 : List CO := [
  lD 40 11,
 mV 41 14,
 nL 42 41,
 fA 43 15 42,
 fA 44 2 43,
 lD 45 44,
 lD 46 10,
 O 47 (.sub (B .sub ty_int) (tm 45) (tm 46)),
 O 48 (.max (.cst (iv 0)) (tm 47)),
 O 49 (.min (tm 40) (tm 48)),
 .op none none (.store 1 (tm 11) (tm 49))]
def r_g1_9 : List CO := [
  lD 50 11,
 O 51 (.mksl ty_uint8 1 1 [(.y 0)] (tm 50) (tm 50)),
 .op none none (.store 1 (tm 12) (tm 51))]
def r_g1_10 : List CO := [
  O 52 (.fn fn_g2 [(tm 8), (tm 10), (tm 11)])]
def r_g1_11 : List CO := [
  O 15 (.alloc ty_file_piece 4 [(iv 0), (iv 0), (iv 0), (iv 0)]),
 .op none none (.store 4 (tm 15) (tm 53))]
def r_g1_12 : List CO := [
  lD 55 7,
 lD 56 6,
 lD 57 9,
 fA 58 0 15,
 lD 59 58,
 C 60 fn_d9 [(tm 55), (tm 56), (tm 57), (tm 59)],
 mV 54 60,
 eX 61 0 54,
 eX 62 1 54,
 mV 16 61,
 mV 17 62]
def r_g1_13 : List CO := [
  mV 63 17,
 O 64 (.ne (B .neq ty_api_Errno) (tm 63) (.cst (iv 0)))]
def r_g1_14 : List CO := [
  mV 65 17,
 .op none none (.store 1 (tm 12) (.cst nils)),
 .op none none (.store 1 (tm 13) (tm 65))]
def r_g1_15 : List CO := [
  mV 66 16,
 O 67 (.eq (B .eql ty_int) (tm 66) (.cst (iv 0)))]
def r_g1_16 : List CO := [
  lD 69 6,
 mV 70 16,
 C 71 fn_c9 [(tm 69), (tm 70)],
 mV 68 71,
 eX 72 0 68,
 eX 73 1 68,
 mV 18 72,
 mV 17 73]
def r_g1_17 : List CO := [
  mV 74 17,
 O 75 (.ne (B .neq ty_api_Errno) (tm 74) (.cst (iv 0)))]
def r_g1_18 : List CO := [
  mV 76 17,
 .op none none (.store 1 (tm 12) (.cst nils)),
 .op none none (.store 1 (tm 13) (tm 76))]
def r_g1_19 : List CO := [
  lD 77 12,
 fA 78 3 15,
 lD 79 78,
 O 80 (.sl 1 false (tm 77) (some (tm 79)) none none),
 mV 81 18,
 fA 82 1 15,
 lD 83 82,
 fA 84 2 15,
 lD 85 84,
 O 86 (.sl 1 false (tm 81) (some (tm 83)) (some (tm 85)) none),
 O 87 (.copy 1 (tm 80) (tm 86))]
def r_g1_20 : List CO := [
  lD 88 12,
 .op none none (.store 1 (tm 12) (tm 88)),
 .op none none (.store 1 (tm 13) (.cst (iv 0)))]
def r_f9_0 : List CO := [
  O 6 (.mv (.cst nils)),
 O 7 (.mv (.cst (iv 0)))]
def r_f9_1 : List CO := [
  mV 14 0,
 mV 15 1,
 O 16 (.build [(iv 0), (iv 0), (iv 0), (iv 0), (iv 0), (iv 0), (iv 0), (iv 0), (iv 0), (iv 0), (iv 0), (iv 0)] []),
 mV 17 2,
 C 18 fn_g7 [(tm 14), (tm 15), (tm 16), (tm 17)],
 mV 13 18,
 eX 19 0 13,
 eX 20 1 13,
 mV 8 19,
 mV 9 20]
def r_f9_2 : List CO := [
  mV 21 9,
 O 22 (.ne (B .neq ty_api_Errno) (tm 21) (.cst (iv 0)))]
def r_f9_3 : List CO := [
  mV 23 9,
 O 6 (.mv (.cst nils)),
 mV 7 23]
def r_f9_4 : List CO := [
  mV 25 1,
 mV 26 0,
 mV 27 2,
 C 28 fn_d6 [(tm 25), (tm 26), (tm 27)],
 mV 24 28,
 eX 29 0 24,
 eX 30 1 24,
 eX 31 2 24,
 mV 10 29,
 mV 11 30,
 mV 12 31]
def r_f9_5 : List CO := [
  mV 32 10,
 C 33 fn_b7 [(tm 32), (.cst (.func fn_g0 []))],
 mV 10 33]
def r_f9_6 : List CO := [
  mV 34 10,
 C 35 fn_slices_Sort_sint_int [(tm 34)]]
def r_f9_7 : List CO := [
  mV 36 10,
 mV 37 12,
 mV 6 36,
 mV 7 37]
def r_g3_0 : List CO := [
  O 7 (.box ty_api_Plan (tm 2)),
 O 10 (.mv (.cst (iv 0)))]
def r_g3_1 : List CO := [
  mV 16 4,
 O 17 (.lt (B .lss ty_int) (tm 16) (.cst (iv 0)))]
def r_g3_2 : List CO := [
  O 10 (.mv (.cst (iv 1)))]
def r_g3_3 : List CO := [
  O 19 (.loadN 12 (tm 7)),
 C 20 fn_plan_MaxSize [(tm 19)],
 mV 18 20,
 eX 21 0 18,
 eX 22 1 18,
 mV 11 21,
 mV 12 22]
def r_g3_4 : List CO := [
  mV 23 12,
 O 24 (.ne (B .neq ty_api_Errno) (tm 23) (.cst (iv 0))),
 mV 25 24,
 G 26 25 false (.mv (tm 4)),
 G 27 25 false (.mv (tm 11)),
 G 28 25 false (.gt (B .gtr ty_int) (tm 26) (tm 27)),
 O 29 (.pick (tm 25) (.cst (.b true)) (tm 28))]
def r_g3_5 : List CO := [
  O 10 (.mv (.cst (iv 5)))]
def r_g3_6 : List CO := [
  mV 31 0,
 mV 32 1,
 O 33 (.loadN 12 (tm 7)),
 mV 34 3,
 C 35 fn_g7 [(tm 31), (tm 32), (tm 33), (tm 34)],
 mV 30 35,
 eX 36 0 30,
 eX 37 1 30,
 mV 13 36,
 mV 14 37]
def r_g3_7 : List CO := [
  mV 38 14,
 O 39 (.ne (B .neq ty_api_Errno) (tm 38) (.cst (iv 0)))]
def r_g3_8 : List CO := [
  mV 40 14,
 mV 10 40]
def r_g3_9 : List CO := [
  mV 41 1,
 mV 42 0,
 mV 43 3,
 mV 44 4,
 C 45 fn_d8 [(tm 41), (tm 42), (tm 43), (tm 44)],
 mV 15 45]
def r_g3_10 : List CO := [
  mV 46 15,
 O 47 (.ne (B .neq ty_api_Errno) (tm 46) (.cst (iv 0)))]
def r_g3_11 : List CO := [
  mV 48 15,
 mV 10 48]
def r_g3_12 : List CO := [
  mV 49 13,
 mV 50 4,
 mV 51 13,
 nL 52 51,
 fA 53 15 52,
 fA 54 2 53,
 lD 55 54,
 O 56 (.min (tm 50) (tm 55)),
 C 57 fn_b1 [(tm 49), (tm 56)],
 mV 10 57]
def r_j0_0 : List CO := [
  O 2 (.box ty_api_Plan (tm 0)),
 O 4 (.mv (.cst nils)),
 O 5 (.mv (.cst (iv 0)))]
def r_j0_1 : List CO := [
  O 11 (.loadN 12 (tm 2)),
 C 12 fn_plan_MaxSize [(tm 11)],
 mV 10 12,
 eX 13 0 10,
 eX 14 1 10,
 mV 6 13,
 mV 7 14]
def r_j0_2 : List CO := [
  mV 15 7,
 O 16 (.ne (B .neq ty_api_Errno) (tm 15) (.cst (iv 0)))]
def r_j0_3 : List CO := [
  mV 17 7,
 O 4 (.mv (.cst nils)),
 mV 5 17]
def r_j0_4 : List CO := [
  mV 18 1,
 mV 19 6,
 O 20 (.sub (B .sub ty_int) (tm 19) (.cst (iv 1))),
 fA 21 0 2,
 lD 22 21,
 O 23 (.quo (B .quo ty_int) (tm 20) (tm 22)),
 C 24 fn_j1 [(tm 18), (.cst (iv 0)), (tm 23)],
 O 25 (.un .not (tm 24))]
def r_j0_5 : List CO := [
  O 4 (.mv (.cst nils)),
 O 5 (.mv (.cst (iv 2)))]
def r_j0_6 : List CO := [
  fA 26 0 2,
 lD 27 26,
 O 28 (.quo (B .quo ty_int) (tm 27) (.cst (iv 2))),
 mV 8 28]
def r_j0_7 : List CO := [
  mV 29 1,
 O 30 (.sub (B .sub ty_int) (tm 29) (.cst (iv 8))),
 mV 9 30]
def r_j0_10 : List CO := [
  mV 42 9,
 O 43 (.lt (B .lss ty_int) (tm 42) (.cst (iv 0))),
 mV 41 43]
def r_j0_11 : List CO := [
  mV 44 1,
 O 45 (.bslice ty_int 1 1 [(iv 0)] [(0, 1, (tm 44))]),
 mV 4 45,
 O 5 (.mv (.cst (iv 0)))]
def r_j0_12 : List CO := [
  mV 47 9,
 mV 48 8,
 O 49 (.lt (B .lss ty_int) (tm 47) (tm 48)),
 mV 46 49]
def r_j0_13 : List CO := [
  mV 50 9,
 O 51 (.bslice ty_int 2 2 [(iv 0)] [(0, 1, (.cst (iv 8))), (1, 1, (tm 50))]),
 mV 4 51,
 O 5 (.mv (.cst (iv 0)))]
def r_j0_8 : List CO := [
  mV 31 9,
 mV 32 8,
 O 33 (.sub (B .sub ty_int) (tm 31) (tm 32)),
 mV 9 33]
def r_j0_9 : List CO := [
  mV 34 9,
 mV 35 8,
 O 36 (.quo (B .quo ty_int) (tm 34) (tm 35)),
 mV 37 9,
 mV 38 8,
 O 39 (.rem (B .rem ty_int) (tm 37) (tm 38)),
 O 40 (.bslice ty_int 3 3 [(iv 0)] [(0, 1, (.cst (iv 9))), (1, 1, (tm 36)), (2, 1, (tm 39))]),
 mV 4 40,
 O 5 (.mv (.cst (iv 0)))]
def r_d0_0 : List CO := [
  O 6 (.mv (.cst (iv 0)))]
def r_d0_1 : List CO := [
  mV 7 0,
 mV 8 1,
 mV 9 2,
 C 10 fn_d5 [(tm 7), (.cst (.func fn_d1 [])), (.cst (.func fn_d2 [])), (tm 8), (tm 9)],
 mV 6 10]
def r_e3_0 : List CO := [
  O 5 (.box ty_inode_slot (tm 2)),
 O 6 (.mv (.cst (iv 0))),
 O 7 (.mv (.cst (iv 0)))]
def r_e3_1 : List CO := [
  fA 12 1 5,
 lD 13 12,
 O 14 (.eq (B .eql ty_int) (tm 13) (.cst (iv 0)))]
def r_e3_2 : List CO := [
  mV 16 0,
 mV 17 1,
 fA 18 0 5,
 lD 19 18,
 C 20 fn_e0 [(tm 16), (tm 17), (tm 19)],
 mV 15 20,
 eX 21 0 15,
 eX 22 1 15,
 O 8 (.alloc ty_api_Inode 13 [(iv 0), (iv 0), (iv 0), (iv 0), (iv 0), (iv 0), (iv 0), (iv 0), (iv 0), (iv 0), (iv 0), (iv 0), (iv 0)]),
 .op none none (.store 13 (tm 8) (tm 21)),
 mV 9 22]
def r_e3_3 : List CO := [
  fA 23 2 5,
 lD 24 23,
 C 25 fn_g9 [(tm 8), (tm 24)],
 nL 26 25,
 lD 27 26,
 mV 28 9,
 mV 6 27,
 mV 7 28]
def r_e3_4 : List CO := [
  mV 30 1,
 fA 31 1 5,
 lD 32 31,
 C 33 fn_c9 [(tm 30), (tm 32)],
 mV 29 33,
 eX 34 0 29,
 eX 35 1 29,
 mV 10 34,
 mV 11 35]
def r_e3_5 : List CO := [
  mV 36 11,
 O 37 (.ne (B .neq ty_api_Errno) (tm 36) (.cst (iv 0)))]
def r_e3_6 : List CO := [
  mV 38 11,
 O 6 (.mv (.cst (iv 0))),
 mV 7 38]
def r_e3_7 : List CO := [
  mV 39 10,
 fA 40 2 5,
 lD 41 40,
 O 42 (.mul (B .mul ty_int) (.cst (iv 2)) (tm 41)),
 C 43 fn_f5 [(tm 39), (tm 42), (.cst (iv 2))],
 eX 44 0 43,
 eX 45 1 43,
 mV 6 44,
 mV 7 45]
def r_a0_0 : List CO := [
  O 4 (.mv (.cst (iv 0))),
 O 5 (.mv (.cst (iv 0)))]
def r_a0_1 : List CO := [
  mV 6 0,
 O 7 (.eqp false (B .eql ty_palloc_Alloc) (tm 6) (.cst nilp))]
def r_a0_2 : List CO := [
  O 4 (.mv (.cst (iv 0))),
 O 5 (.mv (.cst (iv 1)))]
def r_a0_3 : List CO := [
  mV 8 0,
 nL 9 8,
 fA 10 13 9,
 O 11 (.loadN 2 (tm 10)),
 mV 12 1,
 mV 13 0,
 nL 14 13,
 fA 15 1 14,
 fA 16 11 15,
 lD 17 16,
 mV 18 0,
 nL 19 18,
 fA 20 1 19,
 fA 21 1 20,
 lD 22 21,
 mV 23 0,
 nL 24 23,
 fA 25 0 24,
 lD 26 25,
 O 27 (.bfn fn_b9 [(tm 26)]),
 C 28 fn_a8 [(tm 11), (tm 12), (tm 17), (tm 22), (tm 27)],
 eX 29 0 28,
 eX 30 1 28,
 mV 4 29,
 mV 5 30]
def r_e6_0 : List CO := [
  O 6 (.box ty_inode_slot (tm 2)),
 O 8 (.mv (.cst (iv 0)))]
def r_e6_1 : List CO := [
  fA 13 1 6,
 lD 14 13,
 O 15 (.eq (B .eql ty_int) (tm 14) (.cst (iv 0)))]
def r_e6_2 : List CO := [
  mV 17 0,
 mV 18 1,
 fA 19 0 6,
 lD 20 19,
 C 21 fn_e0 [(tm 17), (tm 18), (tm 20)],
 mV 16 21,
 eX 22 0 16,
 eX 23 1 16,
 O 9 (.alloc ty_api_Inode 13 [(iv 0), (iv 0), (iv 0), (iv 0), (iv 0), (iv 0), (iv 0), (iv 0), (iv 0), (iv 0), (iv 0), (iv 0), (iv 0)]),
 .op none none (.store 13 (tm 9) (tm 22)),
 mV 10 23]
def r_e6_3 : List CO := [
  mV 24 10,
 O 25 (.ne (B .neq ty_api_Errno) (tm 24) (.cst (iv 0)))]
def r_e6_4 : List CO := [
  mV 26 10,
 mV 8 26]
def r_e6_5 : List CO := [
  fA 27 2 6,
 lD 28 27,
 C 29 fn_g9 [(tm 9), (tm 28)],
 mV 30 3,
 nL 31 29,
 .op none none (.store 1 (tm 31) (tm 30))]
def r_e6_6 : List CO := [
  mV 32 0,
 mV 33 1,
 fA 34 0 6,
 lD 35 34,
 O 36 (.loadN 13 (tm 9)),
 C 37 fn_e2 [(tm 32), (tm 33), (tm 35), (tm 36)],
 mV 8 37]
def r_e6_7 : List CO := [
  mV 39 1,
 fA 40 1 6,
 lD 41 40,
 C 42 fn_c9 [(tm 39), (tm 41)],
 mV 38 42,
 eX 43 0 38,
 eX 44 1 38,
 mV 11 43,
 mV 12 44]
def r_e6_8 : List CO := [
  mV 45 12,
 O 46 (.ne (B .neq ty_api_Errno) (tm 45) (.cst (iv 0)))]
def r_e6_9 : List CO := [
  mV 47 12,
 mV 8 47]
def r_e6_10 : List CO := [
  mV 49 11,
 fA 50 2 6,
 lD 51 50,
 O 52 (.mul (B .mul ty_int) (.cst (iv 2)) (tm 51)),
 mV 53 3,
 C 54 fn_f6 [(tm 49), (tm 52), (.cst (iv 2)), (tm 53)],
 mV 48 54,
 eX 55 0 48,
 eX 56 1 48,
 mV 11 55,
 mV 12 56]
def r_e6_11 : List CO := [
  mV 57 12,
 O 58 (.ne (B .neq ty_api_Errno) (tm 57) (.cst (iv 0)))]
def r_e6_12 : List CO := [
  mV 59 12,
 mV 8 59]
def r_e6_13 : List CO := [
  mV 60 1,
 fA 61 1 6,
 lD 62 61,
 mV 63 11,
 C 64 fn_d0 [(tm 60), (tm 62), (tm 63)],
 mV 8 64]
def r_d7_0 : List CO := [
  O 13 (.mv (.cst (iv 0)))]
def r_d7_1 : List CO := [
  mV 19 0,
 O 20 (.eq (B .eql ty_int) (tm 19) (.cst (iv 0)))]
def r_d7_2 : List CO := [
  O 13 (.mv (.cst (iv 0)))]
def r_d7_3 : List CO := [
  mV 21 2,
 O 22 (.eq (B .eql ty_int) (tm 21) (.cst (iv 0)))]
def r_d7_4 : List CO := [
  lD 23 3,
 mV 24 1,
 mV 25 0,
 .op none none (.mupd (some .i64) (tm 23) (tm 24) (tm 25))]
def r_d7_5 : List CO := [
  lD 26 4,
 mV 27 1,
 O 28 (.max (tm 26) (tm 27)),
 .op none none (.store 1 (tm 4) (tm 28))]
def r_d7_6 : List CO := [
  O 13 (.mv (.cst (iv 0)))]
def r_d7_7 : List CO := [
  lD 29 5,
 mV 30 0,
 O 31 (.bslice ty_int 1 1 [(iv 0)] [(0, 1, (tm 30))]),
 O 32 (.app ty_int 1 8 [(iv 0)] (tm 29) (tm 31)),
 .op none none (.store 1 (tm 5) (tm 32))]
def r_d7_8 : List CO := [
  lD 33 6,
 nL 34 33,
 fA 35 13 34,
 lD 36 35,
 O 37 (.mv (.cst (iv 0)))]
def r_d7_9 : List CO := [
  O 38 (.lt (B .lss ty_int) (tm 37) (tm 36))]
def r_d7_10 : List CO := [
  mV 39 37,
 mV 14 39]
def r_d7_11 : List CO := [
  lD 41 6,
 lD 42 7,
 lD 43 8,
 mV 44 0,
 mV 45 14,
 O 46 (.build [(iv 0), (iv 0), (iv 0)] [(0, 1, (tm 43)), (1, 1, (tm 44)), (2, 1, (tm 45))]),
 C 47 fn_e3 [(tm 41), (tm 42), (tm 46)],
 mV 40 47,
 eX 48 0 40,
 eX 49 1 40,
 mV 15 48,
 mV 16 49]
def r_d7_12 : List CO := [
  mV 50 16,
 O 51 (.ne (B .neq ty_api_Errno) (tm 50) (.cst (iv 0)))]
def r_d7_13 : List CO := [
  mV 52 16,
 mV 13 52]
def r_d7_14 : List CO := [
  mV 53 1,
 mV 54 14,
 O 55 (.add (B .add ty_int) (tm 53) (tm 54)),
 mV 17 55]
def r_d7_15 : List CO := [
  mV 56 2,
 O 57 (.eq (B .eql ty_int) (tm 56) (.cst (iv 2)))]
def r_d7_16 : List CO := [
  mV 58 1,
 mV 59 14,
 lD 60 6,
 nL 61 60,
 fA 62 13 61,
 lD 63 62,
 O 64 (.mul (B .mul ty_int) (tm 59) (tm 63)),
 O 65 (.add (B .add ty_int) (tm 58) (tm 64)),
 mV 17 65]
def r_d7_17 : List CO := [
  lD 66 9,
 mV 67 15,
 mV 68 17,
 mV 69 2,
 O 70 (.sub (B .sub ty_int) (tm 69) (.cst (iv 1))),
 .call (some (pth 71)) none (tm 66) [(tm 67), (tm 68), (tm 70)],
 mV 18 71]
def r_d7_18 : List CO := [
  mV 72 18,
 O 73 (.ne (B .neq ty_api_Errno) (tm 72) (.cst (iv 0)))]
def r_d7_19 : List CO := [
  mV 74 18,
 mV 13 74]
def r_d7_20 : List CO := [
  O 75 (.add (B .add ty_int) (tm 37) (.cst (iv 1))),
 mV 37 75]
def r_d7_21 : List CO := [
  O 13 (.mv (.cst (iv 0)))]
def r_g9_0 : List CO := [
  O 4 (.mv (.cst nilp))]
def r_g9_1 : List CO := [
  mV 5 1]
def r_g9_2 : List CO := [
  O 7 (.eq (B .eql ty_int) (tm 5) (.cst (iv 8))),
 mV 6 7]
def r_g9_3 : List CO := [
  mV 8 0,
 nL 9 8,
 fA 10 11 9,
 mV 4 10]
def r_g9_4 : List CO := [
  O 12 (.eq (B .eql ty_int) (tm 5) (.cst (iv 9))),
 mV 11 12]
def r_g9_5 : List CO := [
  mV 13 0,
 nL 14 13,
 fA 15 12 14,
 mV 4 15]
def r_g9_6 : List CO := [
  mV 16 0,
 mV 17 1,
 nL 18 16,
 fA 19 3 18,
 O 20 (.iaA 8 1 (tm 19) (tm 17)),
 mV 4 20]
def r_b9_0 : List CO := [
  O 4 (.mv (.cst (.b false)))]
def r_b9_1 : List CO := [
  mV 9 0,
 O 10 (.eqp false (B .eql ty_pgroup_Group) (tm 9) (.cst nilp))]
def r_b9_2 : List CO := [
  O 4 (.mv (.cst (.b false)))]
def r_b9_3 : List CO := [
  mV 12 0,
 nL 13 12,
 fA 14 16 13,
 lD 15 14,
 mV 16 1,
 O 17 (.look (some .i64) (.agg []) true (tm 15) (tm 16)),
 mV 11 17,
 eX 18 0 11,
 eX 19 1 11,
 O 5 (.alloc ty_struct 0 []),
 .op none none (.store 0 (tm 5) (tm 18)),
 mV 6 19]
def r_b9_4 : List CO := [
  mV 21 0,
 mV 22 1,
 C 23 fn_c1 [(tm 21), (tm 22)],
 mV 20 23,
 eX 24 0 20,
 eX 25 1 20,
 mV 7 24,
 mV 8 25]
def r_b9_5 : List CO := [
  mV 26 0,
 nL 27 26,
 fA 28 17 27,
 lD 29 28,
 O 30 (.eqp true (B .neq ty_pgroup_Op) (tm 29) (.cst nilp)),
 mV 31 30,
 G 32 31 true (.mv (tm 6)),
 G 33 31 true (.un .not (tm 32)),
 O 34 (.pick (tm 31) (tm 33) (.cst (.b false)))]
def r_b9_6 : List CO := [
  mV 36 0,
 nL 37 36,
 fA 38 17 37,
 lD 39 38,
 nL 40 39,
 fA 41 3 40,
 lD 42 41,
 mV 43 1,
 O 44 (.look (some .i64) (.agg []) true (tm 42) (tm 43)),
 mV 35 44,
 eX 45 0 35,
 eX 46 1 35,
 mV 6 46]
def r_b9_7 : List CO := [
  mV 47 6,
 mV 48 47,
 G 49 48 false (.mv (tm 8)),
 O 50 (.pick (tm 48) (.cst (.b true)) (tm 49)),
 mV 4 50]
def r_f2_0 : List CO := [
  O 1 (.box ty_api_Inode (tm 0)),
 O 2 (.mv (.cst nils)),
 O 3 (.mv (.cst (iv 0)))]
def r_f2_1 : List CO := [
  fA 5 0 1,
 lD 6 5,
 O 7 (.lt (B .lss ty_int) (tm 6) (.cst (iv 0))),
 mV 8 7,
 G 9 8 false (.fa 0 (tm 1)),
 G 10 8 false (.load (tm 9)),
 G 11 8 false (.gt (B .gtr ty_int) (tm 10) (.cst (iv 2))),
 O 12 (.pick (tm 8) (.cst (.b true)) (tm 11)),
 mV 13 12,
 G 14 13 false (.fa 0 (tm 1)),
 G 15 13 false (.load (tm 14)),
 G 16 13 false (.eq (B .eql ty_int) (tm 15) (.cst (iv 0))),
 G 17 13 false (.mv (tm 16)),
 G 18 17 true (.loadN 13 (tm 1)),
 G 19 17 true (.build [(iv 0), (iv 0), (iv 0), (iv 0), (iv 0), (iv 0), (iv 0), (iv 0), (iv 0), (iv 0), (iv 0), (iv 0), (iv 0)] []),
 G 20 17 true (.ne (B .neq ty_api_Inode) (tm 18) (tm 19)),
 G 21 13 false (.pick (tm 17) (tm 20) (.cst (.b false))),
 O 22 (.pick (tm 13) (.cst (.b true)) (tm 21))]
def r_f2_2 : List CO := [
  O 2 (.mv (.cst nils)),
 O 3 (.mv (.cst (iv 4)))]
def r_f2_3 : List CO := [
  O 23 (.build [nils, (iv 0)] []),
 O 24 (.box ty_codec_writer (tm 23)),
 mV 4 24]
def r_f2_4 : List CO := [
  mV 25 4,
 fA 26 0 1,
 lD 27 26,
 O 28 (.bslice ty_int 2 2 [(iv 0)] [(0, 1, (tm 27)), (1, 1, (.cst (iv 0)))]),
 C 29 fn_b5 [(tm 25), (.cst (iv 1)), (tm 28)]]
def r_f2_5 : List CO := [
  mV 30 4,
 fA 31 1 1,
 lD 32 31,
 C 33 fn_b4 [(tm 30), (.cst (iv 2)), (tm 32)]]
def r_f2_6 : List CO := [
  mV 34 4,
 fA 35 2 1,
 lD 36 35,
 C 37 fn_b4 [(tm 34), (.cst (iv 4)), (tm 36)]]
def r_f2_7 : List CO := [
  mV 38 4,
 fA 39 3 1,
 O 40 (.sla 8 1 (tm 39) none none none),
 C 41 fn_b5 [(tm 38), (.cst (iv 2)), (tm 40)]]
def r_f2_8 : List CO := [
  mV 42 4,
 fA 43 11 1,
 lD 44 43,
 fA 45 12 1,
 lD 46 45,
 O 47 (.bslice ty_int 2 2 [(iv 0)] [(0, 1, (tm 44)), (1, 1, (tm 46))]),
 C 48 fn_b5 [(tm 42), (.cst (iv 2)), (tm 47)]]
def r_f2_9 : List CO := [
  mV 49 4,
 C 50 fn_b6 [(tm 49), (.cst (iv 32))],
 eX 51 0 50,
 eX 52 1 50,
 mV 2 51,
 mV 3 52]
def r_e4_0 : List CO := [
  O 6 (.mv (.cst (iv 0))),
 O 7 (.mv (.cst (iv 0))),
 O 8 (.mv (.cst nils)),
 O 9 (.mv (.cst (iv 0)))]
def r_e4_1 : List CO := [
  mV 11 0,
 nL 12 11,
 fA 13 1 12,
 O 14 (.loadN 12 (tm 13)),
 mV 15 2,
 C 16 fn_plan_Place [(tm 14), (tm 15)],
 mV 10 16,
 eX 17 0 10,
 eX 18 1 10,
 eX 19 2 10,
 mV 6 17,
 mV 7 18,
 mV 9 19]
def r_e4_2 : List CO := [
  mV 20 9,
 O 21 (.eq (B .eql ty_api_Errno) (tm 20) (.cst (iv 0)))]
def r_e4_3 : List CO := [
  mV 23 1,
 mV 24 6,
 C 25 fn_c9 [(tm 23), (tm 24)],
 mV 22 25,
 eX 26 0 22,
 eX 27 1 22,
 mV 8 26,
 mV 9 27]
def r_e4_4 : List CO := [
  mV 28 6,
 mV 29 7,
 mV 30 8,
 mV 31 9,
 mV 6 28,
 mV 7 29,
 mV 8 30,
 mV 9 31]
def r_e5_0 : List CO := [
  O 8 (.box ty_inode_slot (tm 2)),
 O 12 (.mv (.cst (iv 0)))]
def r_e5_1 : List CO := [
  mV 20 0,
 mV 21 1,
 O 22 (.loadN 3 (tm 8)),
 C 23 fn_e3 [(tm 20), (tm 21), (tm 22)],
 mV 19 23,
 eX 24 0 19,
 eX 25 1 19,
 mV 13 24,
 mV 14 25]
def r_e5_2 : List CO := [
  mV 26 14,
 O 27 (.ne (B .neq ty_api_Errno) (tm 26) (.cst (iv 0))),
 mV 28 27,
 G 29 28 false (.mv (tm 13)),
 G 30 28 false (.eq (B .eql ty_int) (tm 29) (.cst (iv 0))),
 O 31 (.pick (tm 28) (.cst (.b true)) (tm 30))]
def r_e5_3 : List CO := [
  mV 32 14,
 mV 12 32]
def r_e5_4 : List CO := [
  O 15 (.mv (.cst (iv 1)))]
def r_e5_5 : List CO := [
  mV 33 5,
 O 34 (.mv (.cst (iv 0)))]
def r_e5_6 : List CO := [
  O 35 (.lt (B .lss ty_int) (tm 34) (tm 33))]
def r_e5_7 : List CO := [
  mV 36 15,
 mV 37 0,
 nL 38 37,
 fA 39 13 38,
 lD 40 39,
 O 41 (.mul (B .mul ty_int) (tm 36) (tm 40)),
 mV 15 41]
def r_e5_8 : List CO := [
  O 42 (.add (B .add ty_int) (tm 34) (.cst (iv 1))),
 mV 34 42]
def r_e5_9 : List CO := [
  mV 43 3,
 mV 44 15,
 O 45 (.add (B .add ty_int) (tm 43) (tm 44)),
 mV 46 4,
 O 47 (.le (B .leq ty_int) (tm 45) (tm 46))]
def r_e5_10 : List CO := [
  O 12 (.mv (.cst (iv 0)))]
def r_e5_11 : List CO := [
  mV 48 5,
 O 49 (.gt (B .gtr ty_int) (tm 48) (.cst (iv 0)))]
def r_e5_12 : List CO := [
  mV 50 0,
 nL 51 50,
 fA 52 13 51,
 lD 53 52,
 O 54 (.mv (.cst (iv 0)))]
def r_e5_13 : List CO := [
  O 55 (.lt (B .lss ty_int) (tm 54) (tm 53))]
def r_e5_14 : List CO := [
  mV 56 54,
 mV 16 56]
def r_e5_15 : List CO := [
  mV 57 0,
 mV 58 1,
 fA 59 0 8,
 lD 60 59,
 mV 61 13,
 mV 62 16,
 O 63 (.build [(iv 0), (iv 0), (iv 0)] [(0, 1, (tm 60)), (1, 1, (tm 61)), (2, 1, (tm 62))]),
 mV 64 3,
 mV 65 16,
 mV 66 15,
 O 67 (.mul (B .mul ty_int) (tm 65) (tm 66)),
 mV 68 0,
 nL 69 68,
 fA 70 13 69,
 lD 71 70,
 O 72 (.quo (B .quo ty_int) (tm 67) (tm 71)),
 O 73 (.add (B .add ty_int) (tm 64) (tm 72)),
 mV 74 4,
 mV 75 5,
 O 76 (.sub (B .sub ty_int) (tm 75) (.cst (iv 1))),
 C 77 fn_e5 [(tm 57), (tm 58), (tm 63), (tm 73), (tm 74), (tm 76)],
 mV 17 77]
def r_e5_16 : List CO := [
  mV 78 17,
 O 79 (.ne (B .neq ty_api_Errno) (tm 78) (.cst (iv 0)))]
def r_e5_17 : List CO := [
  mV 80 17,
 mV 12 80]
def r_e5_18 : List CO := [
  O 81 (.add (B .add ty_int) (tm 54) (.cst (iv 1))),
 mV 54 81]
def r_e5_19 : List CO := [
  mV 82 3,
 mV 83 4,
 O 84 (.lt (B .lss ty_int) (tm 82) (tm 83))]
def r_e5_20 : List CO := [
  O 12 (.mv (.cst (iv 0)))]
def r_e5_21 : List CO := [
  mV 85 0,
 mV 86 1,
 O 87 (.loadN 3 (tm 8)),
 C 88 fn_e6 [(tm 85), (tm 86), (tm 87), (.cst (iv 0))],
 mV 18 88]
def r_e5_22 : List CO := [
  mV 89 18,
 O 90 (.ne (B .neq ty_api_Errno) (tm 89) (.cst (iv 0)))]
def r_e5_23 : List CO := [
  mV 91 18,
 mV 12 91]
def r_e5_24 : List CO := [
  mV 92 0,
 nL 93 92,
 fA 94 0 93,
 lD 95 94,
 mV 96 1,
 mV 97 13,
 C 98 fn_a1 [(tm 95), (tm 96), (tm 97)],
 mV 12 98]
def r_f3_0 : List CO := [
  O 2 (.alloc ty_api_Inode 13 [(iv 0), (iv 0), (iv 0), (iv 0), (iv 0), (iv 0), (iv 0), (iv 0), (iv 0), (iv 0), (iv 0), (iv 0), (iv 0)]),
 O 3 (.mv (.cst (iv 0)))]
def r_f3_1 : List CO := [
  mV 10 0,
 O 11 (.len false (tm 10)),
 O 12 (.ne (B .neq ty_int) (tm 11) (.cst (iv 32)))]
def r_f3_2 : List CO := [
  O 13 (.build [(iv 0), (iv 0), (iv 0), (iv 0), (iv 0), (iv 0), (iv 0), (iv 0), (iv 0), (iv 0), (iv 0), (iv 0), (iv 0)] []),
 .op none none (.store 13 (tm 2) (tm 13)),
 O 3 (.mv (.cst (iv 4)))]
def r_f3_3 : List CO := [
  O 4 (.alloc ty_api_Inode 13 [(iv 0), (iv 0), (iv 0), (iv 0), (iv 0), (iv 0), (iv 0), (iv 0), (iv 0), (iv 0), (iv 0), (iv 0), (iv 0)])]
def r_f3_4 : List CO := [
  O 5 (.alloc ty_int 1 [(iv 0)])]
def r_f3_5 : List CO := [
  mV 14 0,
 O 15 (.build [nils, (iv 0)] [(0, 1, (tm 14)), (1, 1, (.cst (iv 0)))]),
 O 16 (.box ty_codec_reader (tm 15)),
 mV 6 16]
def r_f3_6 : List CO := [
  mV 17 6,
 fA 18 0 4,
 O 19 (.bslice ty_pint 2 2 [nilp] [(0, 1, (tm 18)), (1, 1, (tm 5))]),
 C 20 fn_b3 [(tm 17), (.cst (iv 1)), (tm 19)]]
def r_f3_7 : List CO := [
  mV 21 6,
 fA 22 1 4,
 O 23 (.bslice ty_pint 1 1 [nilp] [(0, 1, (tm 22))]),
 C 24 fn_b3 [(tm 21), (.cst (iv 2)), (tm 23)]]
def r_f3_8 : List CO := [
  mV 25 6,
 fA 26 2 4,
 O 27 (.bslice ty_pint 1 1 [nilp] [(0, 1, (tm 26))]),
 C 28 fn_b3 [(tm 25), (.cst (iv 4)), (tm 27)]]
def r_f3_9 : List CO := [
  O 29 (.mv (.cst (iv 0)))]
def r_f3_10 : List CO := [
  O 30 (.lt (B .lss ty_int) (tm 29) (.cst (iv 8)))]
def r_f3_11 : List CO := [
  mV 31 29,
 mV 7 31]
def r_f3_12 : List CO := [
  mV 32 7,
 mV 33 6,
 C 34 fn_b2 [(tm 33), (.cst (iv 2))],
 fA 35 3 4,
 O 36 (.iaA 8 1 (tm 35) (tm 32)),
 .op none none (.store 1 (tm 36) (tm 34))]
def r_f3_13 : List CO := [
  O 37 (.add (B .add ty_int) (tm 29) (.cst (iv 1))),
 mV 29 37]
def r_f3_14 : List CO := [
  mV 38 6,
 fA 39 11 4,
 fA 40 12 4,
 O 41 (.bslice ty_pint 2 2 [nilp] [(0, 1, (tm 39)), (1, 1, (tm 40))]),
 C 42 fn_b3 [(tm 38), (.cst (iv 2)), (tm 41)]]
def r_f3_15 : List CO := [
  O 44 (.loadN 13 (tm 4)),
 C 45 fn_f2 [(tm 44)],
 mV 43 45,
 eX 46 0 43,
 eX 47 1 43,
 mV 8 46,
 mV 9 47]
def r_f3_16 : List CO := [
  O 48 (.loadN 13 (tm 4)),
 mV 49 0,
 mV 50 8,
 mV 51 9,
 C 52 fn_f4 [(tm 48), (tm 49), (tm 50), (tm 51)],
 eX 53 0 52,
 eX 54 1 52,
 .op none none (.store 13 (tm 2) (tm 53)),
 mV 3 54]
def r_g7_0 : List CO := [
  O 6 (.box ty_api_Plan (tm 2)),
 O 8 (.mv (.cst nilp)),
 O 9 (.mv (.cst (iv 0)))]
def r_g7_1 : List CO := [
  mV 13 1,
 mV 14 0,
 mV 15 3,
 C 16 fn_e0 [(tm 13), (tm 14), (tm 15)],
 mV 12 16,
 eX 17 0 12,
 eX 18 1 12,
 O 10 (.alloc ty_api_Inode 13 [(iv 0), (iv 0), (iv 0), (iv 0), (iv 0), (iv 0), (iv 0), (iv 0), (iv 0), (iv 0), (iv 0), (iv 0), (iv 0)]),
 .op none none (.store 13 (tm 10) (tm 17)),
 mV 11 18]
def r_g7_2 : List CO := [
  mV 20 11,
 O 21 (.ne (B .neq ty_api_Errno) (tm 20) (.cst (iv 0))),
 mV 19 21]
def r_g7_3 : List CO := [
  mV 22 11,
 O 8 (.mv (.cst nilp)),
 mV 9 22]
def r_g7_4 : List CO := [
  fA 24 0 10,
 lD 25 24,
 O 26 (.eq (B .eql ty_int) (tm 25) (.cst (iv 0))),
 mV 23 26]
def r_g7_5 : List CO := [
  O 8 (.mv (.cst nilp)),
 O 9 (.mv (.cst (iv 11)))]
def r_g7_6 : List CO := [
  mV 27 0,
 mV 28 1,
 O 29 (.loadN 12 (tm 6)),
 mV 30 3,
 O 31 (.loadN 13 (tm 10)),
 O 32 (.build [nilp, nilp, (iv 0), (iv 0), (iv 0), (iv 0), (iv 0), (iv 0), (iv 0), (iv 0), (iv 0), (iv 0), (iv 0), (iv 0), (iv 0), (iv 0), (iv 0), (iv 0), (iv 0), (iv 0), (iv 0), (iv 0), (iv 0), (iv 0), (iv 0), (iv 0), (iv 0), (iv 0)] [(0, 1, (tm 27)), (1, 1, (tm 28)), (2, 12, (tm 29)), (14, 1, (tm 30)), (15, 13, (tm 31))]),
 O 33 (.box ty_file_content (tm 32)),
 mV 8 33,
 O 9 (.mv (.cst (iv 0)))]
def r_b1_0 : List CO := [
  O 4 (.mv (.cst (iv 0)))]
def r_b1_1 : List CO := [
  mV 9 1,
 mV 10 0,
 nL 11 10,
 fA 12 2 11,
 fA 13 0 12,
 lD 14 13,
 O 15 (.rem (B .rem ty_int) (tm 9) (tm 14)),
 mV 5 15]
def r_b1_2 : List CO := [
  mV 16 5,
 O 17 (.eq (B .eql ty_int) (tm 16) (.cst (iv 0)))]
def r_b1_3 : List CO := [
  O 4 (.mv (.cst (iv 0)))]
def r_b1_4 : List CO := [
  mV 19 0,
 nL 20 19,
 fA 21 1 20,
 lD 22 21,
 mV 23 0,
 nL 24 23,
 fA 25 0 24,
 lD 26 25,
 mV 27 0,
 nL 28 27,
 fA 29 14 28,
 lD 30 29,
 mV 31 1,
 mV 32 0,
 nL 33 32,
 fA 34 2 33,
 fA 35 0 34,
 lD 36 35,
 O 37 (.quo (B .quo ty_int) (tm 31) (tm 36)),
 C 38 fn_d9 [(tm 22), (tm 26), (tm 30), (tm 37)],
 mV 18 38,
 eX 39 0 18,
 eX 40 1 18,
 mV 6 39,
 mV 7 40]
def r_b1_5 : List CO := [
  mV 41 7,
 O 42 (.ne (B .neq ty_api_Errno) (tm 41) (.cst (iv 0))),
 mV 43 42,
 G 44 43 false (.mv (tm 6)),
 G 45 43 false (.eq (B .eql ty_int) (tm 44) (.cst (iv 0))),
 O 46 (.pick (tm 43) (.cst (.b true)) (tm 45))]
def r_b1_6 : List CO := [
  mV 47 7,
 mV 4 47]
def r_b1_7 : List CO := [
  mV 49 0,
 nL 50 49,
 fA 51 0 50,
 lD 52 51,
 mV 53 6,
 C 54 fn_c9 [(tm 52), (tm 53)],
 mV 48 54,
 eX 55 0 48,
 eX 56 1 48,
 mV 8 55,
 mV 7 56]
def r_b1_8 : List CO := [
  mV 57 7,
 O 58 (.ne (B .neq ty_api_Errno) (tm 57) (.cst (iv 0)))]
def r_b1_9 : List CO := [
  mV 59 7,
 mV 4 59]
def r_b1_10 : List CO := [
  mV 60 8,
 mV 61 5,
 O 62 (.sl 1 false (tm 60) (some (tm 61)) none none),
 .op none none (.clrs [(.y 0)] (tm 62))]
def r_b1_11 : List CO := [
  mV 63 0,
 mV 64 6,
 mV 65 8,
 C 66 fn_b0 [(tm 63), (tm 64), (tm 65)],
 mV 4 66]
def r_g5_0 : List CO := [
  fA 5 0 1,
 lD 6 5,
 lD 7 2,
 lD 8 3,
 O 9 (.len false (tm 8)),
 mV 10 0,
 C 11 fn_g8 [(tm 6), (tm 7), (tm 9), (tm 10)]]
def r_g8_0 : List CO := [
  O 8 (.mv (.cst (iv 0)))]
def r_g8_1 : List CO := [
  mV 11 8,
 mV 12 2,
 O 13 (.lt (B .lss ty_int) (tm 11) (tm 12))]
def r_g8_2 : List CO := [
  mV 14 1,
 mV 15 8,
 O 16 (.add (B .add ty_int) (tm 14) (tm 15)),
 mV 17 0,
 O 18 (.rem (B .rem ty_int) (tm 16) (tm 17)),
 mV 9 18]
def r_g8_3 : List CO := [
  mV 19 0,
 mV 20 9,
 mV 21 2,
 O 22 (.add (B .add ty_int) (tm 20) (tm 21)),
 mV 23 8,
 O 24 (.sub (B .sub ty_int) (tm 22) (tm 23)),
 O 25 (.min (tm 19) (tm 24)),
 mV 10 25]
def r_g8_4 : List CO := [
  mV 26 3,
 mV 27 1,
 mV 28 8,
 O 29 (.add (B .add ty_int) (tm 27) (tm 28)),
 mV 30 0,
 O 31 (.quo (B .quo ty_int) (tm 29) (tm 30)),
 mV 32 9,
 mV 33 10,
 mV 34 8,
 O 35 (.build [(iv 0), (iv 0), (iv 0), (iv 0)] [(0, 1, (tm 31)), (1, 1, (tm 32)), (2, 1, (tm 33)), (3, 1, (tm 34))]),
 .call (some (pth 36)) none (tm 26) [(tm 35)],
 O 37 (.un .not (tm 36))]
def r_g8_5 : List CO := [
  mV 38 8,
 mV 39 10,
 mV 40 9,
 O 41 (.sub (B .sub ty_int) (tm 39) (tm 40)),
 O 42 (.add (B .add ty_int) (tm 38) (tm 41)),
 mV 8 42]
def r_c9_0 : List CO := [
  O 4 (.mv (.cst nils)),
 O 5 (.mv (.cst (iv 0)))]
def r_c9_1 : List CO := [
  mV 11 0,
 C 12 fn_d4 [(tm 11)],
 mV 6 12]
def r_c9_2 : List CO := [
  mV 13 6,
 O 14 (.ne (B .neq ty_api_Errno) (tm 13) (.cst (iv 0)))]
def r_c9_3 : List CO := [
  mV 15 6,
 O 4 (.mv (.cst nils)),
 mV 5 15]
def r_c9_4 : List CO := [
  mV 16 0,
 nL 17 16,
 fA 18 1 17,
 lD 19 18,
 mV 20 0,
 nL 21 20,
 fA 22 2 21,
 lD 23 22,
 O 24 (.bslice ty_group_blocks 2 2 [nilm] [(0, 1, (tm 19)), (1, 1, (tm 23))]),
 O 25 (.len false (tm 24)),
 O 26 (.mv (.cst (iv 0)))]
def r_c9_5 : List CO := [
  O 27 (.lt (B .lss ty_int) (tm 26) (tm 25))]
def r_c9_6 : List CO := [
  O 28 (.iaS 1 (tm 24) (tm 26)),
 lD 29 28,
 mV 8 29]
def r_c9_7 : List CO := [
  mV 31 8,
 mV 32 1,
 O 33 (.look (some .i64) nils true (tm 31) (tm 32)),
 mV 30 33,
 eX 34 0 30,
 eX 35 1 30,
 mV 9 34,
 mV 10 35]
def r_c9_8 : List CO := [
  mV 36 10]
def r_c9_9 : List CO := [
  mV 37 9,
 C 38 fn_a9 [(tm 37)],
 mV 4 38,
 O 5 (.mv (.cst (iv 0)))]
def r_c9_10 : List CO := [
  O 39 (.add (B .add ty_int) (tm 26) (.cst (iv 1))),
 mV 26 39]
def r_c9_11 : List CO := [
  mV 40 0,
 nL 41 40,
 fA 42 0 41,
 lD 43 42,
 mV 44 1,
 C 45 fn_c0 [(tm 43), (tm 44)],
 eX 46 0 45,
 eX 47 1 45,
 mV 4 46,
 mV 5 47]
def r_b0_0 : List CO := [
  O 6 (.mv (.cst (iv 0)))]
def r_b0_1 : List CO := [
  mV 7 0,
 nL 8 7,
 fA 9 15 8,
 fA 10 0 9,
 lD 11 10,
 O 12 (.eq (B .eql ty_int) (tm 11) (.cst (iv 2)))]
def r_b0_2 : List CO := [
  mV 13 0,
 nL 14 13,
 fA 15 0 14,
 lD 16 15,
 mV 17 1,
 mV 18 2,
 C 19 fn_d0 [(tm 16), (tm 17), (tm 18)],
 mV 6 19]
def r_b0_3 : List CO := [
  mV 20 0,
 nL 21 20,
 fA 22 0 21,
 lD 23 22,
 mV 24 1,
 mV 25 2,
 C 26 fn_c5 [(tm 23), (tm 24), (tm 25)],
 mV 6 26]
def r_g6_0 : List CO := [
  O 8 (.mv (.cst (iv 0)))]
def r_g6_1 : List CO := [
  mV 12 1,
 mV 13 0,
 mV 14 2,
 C 15 fn_e0 [(tm 12), (tm 13), (tm 14)],
 mV 11 15,
 eX 16 0 11,
 eX 17 1 11,
 O 9 (.alloc ty_api_Inode 13 [(iv 0), (iv 0), (iv 0), (iv 0), (iv 0), (iv 0), (iv 0), (iv 0), (iv 0), (iv 0), (iv 0), (iv 0), (iv 0)]),
 .op none none (.store 13 (tm 9) (tm 16)),
 mV 10 17]
def r_g6_2 : List CO := [
  mV 18 10,
 O 19 (.ne (B .neq ty_api_Errno) (tm 18) (.cst (iv 0))),
 mV 20 19,
 G 21 20 false (.mv (tm 3)),
 G 22 20 false (.fa 2 (tm 9)),
 G 23 20 false (.load (tm 22)),
 G 24 20 false (.le (B .leq ty_int) (tm 21) (tm 23)),
 O 25 (.pick (tm 20) (.cst (.b true)) (tm 24))]
def r_g6_3 : List CO := [
  mV 26 10,
 mV 8 26]
def r_g6_4 : List CO := [
  mV 27 3,
 fA 28 2 9,
 .op none none (.store 1 (tm 28) (tm 27))]
def r_g6_5 : List CO := [
  mV 29 1,
 mV 30 0,
 mV 31 2,
 O 32 (.loadN 13 (tm 9)),
 C 33 fn_e2 [(tm 29), (tm 30), (tm 31), (tm 32)],
 mV 8 33]
def r_g2_0 : List CO := [
  fA 5 0 1,
 lD 6 5,
 lD 7 2,
 lD 8 3,
 mV 9 0,
 C 10 fn_g8 [(tm 6), (tm 7), (tm 8), (tm 9)]]
def r_b7_0 : List CO := [
  O 4 (.mv (.cst nils))]
def r_b7_1 : List CO := [
  mV 8 0,
 mV 9 1,
 C 10 fn_c2 [(tm 8), (tm 9)],
 mV 5 10]
def r_b7_2 : List CO := [
  mV 11 5,
 O 12 (.eq (B .eql ty_int) (tm 11) (.cst (iv (-1))))]
def r_b7_3 : List CO := [
  mV 13 0,
 mV 4 13]
def r_b7_4 : List CO := [
  mV 14 5,
 O 15 (.add (B .add ty_int) (tm 14) (.cst (iv 1))),
 mV 6 15]
def r_b7_5 : List CO := [
  mV 16 6,
 mV 17 0,
 O 18 (.len false (tm 17)),
 O 19 (.lt (B .lss ty_int) (tm 16) (tm 18))]
def r_b7_7 : List CO := [
  mV 22 0,
 mV 23 6,
 O 24 (.iaS 1 (tm 22) (tm 23)),
 lD 25 24,
 mV 7 25]
def r_b7_8 : List CO := [
  mV 26 1,
 mV 27 7,
 .call (some (pth 28)) none (tm 26) [(tm 27)],
 O 29 (.un .not (tm 28))]
def r_b7_9 : List CO := [
  mV 30 0,
 mV 31 5,
 mV 32 7,
 O 33 (.iaS 1 (tm 30) (tm 31)),
 .op none none (.store 1 (tm 33) (tm 32))]
def r_b7_10 : List CO := [
  mV 34 5,
 O 35 (.add (B .add ty_int) (tm 34) (.cst (iv 1))),
 mV 5 35]
def r_b7_6 : List CO := [
  mV 20 6,
 O 21 (.add (B .add ty_int) (tm 20) (.cst (iv 1))),
 mV 6 21]
def r_b7_11 : List CO := [
  mV 36 0,
 mV 37 5,
 O 38 (.sl 1 false (tm 36) (some (tm 37)) none none),
 .op none none (.clrs [(iv 0)] (tm 38))]
def r_b7_12 : List CO := [
  mV 39 0,
 mV 40 5,
 O 41 (.sl 1 false (tm 39) none (some (tm 40)) none),
 mV 4 41]
def r_g0_0 : List CO := [
  O 2 (.mv (.cst (.b false)))]
def r_g0_1 : List CO := [
  mV 3 0,
 O 4 (.eq (B .eql ty_int) (tm 3) (.cst (iv 0))),
 mV 2 4]
def r_j1_0 : List CO := [
  O 6 (.mv (.cst (.b false)))]
def r_j1_1 : List CO := [
  mV 7 0,
 mV 8 1,
 O 9 (.ge (B .geq ty_int) (tm 7) (tm 8)),
 mV 10 9,
 G 11 10 true (.mv (tm 0)),
 G 12 10 true (.mv (tm 2)),
 G 13 10 true (.le (B .leq ty_int) (tm 11) (tm 12)),
 O 14 (.pick (tm 10) (tm 13) (.cst (.b false))),
 mV 6 14]
def r_d5_0 : List CO := [
  O 10 (.mv (.cst (iv 0)))]
def r_d5_1 : List CO := [
  mV 12 0,
 C 13 fn_d4 [(tm 12)],
 mV 11 13]
def r_d5_2 : List CO := [
  mV 15 11,
 O 16 (.ne (B .neq ty_api_Errno) (tm 15) (.cst (iv 0))),
 mV 14 16]
def r_d5_3 : List CO := [
  mV 17 11,
 mV 10 17]
def r_d5_4 : List CO := [
  mV 19 3,
 mV 20 2,
 mV 21 0,
 nL 22 21,
 fA 23 0 22,
 lD 24 23,
 nL 25 24,
 fA 26 3 25,
 O 27 (.loadN 12 (tm 26)),
 .call (some (pth 28)) none (tm 20) [(tm 27)],
 O 29 (.lt (B .lss ty_int) (tm 19) (tm 28)),
 mV 30 29,
 G 31 30 false (.mv (tm 3)),
 G 32 30 false (.mv (tm 0)),
 G 33 30 false (.nil (tm 32)),
 G 34 30 false (.fa 0 (tm 33)),
 G 35 30 false (.load (tm 34)),
 G 36 30 false (.nil (tm 35)),
 G 37 30 false (.fa 3 (tm 36)),
 G 38 30 false (.fa 1 (tm 37)),
 G 39 30 false (.load (tm 38)),
 G 40 30 false (.ge (B .geq ty_int) (tm 31) (tm 39)),
 O 41 (.pick (tm 30) (.cst (.b true)) (tm 40)),
 mV 18 41]
def r_d5_5 : List CO := [
  O 10 (.mv (.cst (iv 2)))]
def r_d5_6 : List CO := [
  mV 43 4,
 O 44 (.len false (tm 43)),
 mV 45 0,
 nL 46 45,
 fA 47 0 46,
 lD 48 47,
 nL 49 48,
 fA 50 3 49,
 fA 51 0 50,
 lD 52 51,
 O 53 (.ne (B .neq ty_int) (tm 44) (tm 52)),
 mV 42 53]
def r_d5_7 : List CO := [
  O 10 (.mv (.cst (iv 1)))]
def r_d5_8 : List CO := [
  mV 54 0,
 mV 55 3,
 C 56 fn_d3 [(tm 54), (tm 55)]]
def r_d5_9 : List CO := [
  mV 57 1,
 mV 58 0,
 .call (some (pth 59)) none (tm 57) [(tm 58)],
 mV 60 3,
 mV 61 4,
 C 62 fn_a9 [(tm 61)],
 .op none none (.mupd (some .i64) (tm 59) (tm 60) (tm 62))]
def r_d5_10 : List CO := [
  O 10 (.mv (.cst (iv 0)))]
def r_d1_0 : List CO := [
  O 2 (.mv (.cst nilm))]
def r_d1_1 : List CO := [
  mV 3 0,
 nL 4 3,
 fA 5 1 4,
 lD 6 5,
 mV 2 6]
def r_d2_0 : List CO := [
  O 1 (.box ty_api_Plan (tm 0)),
 O 2 (.mv (.cst (iv 0)))]
def r_d2_1 : List CO := [
  fA 3 5 1,
 lD 4 3,
 mV 2 4]
def r_f5_0 : List CO := [
  O 6 (.mv (.cst (iv 0))),
 O 7 (.mv (.cst (iv 0)))]
def r_f5_1 : List CO := [
  mV 14 0,
 mV 15 1,
 mV 16 2,
 C 17 fn_f7 [(tm 14), (tm 15), (tm 16)],
 mV 13 17,
 eX 18 0 13,
 eX 19 1 13,
 mV 8 18,
 mV 9 19]
def r_f5_2 : List CO := [
  O 10 (.alloc ty_int 1 [(iv 0)]),
 .op none none (.store 1 (tm 10) (.cst (iv 0)))]
def r_f5_3 : List CO := [
  mV 20 8,
 C 21 fn_a2 [(tm 20)]]
def r_f5_4 : List CO := [
  mV 12 23]
def r_f5_5 : List CO := [
  lD 24 10,
 O 25 (.slow (B .shl ty_int) (tm 24) (.cst (.p (.int .u64 (8))))),
 mV 26 12,
 O 27 (.convI .i64 (tm 26)),
 O 28 (.slow (B .or ty_int) (tm 25) (tm 27)),
 .op none none (.store 1 (tm 10) (tm 28))]
def r_f5_6 : List CO := [
  lD 29 10,
 mV 30 9,
 mV 6 29,
 mV 7 30]
def r_a8_0 : List CO := [
  O 5 (.box ty_alloc_bitmap (tm 0)),
 O 10 (.mv (.cst (iv 0))),
 O 11 (.mv (.cst (iv 0)))]
def r_a8_1 : List CO := [
  mV 14 2,
 mV 12 14,
 O 13 (.mv (.cst (iv 0)))]
def r_a8_2 : List CO := [
  O 16 (.loadN 2 (tm 5)),
 mV 17 1,
 mV 18 12,
 mV 19 3,
 C 20 fn_a5 [(tm 16), (tm 17), (tm 18), (tm 19)],
 mV 15 20,
 eX 21 0 15,
 eX 22 1 15,
 mV 12 21,
 mV 13 22]
def r_a8_3 : List CO := [
  mV 24 13,
 O 25 (.ne (B .neq ty_api_Errno) (tm 24) (.cst (iv 0))),
 mV 23 25]
def r_a8_4 : List CO := [
  mV 26 13,
 O 10 (.mv (.cst (iv 0))),
 mV 11 26]
def r_a8_5 : List CO := [
  mV 28 12,
 mV 29 3,
 O 30 (.ge (B .geq ty_int) (tm 28) (tm 29)),
 mV 27 30]
def r_a8_6 : List CO := [
  O 10 (.mv (.cst (iv 0))),
 O 11 (.mv (.cst (iv 10)))]
def r_a8_7 : List CO := [
  mV 32 4,
 mV 33 12,
 .call (some (pth 34)) none (tm 32) [(tm 33)],
 mV 31 34]
def r_a8_8 : List CO := [
  mV 35 12,
 O 36 (.add (B .add ty_int) (tm 35) (.cst (iv 1))),
 mV 12 36]
def r_a8_9 : List CO := [
  O 37 (.loadN 2 (tm 5)),
 mV 38 1,
 mV 39 12,
 C 40 fn_a7 [(tm 37), (tm 38), (tm 39), (.cst (.b true))],
 mV 13 40]
def r_a8_10 : List CO := [
  mV 41 13,
 O 42 (.ne (B .neq ty_api_Errno) (tm 41) (.cst (iv 0)))]
def r_a8_11 : List CO := [
  mV 43 13,
 O 10 (.mv (.cst (iv 0))),
 mV 11 43]
def r_a8_12 : List CO := [
  mV 44 12,
 mV 10 44,
 O 11 (.mv (.cst (iv 0)))]
noncomputable def b_Bm_take : Code := scopeOf (Tryz.prog.funcs[98]?)
noncomputable def cb_Bm_take : CC := (.seq (.reg r_a8_1) (.seq .skip (.seq (.reg r_a8_2) (.seq (.block 0 (.seq (.reg r_a8_3) (.cond (tm 23) (.seq (.reg r_a8_4) .ret) (.seq (.reg r_a8_5) (.cond (tm 27) (.seq (.reg r_a8_6) .ret) (.seq (.reg r_a8_7) (.cond (tm 31) (.seq (.reg r_a8_8) (.goto 0)) .skip))))))) (.seq (.seq (.reg r_a8_9) (.seq (.reg r_a8_10) (.cond (tm 42) (.seq (.reg r_a8_11) .ret) .skip))) (.seq (.reg r_a8_12) .ret))))))
theorem hb_Bm_take : comp Tryz.prog b_Bm_take = cb_Bm_take := by kernel_rfl
noncomputable def cr_Bm_take_0 : CC := (.seq .skip (.seq (.reg r_a8_2) (.seq (.block 0 (.seq (.reg r_a8_3) (.cond (tm 23) (.seq (.reg r_a8_4) .ret) (.seq (.reg r_a8_5) (.cond (tm 27) (.seq (.reg r_a8_6) .ret) (.seq (.reg r_a8_7) (.cond (tm 31) (.seq (.reg r_a8_8) (.goto 0)) .skip))))))) (.seq (.seq (.reg r_a8_9) (.seq (.reg r_a8_10) (.cond (tm 42) (.seq (.reg r_a8_11) .ret) .skip))) (.seq (.reg r_a8_12) .ret)))))
theorem hl_Bm_take_0 : findLabel b_Bm_take 0 = some (restOf b_Bm_take 0) := by kernel_rfl
theorem hc_Bm_take_0 : comp Tryz.prog (restOf b_Bm_take 0) = cr_Bm_take_0 := by kernel_rfl
def r_f6_0 : List CO := [
  O 8 (.mv (.cst nils)),
 O 9 (.mv (.cst (iv 0)))]
def r_f6_1 : List CO := [
  mV 15 0,
 mV 16 1,
 mV 17 2,
 C 18 fn_f7 [(tm 15), (tm 16), (tm 17)],
 mV 14 18,
 eX 19 0 14,
 eX 20 1 14,
 mV 10 19,
 mV 11 20]
def r_f6_2 : List CO := [
  mV 21 11,
 O 22 (.ne (B .neq ty_api_Errno) (tm 21) (.cst (iv 0)))]
def r_f6_3 : List CO := [
  mV 23 11,
 O 8 (.mv (.cst nils)),
 mV 9 23]
def r_f6_4 : List CO := [
  mV 24 3,
 O 25 (.lt (B .lss ty_int) (tm 24) (.cst (iv 0))),
 mV 26 25,
 G 27 26 false (.mv (tm 3)),
 G 28 26 false (.mv (tm 2)),
 G 29 26 false (.mul (B .mul ty_int) (.cst (iv 8)) (tm 28)),
 G 30 26 false (.slow (B .shr ty_int) (tm 27) (tm 29)),
 G 31 26 false (.ne (B .neq ty_int) (tm 30) (.cst (iv 0))),
 O 32 (.pick (tm 26) (.cst (.b true)) (tm 31))]
def r_f6_5 : List CO := [
  O 8 (.mv (.cst nils)),
 O 9 (.mv (.cst (iv 3)))]
def r_f6_6 : List CO := [
  mV 33 0,
 C 34 fn_a9 [(tm 33)],
 mV 12 34]
def r_f6_7 : List CO := [
  mV 35 2,
 O 36 (.mv (.cst (iv 0)))]
def r_f6_8 : List CO := [
  O 37 (.lt (B .lss ty_int) (tm 36) (tm 35))]
def r_f6_9 : List CO := [
  mV 38 36,
 mV 13 38]
def r_f6_10 : List CO := [
  mV 39 12,
 mV 40 1,
 mV 41 13,
 O 42 (.add (B .add ty_int) (tm 40) (tm 41)),
 mV 43 3,
 mV 44 13,
 O 45 (.mul (B .mul ty_int) (.cst (iv 8)) (tm 44)),
 O 46 (.slow (B .shr ty_int) (tm 43) (tm 45)),
 O 47 (.convI .u8 (tm 46)),
 O 48 (.iaS 1 (tm 39) (tm 42)),
 .op none none (.store 1 (tm 48) (tm 47))]
def r_f6_11 : List CO := [
  O 49 (.add (B .add ty_int) (tm 36) (.cst (iv 1))),
 mV 36 49]
def r_f6_12 : List CO := [
  mV 50 12,
 mV 8 50,
 O 9 (.mv (.cst (iv 0)))]
def r_a5_0 : List CO := [
  O 4 (.box ty_alloc_bitmap (tm 0)),
 O 8 (.mv (.cst (iv 0))),
 O 9 (.mv (.cst (iv 0)))]
def r_a5_1 : List CO := [
  mV 14 2,
 mV 15 3,
 O 16 (.lt (B .lss ty_int) (tm 14) (tm 15))]
def r_a5_2 : List CO := [
  mV 18 1,
 fA 19 0 4,
 lD 20 19,
 mV 21 2,
 fA 22 1 4,
 lD 23 22,
 O 24 (.quo (B .quo ty_int) (tm 21) (tm 23)),
 O 25 (.add (B .add ty_int) (tm 20) (tm 24)),
 C 26 fn_c9 [(tm 18), (tm 25)],
 mV 17 26,
 eX 27 0 17,
 eX 28 1 17,
 mV 10 27,
 mV 11 28]
def r_a5_3 : List CO := [
  mV 29 11,
 O 30 (.ne (B .neq ty_api_Errno) (tm 29) (.cst (iv 0)))]
def r_a5_4 : List CO := [
  mV 31 11,
 O 8 (.mv (.cst (iv 0))),
 mV 9 31]
def r_a5_5 : List CO := [
  mV 32 2,
 fA 33 1 4,
 lD 34 33,
 O 35 (.quo (B .quo ty_int) (tm 32) (tm 34)),
 fA 36 1 4,
 lD 37 36,
 O 38 (.mul (B .mul ty_int) (tm 35) (tm 37)),
 mV 12 38]
def r_a5_6 : List CO := [
  mV 40 10,
 mV 41 2,
 mV 42 12,
 O 43 (.sub (B .sub ty_int) (tm 41) (tm 42)),
 mV 44 3,
 mV 45 12,
 O 46 (.sub (B .sub ty_int) (tm 44) (tm 45)),
 fA 47 1 4,
 lD 48 47,
 O 49 (.min (tm 46) (tm 48)),
 C 50 fn_e7 [(tm 40), (tm 43), (tm 49)],
 mV 39 50,
 eX 51 0 39,
 eX 52 1 39,
 mV 13 51,
 mV 11 52]
def r_a5_7 : List CO := [
  mV 53 11,
 O 54 (.eq (B .eql ty_api_Errno) (tm 53) (.cst (iv 0)))]
def r_a5_8 : List CO := [
  mV 55 12,
 mV 56 13,
 O 57 (.add (B .add ty_int) (tm 55) (tm 56)),
 mV 8 57,
 O 9 (.mv (.cst (iv 0)))]
def r_a5_9 : List CO := [
  mV 58 12,
 fA 59 1 4,
 lD 60 59,
 O 61 (.add (B .add ty_int) (tm 58) (tm 60)),
 mV 2 61]
def r_a5_10 : List CO := [
  mV 62 3,
 mV 8 62,
 O 9 (.mv (.cst (iv 0)))]
def r_c1_0 : List CO := [
  O 4 (.mv (.cst nils)),
 O 5 (.mv (.cst (.b false)))]
def r_c1_1 : List CO := [
  mV 8 0,
 nL 9 8,
 fA 10 1 9,
 lD 11 10,
 C 12 fn_c4 [(tm 11)],
 O 13 (.len false (tm 12)),
 O 14 (.mv (.cst (iv 0)))]
def r_c1_2 : List CO := [
  O 15 (.lt (B .lss ty_int) (tm 14) (tm 13))]
def r_c1_3 : List CO := [
  O 16 (.iaS 2 (tm 12) (tm 14)),
 O 17 (.loadN 2 (tm 16)),
 O 7 (.alloc ty_api_Write 2 [(iv 0), nils]),
 .op none none (.store 2 (tm 7) (tm 17))]
def r_c1_4 : List CO := [
  fA 18 0 7,
 lD 19 18,
 mV 20 1,
 O 21 (.eq (B .eql ty_int) (tm 19) (tm 20))]
def r_c1_5 : List CO := [
  fA 22 1 7,
 lD 23 22,
 mV 4 23,
 O 5 (.mv (.cst (.b true)))]
def r_c1_6 : List CO := [
  O 24 (.add (B .add ty_int) (tm 14) (.cst (iv 1))),
 mV 14 24]
def r_c1_7 : List CO := [
  O 4 (.mv (.cst nils)),
 O 5 (.mv (.cst (.b false)))]
def r_b5_0 : List CO := [
  mV 8 2,
 O 9 (.len false (tm 8)),
 O 10 (.mv (.cst (iv 0)))]
def r_b5_1 : List CO := [
  O 11 (.lt (B .lss ty_int) (tm 10) (tm 9))]
def r_b5_2 : List CO := [
  O 12 (.iaS 1 (tm 8) (tm 10)),
 lD 13 12,
 mV 7 13]
def r_b5_3 : List CO := [
  mV 14 0,
 mV 15 1,
 mV 16 7,
 C 17 fn_b4 [(tm 14), (tm 15), (tm 16)]]
def r_b5_4 : List CO := [
  O 18 (.add (B .add ty_int) (tm 10) (.cst (iv 1))),
 mV 10 18]
def r_b4_0 : List CO := [
  mV 9 1,
 O 10 (.mksl ty_uint8 1 1 [(.y 0)] (tm 9) (tm 9)),
 mV 11 1,
 mV 12 2,
 C 13 fn_f6 [(tm 10), (.cst (iv 0)), (tm 11), (tm 12)],
 mV 8 13,
 eX 14 0 8,
 eX 15 1 8,
 mV 6 14,
 mV 7 15]
def r_b4_1 : List CO := [
  mV 16 7,
 O 17 (.ne (B .neq ty_api_Errno) (tm 16) (.cst (iv 0))),
 mV 18 17,
 G 19 18 true (.mv (tm 0)),
 G 20 18 true (.nil (tm 19)),
 G 21 18 true (.fa 1 (tm 20)),
 G 22 18 true (.load (tm 21)),
 G 23 18 true (.eq (B .eql ty_api_Errno) (tm 22) (.cst (iv 0))),
 O 24 (.pick (tm 18) (tm 23) (.cst (.b false)))]
def r_b4_2 : List CO := [
  mV 25 0,
 mV 26 7,
 nL 27 25,
 fA 28 1 27,
 .op none none (.store 1 (tm 28) (tm 26))]
def r_b4_3 : List CO := [
  mV 29 0,
 mV 30 0,
 nL 31 30,
 fA 32 0 31,
 lD 33 32,
 mV 34 6,
 O 35 (.app ty_uint8 1 1 [(.y 0)] (tm 33) (tm 34)),
 nL 36 29,
 fA 37 0 36,
 .op none none (.store 1 (tm 37) (tm 35))]
def r_b6_0 : List CO := [
  O 4 (.mv (.cst nils)),
 O 5 (.mv (.cst (iv 0)))]
def r_b6_1 : List CO := [
  mV 6 0,
 nL 7 6,
 fA 8 1 7,
 lD 9 8,
 O 10 (.ne (B .neq ty_api_Errno) (tm 9) (.cst (iv 0)))]
def r_b6_2 : List CO := [
  mV 11 0,
 nL 12 11,
 fA 13 1 12,
 lD 14 13,
 O 4 (.mv (.cst nils)),
 mV 5 14]
def r_b6_3 : List CO := [
  mV 15 0,
 nL 16 15,
 fA 17 0 16,
 lD 18 17,
 mV 19 1,
 mV 20 0,
 nL 21 20,
 fA 22 0 21,
 lD 23 22,
 O 24 (.len false (tm 23)),
 O 25 (.sub (B .sub ty_int) (tm 19) (tm 24)),
 O 26 (.appz ty_uint8 1 1 [(.y 0)] (tm 18) (tm 25)),
 mV 4 26,
 O 5 (.mv (.cst (iv 0)))]
def r_a1_0 : List CO := [
  O 6 (.mv (.cst (iv 0)))]
def r_a1_1 : List CO := [
  mV 9 0,
 O 10 (.eqp false (B .eql ty_palloc_Alloc) (tm 9) (.cst nilp)),
 mV 8 10]
def r_a1_2 : List CO := [
  O 6 (.mv (.cst (iv 1)))]
def r_a1_3 : List CO := [
  mV 12 2,
 mV 13 0,
 nL 14 13,
 fA 15 1 14,
 fA 16 11 15,
 lD 17 16,
 O 18 (.lt (B .lss ty_int) (tm 12) (tm 17)),
 mV 19 18,
 G 20 19 false (.mv (tm 2)),
 G 21 19 false (.mv (tm 0)),
 G 22 19 false (.nil (tm 21)),
 G 23 19 false (.fa 1 (tm 22)),
 G 24 19 false (.fa 1 (tm 23)),
 G 25 19 false (.load (tm 24)),
 G 26 19 false (.ge (B .geq ty_int) (tm 20) (tm 25)),
 O 27 (.pick (tm 19) (.cst (.b true)) (tm 26)),
 mV 11 27]
def r_a1_4 : List CO := [
  O 6 (.mv (.cst (iv 2)))]
def r_a1_5 : List CO := [
  mV 28 0,
 nL 29 28,
 fA 30 13 29,
 O 31 (.loadN 2 (tm 30)),
 mV 32 1,
 mV 33 2,
 C 34 fn_a6 [(tm 31), (tm 32), (tm 33)],
 mV 7 34]
def r_a1_6 : List CO := [
  mV 35 7,
 O 36 (.ne (B .neq ty_api_Errno) (tm 35) (.cst (iv 0)))]
def r_a1_7 : List CO := [
  mV 37 7,
 mV 6 37]
def r_a1_8 : List CO := [
  mV 38 1,
 mV 39 2,
 C 40 fn_c8 [(tm 38), (tm 39)],
 mV 6 40]
def r_b3_0 : List CO := [
  mV 8 2,
 O 9 (.len false (tm 8)),
 O 10 (.mv (.cst (iv 0)))]
def r_b3_1 : List CO := [
  O 11 (.lt (B .lss ty_int) (tm 10) (tm 9))]
def r_b3_2 : List CO := [
  O 12 (.iaS 1 (tm 8) (tm 10)),
 lD 13 12,
 mV 7 13]
def r_b3_3 : List CO := [
  mV 14 7,
 mV 15 0,
 mV 16 1,
 C 17 fn_b2 [(tm 15), (tm 16)],
 nL 18 14,
 .op none none (.store 1 (tm 18) (tm 17))]
def r_b3_4 : List CO := [
  O 19 (.add (B .add ty_int) (tm 10) (.cst (iv 1))),
 mV 10 19]
def r_b2_0 : List CO := [
  O 4 (.mv (.cst (iv 0)))]
def r_b2_1 : List CO := [
  mV 8 0,
 nL 9 8,
 fA 10 0 9,
 lD 11 10,
 mV 12 0,
 nL 13 12,
 fA 14 1 13,
 lD 15 14,
 mV 16 1,
 C 17 fn_f5 [(tm 11), (tm 15), (tm 16)],
 mV 7 17,
 eX 18 0 7,
 eX 19 1 7,
 mV 5 18,
 mV 6 19]
def r_b2_2 : List CO := [
  mV 20 0,
 nL 21 20,
 fA 22 1 21,
 lD 23 22,
 mV 24 1,
 O 25 (.add (B .add ty_int) (tm 23) (tm 24)),
 nL 26 20,
 fA 27 1 26,
 .op none none (.store 1 (tm 27) (tm 25))]
def r_b2_3 : List CO := [
  mV 28 5,
 mV 4 28]
def r_f4_0 : List CO := [
  O 4 (.box ty_api_Inode (tm 0)),
 O 8 (.alloc ty_api_Inode 13 [(iv 0), (iv 0), (iv 0), (iv 0), (iv 0), (iv 0), (iv 0), (iv 0), (iv 0), (iv 0), (iv 0), (iv 0), (iv 0)]),
 O 9 (.mv (.cst (iv 0)))]
def r_f4_1 : List CO := [
  mV 11 3,
 O 12 (.ne (B .neq ty_api_Errno) (tm 11) (.cst (iv 0))),
 mV 13 12,
 G 14 13 false (.mv (tm 1)),
 G 15 13 false (.mv (tm 2)),
 .call (some (pth 16)) (some (pth 13, false)) (.cst (.func fn_f1 [])) [(tm 14), (tm 15)],
 G 17 13 false (.un .not (tm 16)),
 O 18 (.pick (tm 13) (.cst (.b true)) (tm 17))]
def r_f4_2 : List CO := [
  O 10 (.alloc ty_api_Inode 13 [(iv 0), (iv 0), (iv 0), (iv 0), (iv 0), (iv 0), (iv 0), (iv 0), (iv 0), (iv 0), (iv 0), (iv 0), (iv 0)])]
def r_f4_3 : List CO := [
  O 19 (.loadN 13 (tm 10)),
 .op none none (.store 13 (tm 8) (tm 19)),
 O 9 (.mv (.cst (iv 4)))]
def r_f4_4 : List CO := [
  O 20 (.loadN 13 (tm 4)),
 .op none none (.store 13 (tm 8) (tm 20)),
 O 9 (.mv (.cst (iv 0)))]
def r_d4_0 : List CO := [
  O 2 (.mv (.cst (iv 0)))]
def r_d4_1 : List CO := [
  mV 4 0,
 O 5 (.eqp false (B .eql ty_pgroup_Op) (tm 4) (.cst nilp)),
 mV 3 5]
def r_d4_2 : List CO := [
  O 2 (.mv (.cst (iv 1)))]
def r_d4_3 : List CO := [
  mV 7 0,
 nL 8 7,
 fA 9 0 8,
 lD 10 9,
 nL 11 10,
 fA 12 17 11,
 lD 13 12,
 mV 14 0,
 O 15 (.eqp true (B .neq ty_pgroup_Op) (tm 13) (tm 14)),
 mV 6 15]
def r_d4_4 : List CO := [
  O 2 (.mv (.cst (iv 22)))]
def r_d4_5 : List CO := [
  O 2 (.mv (.cst (iv 0)))]
def r_a9_0 : List CO := [
  O 2 (.mv (.cst nils))]
def r_a9_1 : List CO := [
  mV 3 0,
 O 4 (.eq (B .eql ty_suint8) (tm 3) (.cst nils))]
def r_a9_2 : List CO := [
  O 2 (.mv (.cst nils))]
def r_a9_3 : List CO := [
  O 5 (.bslice ty_uint8 0 0 [(.y 0)] []),
 mV 6 0,
 O 7 (.app ty_uint8 1 1 [(.y 0)] (tm 5) (tm 6)),
 mV 2 7]
def r_c4_0 : List CO := [
  O 2 (.mv (.cst nils))]
def r_c4_1 : List CO := [
  mV 6 0,
 O 7 (.eqp false (B .eql ty_pwal_Log) (tm 6) (.cst nilp))]
def r_c4_2 : List CO := [
  O 2 (.mv (.cst nils))]
def r_c4_3 : List CO := [
  O 3 (.mv (.cst nils))]
def r_c4_4 : List CO := [
  mV 8 0,
 nL 9 8,
 fA 10 16 9,
 lD 11 10,
 C 12 fn_c3 [(tm 11)],
 C 13 fn_Sorted [(tm 12)],
 O 14 (.len false (tm 13)),
 O 15 (.mv (.cst (iv 0)))]
def r_c4_5 : List CO := [
  O 16 (.lt (B .lss ty_int) (tm 15) (tm 14))]
def r_c4_6 : List CO := [
  O 17 (.iaS 1 (tm 13) (tm 15)),
 lD 18 17,
 mV 5 18]
def r_c4_7 : List CO := [
  mV 19 3,
 mV 20 5,
 mV 21 0,
 nL 22 21,
 fA 23 16 22,
 lD 24 23,
 mV 25 5,
 O 26 (.look (some .i64) nils false (tm 24) (tm 25)),
 C 27 fn_a9 [(tm 26)],
 O 28 (.build [(iv 0), nils] [(0, 1, (tm 20)), (1, 1, (tm 27))]),
 O 29 (.bslice ty_api_Write 1 2 [(iv 0), nils] [(0, 2, (tm 28))]),
 O 30 (.app ty_api_Write 2 32 [(iv 0), nils] (tm 19) (tm 29)),
 mV 3 30]
def r_c4_8 : List CO := [
  O 31 (.add (B .add ty_int) (tm 15) (.cst (iv 1))),
 mV 15 31]
def r_c4_9 : List CO := [
  mV 32 3,
 mV 2 32]
def r_c0_0 : List CO := [
  O 4 (.mv (.cst nils)),
 O 5 (.mv (.cst (iv 0)))]
def r_c0_1 : List CO := [
  mV 11 0,
 O 12 (.eqp false (B .eql ty_pgroup_Group) (tm 11) (.cst nilp)),
 mV 10 12]
def r_c0_2 : List CO := [
  O 4 (.mv (.cst nils)),
 O 5 (.mv (.cst (iv 1)))]
def r_c0_3 : List CO := [
  mV 14 1,
 O 15 (.lt (B .lss ty_int) (tm 14) (.cst (iv 0))),
 mV 16 15,
 G 17 16 false (.mv (tm 1)),
 G 18 16 false (.mv (tm 0)),
 G 19 16 false (.nil (tm 18)),
 G 20 16 false (.fa 3 (tm 19)),
 G 21 16 false (.fa 1 (tm 20)),
 G 22 16 false (.load (tm 21)),
 G 23 16 false (.ge (B .geq ty_int) (tm 17) (tm 22)),
 O 24 (.pick (tm 16) (.cst (.b true)) (tm 23)),
 mV 13 24]
def r_c0_4 : List CO := [
  O 4 (.mv (.cst nils)),
 O 5 (.mv (.cst (iv 2)))]
def r_c0_5 : List CO := [
  mV 26 0,
 nL 27 26,
 fA 28 15 27,
 lD 29 28,
 mV 30 1,
 O 31 (.look (some .i64) nils true (tm 29) (tm 30)),
 mV 25 31,
 eX 32 0 25,
 eX 33 1 25,
 mV 6 32,
 mV 7 33]
def r_c0_6 : List CO := [
  mV 34 7]
def r_c0_7 : List CO := [
  mV 35 6,
 C 36 fn_a9 [(tm 35)],
 mV 4 36,
 O 5 (.mv (.cst (iv 0)))]
def r_c0_8 : List CO := [
  mV 38 0,
 mV 39 1,
 C 40 fn_c1 [(tm 38), (tm 39)],
 mV 37 40,
 eX 41 0 37,
 eX 42 1 37,
 mV 8 41,
 mV 9 42]
def r_c0_9 : List CO := [
  mV 43 9]
def r_c0_10 : List CO := [
  mV 44 8,
 mV 4 44,
 O 5 (.mv (.cst (iv 0)))]
def r_c0_11 : List CO := [
  mV 45 0,
 nL 46 45,
 fA 47 2 46,
 lD 48 47,
 mV 49 1,
 C 50 fn_Ca_Get [(tm 48), (tm 49)],
 eX 51 0 50,
 eX 52 1 50,
 mV 4 51,
 mV 5 52]
def r_c5_0 : List CO := [
  O 6 (.mv (.cst (iv 0)))]
def r_c5_1 : List CO := [
  mV 7 0,
 mV 8 1,
 mV 9 2,
 C 10 fn_d5 [(tm 7), (.cst (.func fn_c6 [])), (.cst (.func fn_c7 [])), (tm 8), (tm 9)],
 mV 6 10]
def r_c2_0 : List CO := [
  O 4 (.mv (.cst (iv 0)))]
def r_c2_1 : List CO := [
  mV 6 0,
 O 7 (.len false (tm 6)),
 O 8 (.mv (.cst (iv 0)))]
def r_c2_2 : List CO := [
  O 9 (.lt (B .lss ty_int) (tm 8) (tm 7))]
def r_c2_3 : List CO := [
  mV 10 8,
 mV 5 10]
def r_c2_4 : List CO := [
  mV 11 1,
 mV 12 0,
 mV 13 5,
 O 14 (.iaS 1 (tm 12) (tm 13)),
 lD 15 14,
 .call (some (pth 16)) none (tm 11) [(tm 15)]]
def r_c2_5 : List CO := [
  mV 17 5,
 mV 4 17]
def r_c2_6 : List CO := [
  O 18 (.add (B .add ty_int) (tm 8) (.cst (iv 1))),
 mV 8 18]
def r_c2_7 : List CO := [
  O 4 (.mv (.cst (iv (-1))))]
def r_d3_0 : List CO := [
  mV 4 0,
 nL 5 4,
 fA 6 1 5,
 lD 7 6,
 mV 8 1,
 .op none none (.mdel (some .i64) (tm 7) (tm 8))]
def r_d3_1 : List CO := [
  mV 9 0,
 nL 10 9,
 fA 11 2 10,
 lD 12 11,
 mV 13 1,
 .op none none (.mdel (some .i64) (tm 12) (tm 13))]
def r_d3_2 : List CO := [
  mV 14 0,
 nL 15 14,
 fA 16 3 15,
 lD 17 16,
 mV 18 1,
 .op none none (.mdel (some .i64) (tm 17) (tm 18))]
def r_f7_0 : List CO := [
  O 6 (.mv (.cst nils)),
 O 7 (.mv (.cst (iv 0)))]
def r_f7_1 : List CO := [
  mV 10 2]
def r_f7_2 : List CO := [
  O 12 (.eq (B .eql ty_int) (tm 10) (.cst (iv 1))),
 mV 11 12]
def r_f7_3 : List CO := [
  O 13 (.eq (B .eql ty_int) (tm 10) (.cst (iv 2))),
 mV 11 13]
def r_f7_4 : List CO := [
  O 14 (.eq (B .eql ty_int) (tm 10) (.cst (iv 4))),
 mV 11 14]
def r_f7_5 : List CO := [
  mV 16 0,
 mV 17 1,
 mV 18 2,
 C 19 fn_f8 [(tm 16), (tm 17), (tm 18)],
 mV 15 19,
 eX 20 0 15,
 eX 21 1 15,
 mV 8 20,
 mV 9 21]
def r_f7_6 : List CO := [
  mV 22 9,
 O 23 (.un .not (tm 22))]
def r_f7_7 : List CO := [
  O 6 (.mv (.cst nils)),
 O 7 (.mv (.cst (iv 2)))]
def r_f7_8 : List CO := [
  mV 24 8,
 mV 6 24,
 O 7 (.mv (.cst (iv 0)))]
def r_f7_9 : List CO := [
  O 6 (.mv (.cst nils)),
 O 7 (.mv (.cst (iv 1)))]
def r_a2_0 : List CO := [
  O 1 (.box ty_suint8 (tm 0)),
 O 2 (.mv (.cst nilf))]
def r_a2_1 : List CO := [
  O 3 (.fn fn_a3 [(tm 1)]),
 mV 2 3]
def r_a7_0 : List CO := [
  O 4 (.box ty_alloc_bitmap (tm 0)),
 O 8 (.mv (.cst (iv 0)))]
def r_a7_1 : List CO := [
  mV 12 1,
 fA 13 0 4,
 lD 14 13,
 mV 15 2,
 fA 16 1 4,
 lD 17 16,
 O 18 (.quo (B .quo ty_int) (tm 15) (tm 17)),
 O 19 (.add (B .add ty_int) (tm 14) (tm 18)),
 C 20 fn_c9 [(tm 12), (tm 19)],
 mV 11 20,
 eX 21 0 11,
 eX 22 1 11,
 mV 9 21,
 mV 10 22]
def r_a7_2 : List CO := [
  mV 23 10,
 O 24 (.ne (B .neq ty_api_Errno) (tm 23) (.cst (iv 0)))]
def r_a7_3 : List CO := [
  mV 25 10,
 mV 8 25]
def r_a7_4 : List CO := [
  mV 27 9,
 mV 28 2,
 fA 29 1 4,
 lD 30 29,
 O 31 (.rem (B .rem ty_int) (tm 28) (tm 30)),
 mV 32 3,
 C 33 fn_e9 [(tm 27), (tm 31), (tm 32)],
 mV 26 33,
 eX 34 0 26,
 eX 35 1 26,
 mV 9 34]
def r_a7_5 : List CO := [
  mV 36 1,
 fA 37 0 4,
 lD 38 37,
 mV 39 2,
 fA 40 1 4,
 lD 41 40,
 O 42 (.quo (B .quo ty_int) (tm 39) (tm 41)),
 O 43 (.add (B .add ty_int) (tm 38) (tm 42)),
 mV 44 9,
 C 45 fn_d0 [(tm 36), (tm 43), (tm 44)],
 mV 8 45]
def r_e7_0 : List CO := [
  O 6 (.mv (.cst (iv 0))),
 O 7 (.mv (.cst (iv 0)))]
def r_e7_1 : List CO := [
  mV 9 0,
 mV 10 1,
 mV 11 2,
 C 12 fn_f0 [(tm 9), (tm 10), (tm 11)],
 O 13 (.un .not (tm 12))]
def r_e7_2 : List CO := [
  O 6 (.mv (.cst (iv 0))),
 O 7 (.mv (.cst (iv 2)))]
def r_e7_3 : List CO := [
  mV 14 1,
 mV 8 14]
def r_e7_4 : List CO := [
  mV 15 8,
 mV 16 2,
 O 17 (.ge (B .geq ty_int) (tm 15) (tm 16))]
def r_e7_5 : List CO := [
  O 6 (.mv (.cst (iv 0))),
 O 7 (.mv (.cst (iv 11)))]
def r_e7_6 : List CO := [
  mV 18 8,
 O 19 (.rem (B .rem ty_int) (tm 18) (.cst (iv 8))),
 O 20 (.eq (B .eql ty_int) (tm 19) (.cst (iv 0)))]
def r_e7_7 : List CO := [
  mV 21 0,
 mV 22 8,
 O 23 (.quo (B .quo ty_int) (tm 22) (.cst (iv 8))),
 O 24 (.iaS 1 (tm 21) (tm 23)),
 lD 25 24,
 mV 26 8,
 O 27 (.rem (B .rem ty_int) (tm 26) (.cst (iv 8))),
 O 28 (.slow (B .shr ty_uint8) (tm 25) (tm 27)),
 O 29 (.and (B .and ty_uint8) (tm 28) (.cst (.y 1))),
 O 30 (.eq (B .eql ty_uint8) (tm 29) (.cst (.y 0)))]
def r_e7_8 : List CO := [
  mV 31 8,
 mV 6 31,
 O 7 (.mv (.cst (iv 0)))]
def r_e7_9 : List CO := [
  mV 32 8,
 O 33 (.add (B .add ty_int) (tm 32) (.cst (iv 1))),
 mV 8 33]
def r_e7_10 : List CO := [
  mV 34 0,
 mV 35 8,
 O 36 (.quo (B .quo ty_int) (tm 35) (.cst (iv 8))),
 O 37 (.iaS 1 (tm 34) (tm 36)),
 lD 38 37,
 O 39 (.ne (B .neq ty_uint8) (tm 38) (.cst (.y 255)))]
def r_e7_11 : List CO := [
  mV 40 8,
 O 41 (.add (B .add ty_int) (tm 40) (.cst (iv 8))),
 mV 8 41]
noncomputable def b_bits_First : Code := scopeOf (Tryz.prog.funcs[149]?)
noncomputable def cb_bits_First : CC := (.seq (.seq (.reg r_e7_1) (.cond (tm 13) (.seq (.reg r_e7_2) .ret) .skip)) (.seq (.reg r_e7_3) (.seq .skip (.seq (.seq (.reg r_e7_4) (.cond (tm 17) (.seq (.reg r_e7_5) .ret) .skip)) (.seq (.seq (.reg r_e7_6) (.cond (tm 20) (.goto 1) .skip)) (.seq .skip (.seq (.seq (.reg r_e7_7) (.cond (tm 30) (.seq (.reg r_e7_8) .ret) .skip)) (.seq (.reg r_e7_9) (.seq (.goto 0) (.seq .skip (.seq (.seq (.reg r_e7_10) (.cond (tm 39) (.goto 2) .skip)) (.seq (.reg r_e7_11) (.goto 0)))))))))))))
theorem hb_bits_First : comp Tryz.prog b_bits_First = cb_bits_First := by kernel_rfl
noncomputable def cr_bits_First_0 : CC := (.seq .skip (.seq (.seq (.reg r_e7_4) (.cond (tm 17) (.seq (.reg r_e7_5) .ret) .skip)) (.seq (.seq (.reg r_e7_6) (.cond (tm 20) (.goto 1) .skip)) (.seq .skip (.seq (.seq (.reg r_e7_7) (.cond (tm 30) (.seq (.reg r_e7_8) .ret) .skip)) (.seq (.reg r_e7_9) (.seq (.goto 0) (.seq .skip (.seq (.seq (.reg r_e7_10) (.cond (tm 39) (.goto 2) .skip)) (.seq (.reg r_e7_11) (.goto 0)))))))))))
theorem hl_bits_First_0 : findLabel b_bits_First 0 = some (restOf b_bits_First 0) := by kernel_rfl
theorem hc_bits_First_0 : comp Tryz.prog (restOf b_bits_First 0) = cr_bits_First_0 := by kernel_rfl
noncomputable def cr_bits_First_2 : CC := (.seq .skip (.seq (.seq (.reg r_e7_7) (.cond (tm 30) (.seq (.reg r_e7_8) .ret) .skip)) (.seq (.reg r_e7_9) (.seq (.goto 0) (.seq .skip (.seq (.seq (.reg r_e7_10) (.cond (tm 39) (.goto 2) .skip)) (.seq (.reg r_e7_11) (.goto 0))))))))
theorem hl_bits_First_2 : findLabel b_bits_First 2 = some (restOf b_bits_First 2) := by kernel_rfl
theorem hc_bits_First_2 : comp Tryz.prog (restOf b_bits_First 2) = cr_bits_First_2 := by kernel_rfl
noncomputable def cr_bits_First_1 : CC := (.seq .skip (.seq (.seq (.reg r_e7_10) (.cond (tm 39) (.goto 2) .skip)) (.seq (.reg r_e7_11) (.goto 0))))
theorem hl_bits_First_1 : findLabel b_bits_First 1 = some (restOf b_bits_First 1) := by kernel_rfl
theorem hc_bits_First_1 : comp Tryz.prog (restOf b_bits_First 1) = cr_bits_First_1 := by kernel_rfl
def r_a6_0 : List CO := [
  O 3 (.box ty_alloc_bitmap (tm 0)),
 O 6 (.mv (.cst (iv 0)))]
def r_a6_1 : List CO := [
  O 10 (.loadN 2 (tm 3)),
 mV 11 1,
 mV 12 2,
 C 13 fn_a4 [(tm 10), (tm 11), (tm 12)],
 mV 9 13,
 eX 14 0 9,
 eX 15 1 9,
 mV 7 14,
 mV 8 15]
def r_a6_2 : List CO := [
  mV 17 8,
 O 18 (.ne (B .neq ty_api_Errno) (tm 17) (.cst (iv 0))),
 mV 16 18]
def r_a6_3 : List CO := [
  mV 19 8,
 mV 6 19]
def r_a6_4 : List CO := [
  mV 21 7,
 O 22 (.un .not (tm 21)),
 mV 20 22]
def r_a6_5 : List CO := [
  O 6 (.mv (.cst (iv 11)))]
def r_a6_6 : List CO := [
  O 23 (.loadN 2 (tm 3)),
 mV 24 1,
 mV 25 2,
 C 26 fn_a7 [(tm 23), (tm 24), (tm 25), (.cst (.b false))],
 mV 6 26]
def r_c8_0 : List CO := [
  O 4 (.mv (.cst (iv 0)))]
def r_c8_1 : List CO := [
  mV 6 0,
 C 7 fn_d4 [(tm 6)],
 mV 5 7]
def r_c8_2 : List CO := [
  mV 8 5,
 O 9 (.ne (B .neq ty_api_Errno) (tm 8) (.cst (iv 0)))]
def r_c8_3 : List CO := [
  mV 10 5,
 mV 4 10]
def r_c8_4 : List CO := [
  mV 11 1,
 mV 12 0,
 nL 13 12,
 fA 14 0 13,
 lD 15 14,
 nL 16 15,
 fA 17 3 16,
 fA 18 11 17,
 lD 19 18,
 O 20 (.lt (B .lss ty_int) (tm 11) (tm 19)),
 mV 21 20,
 G 22 21 false (.mv (tm 1)),
 G 23 21 false (.mv (tm 0)),
 G 24 21 false (.nil (tm 23)),
 G 25 21 false (.fa 0 (tm 24)),
 G 26 21 false (.load (tm 25)),
 G 27 21 false (.nil (tm 26)),
 G 28 21 false (.fa 3 (tm 27)),
 G 29 21 false (.fa 1 (tm 28)),
 G 30 21 false (.load (tm 29)),
 G 31 21 false (.ge (B .geq ty_int) (tm 22) (tm 30)),
 O 32 (.pick (tm 21) (.cst (.b true)) (tm 31))]
def r_c8_5 : List CO := [
  O 4 (.mv (.cst (iv 2)))]
def r_c8_6 : List CO := [
  mV 33 0,
 mV 34 1,
 C 35 fn_d3 [(tm 33), (tm 34)]]
def r_c8_7 : List CO := [
  mV 36 0,
 nL 37 36,
 fA 38 3 37,
 lD 39 38,
 mV 40 1,
 O 41 (.build [] []),
 .op none none (.mupd (some .i64) (tm 39) (tm 40) (tm 41))]
def r_c8_8 : List CO := [
  O 4 (.mv (.cst (iv 0)))]
def r_f1_0 : List CO := [
  O 4 (.mv (.cst (.b false)))]
def r_f1_1 : List CO := [
  mV 5 0,
 O 6 (.b2s (tm 5)),
 mV 7 1,
 O 8 (.b2s (tm 7)),
 O 9 (.eq (B .eql ty_string) (tm 6) (tm 8)),
 mV 4 9]
def r_c3_0 : List CO := [
  O 1 (.box ty_map_int_suint8 (tm 0)),
 O 2 (.mv (.cst nilf))]
def r_c3_1 : List CO := [
  O 3 (.fn fn_Keys_1 [(tm 1)]),
 mV 2 3]
def r_c6_0 : List CO := [
  O 2 (.mv (.cst nilm))]
def r_c6_1 : List CO := [
  mV 3 0,
 nL 4 3,
 fA 5 2 4,
 lD 6 5,
 mV 2 6]
def r_c7_0 : List CO := [
  O 1 (.box ty_api_Plan (tm 0)),
 O 2 (.mv (.cst (iv 0)))]
def r_c7_1 : List CO := [
  fA 3 11 1,
 lD 4 3,
 mV 2 4]
def r_f8_0 : List CO := [
  O 6 (.mv (.cst nils)),
 O 7 (.mv (.cst (.b false)))]
def r_f8_1 : List CO := [
  mV 8 1,
 O 9 (.lt (B .lss ty_int) (tm 8) (.cst (iv 0))),
 mV 10 9,
 G 11 10 false (.mv (tm 2)),
 G 12 10 false (.lt (B .lss ty_int) (tm 11) (.cst (iv 0))),
 O 13 (.pick (tm 10) (.cst (.b true)) (tm 12)),
 mV 14 13,
 G 15 14 false (.mv (tm 1)),
 G 16 14 false (.mv (tm 0)),
 G 17 14 false (.len false (tm 16)),
 G 18 14 false (.gt (B .gtr ty_int) (tm 15) (tm 17)),
 O 19 (.pick (tm 14) (.cst (.b true)) (tm 18)),
 mV 20 19,
 G 21 20 false (.mv (tm 2)),
 G 22 20 false (.mv (tm 0)),
 G 23 20 false (.len false (tm 22)),
 G 24 20 false (.mv (tm 1)),
 G 25 20 false (.sub (B .sub ty_int) (tm 23) (tm 24)),
 G 26 20 false (.gt (B .gtr ty_int) (tm 21) (tm 25)),
 O 27 (.pick (tm 20) (.cst (.b true)) (tm 26))]
def r_f8_2 : List CO := [
  O 6 (.mv (.cst nils)),
 O 7 (.mv (.cst (.b false)))]
def r_f8_3 : List CO := [
  mV 28 0,
 mV 29 1,
 mV 30 1,
 mV 31 2,
 O 32 (.add (B .add ty_int) (tm 30) (tm 31)),
 O 33 (.sl 1 false (tm 28) (some (tm 29)) (some (tm 32)) none),
 mV 6 33,
 O 7 (.mv (.cst (.b true)))]
def r_a3_0 : List CO := [
  lD 4 1,
 O 5 (.len false (tm 4)),
 O 6 (.sub (B .sub ty_int) (tm 5) (.cst (iv 1))),
 mV 3 6]
def r_a3_1 : List CO := [
  mV 7 3,
 O 8 (.ge (B .geq ty_int) (tm 7) (.cst (iv 0)))]
def r_a3_3 : List CO := [
  mV 11 0,
 mV 12 3,
 lD 13 1,
 mV 14 3,
 O 15 (.iaS 1 (tm 13) (tm 14)),
 lD 16 15,
 .call (some (pth 17)) none (tm 11) [(tm 12), (tm 16)],
 O 18 (.un .not (tm 17))]
def r_a3_2 : List CO := [
  mV 9 3,
 O 10 (.sub (B .sub ty_int) (tm 9) (.cst (iv 1))),
 mV 3 10]
def r_e9_0 : List CO := [
  O 6 (.mv (.cst nils)),
 O 7 (.mv (.cst (iv 0)))]
def r_e9_1 : List CO := [
  mV 9 1,
 O 10 (.lt (B .lss ty_int) (tm 9) (.cst (iv 0))),
 mV 11 10,
 G 12 11 false (.mv (tm 1)),
 G 13 11 false (.quo (B .quo ty_int) (tm 12) (.cst (iv 8))),
 G 14 11 false (.mv (tm 0)),
 G 15 11 false (.len false (tm 14)),
 G 16 11 false (.ge (B .geq ty_int) (tm 13) (tm 15)),
 O 17 (.pick (tm 11) (.cst (.b true)) (tm 16))]
def r_e9_2 : List CO := [
  O 6 (.mv (.cst nils)),
 O 7 (.mv (.cst (iv 2)))]
def r_e9_3 : List CO := [
  mV 18 0,
 C 19 fn_a9 [(tm 18)],
 mV 8 19]
def r_e9_4 : List CO := [
  mV 20 2]
def r_e9_5 : List CO := [
  mV 21 8,
 mV 22 1,
 O 23 (.quo (B .quo ty_int) (tm 22) (.cst (iv 8))),
 O 24 (.iaS 1 (tm 21) (tm 23)),
 lD 25 24,
 mV 26 1,
 O 27 (.rem (B .rem ty_int) (tm 26) (.cst (iv 8))),
 O 28 (.slow (B .shl ty_uint8) (.cst (.y 1)) (tm 27)),
 O 29 (.slow (B .or ty_uint8) (tm 25) (tm 28)),
 O 30 (.iaS 1 (tm 21) (tm 23)),
 .op none none (.store 1 (tm 30) (tm 29))]
def r_e9_6 : List CO := [
  mV 31 8,
 mV 32 1,
 O 33 (.quo (B .quo ty_int) (tm 32) (.cst (iv 8))),
 O 34 (.iaS 1 (tm 31) (tm 33)),
 lD 35 34,
 mV 36 1,
 O 37 (.rem (B .rem ty_int) (tm 36) (.cst (iv 8))),
 O 38 (.slow (B .shl ty_uint8) (.cst (.y 1)) (tm 37)),
 O 39 (.slow (B .andNot ty_uint8) (tm 35) (tm 38)),
 O 40 (.iaS 1 (tm 31) (tm 33)),
 .op none none (.store 1 (tm 40) (tm 39))]
def r_e9_7 : List CO := [
  mV 41 8,
 mV 6 41,
 O 7 (.mv (.cst (iv 0)))]
def r_f0_0 : List CO := [
  O 6 (.mv (.cst (.b false)))]
def r_f0_1 : List CO := [
  mV 7 1,
 O 8 (.ge (B .geq ty_int) (tm 7) (.cst (iv 0))),
 mV 9 8,
 G 10 9 true (.mv (tm 1)),
 G 11 9 true (.mv (tm 2)),
 G 12 9 true (.le (B .leq ty_int) (tm 10) (tm 11)),
 O 13 (.pick (tm 9) (tm 12) (.cst (.b false))),
 mV 14 13,
 G 15 14 true (.mv (tm 2)),
 G 16 14 true (.mv (tm 0)),
 G 17 14 true (.len false (tm 16)),
 G 18 14 true (.mul (B .mul ty_int) (.cst (iv 8)) (tm 17)),
 G 19 14 true (.le (B .leq ty_int) (tm 15) (tm 18)),
 O 20 (.pick (tm 14) (tm 19) (.cst (.b false))),
 mV 6 20]
def r_a4_0 : List CO := [
  O 3 (.box ty_alloc_bitmap (tm 0)),
 O 6 (.mv (.cst (.b false))),
 O 7 (.mv (.cst (iv 0)))]
def r_a4_1 : List CO := [
  mV 11 1,
 fA 12 0 3,
 lD 13 12,
 mV 14 2,
 fA 15 1 3,
 lD 16 15,
 O 17 (.quo (B .quo ty_int) (tm 14) (tm 16)),
 O 18 (.add (B .add ty_int) (tm 13) (tm 17)),
 C 19 fn_c9 [(tm 11), (tm 18)],
 mV 10 19,
 eX 20 0 10,
 eX 21 1 10,
 mV 8 20,
 mV 9 21]
def r_a4_2 : List CO := [
  mV 22 9,
 O 23 (.ne (B .neq ty_api_Errno) (tm 22) (.cst (iv 0)))]
def r_a4_3 : List CO := [
  mV 24 9,
 O 6 (.mv (.cst (.b false))),
 mV 7 24]
def r_a4_4 : List CO := [
  mV 25 8,
 mV 26 2,
 fA 27 1 3,
 lD 28 27,
 O 29 (.rem (B .rem ty_int) (tm 26) (tm 28)),
 C 30 fn_e8 [(tm 25), (tm 29)],
 eX 31 0 30,
 eX 32 1 30,
 mV 6 31,
 mV 7 32]
def k_h8_4 : CC := (.seq (.reg r_h8_2) .ret)
def k_h8_3 : CC := (.cond (tm 19) k_h8_4 .skip)
def k_h8_2 : CC := (.seq (.reg r_h8_1) k_h8_3)
def k_h8_8 : CC := (.seq (.reg r_h8_4) .ret)
def k_h8_7 : CC := (.cond (tm 37) k_h8_8 .skip)
def k_h8_6 : CC := (.seq (.reg r_h8_3) k_h8_7)
def k_h8_16 : CC := (.seq (.reg r_h8_10) .ret)
def k_h8_15 : CC := (.cond (tm 68) k_h8_16 .skip)
def k_h8_14 : CC := (.seq (.reg r_h8_9) k_h8_15)
def k_h8_25 : CC := (.reg r_h8_17)
def k_h8_24 : CC := (.cond (tm 97) k_h8_25 .skip)
def k_h8_23 : CC := (.seq (.reg r_h8_16) k_h8_24)
def k_h8_26 : CC := (.seq (.reg r_h8_18) .ret)
def k_h8_22 : CC := (.seq k_h8_23 k_h8_26)
def k_h8_21 : CC := (.seq (.reg r_h8_15) k_h8_22)
def k_h8_20 : CC := (.seq (.reg r_h8_14) k_h8_21)
def k_h8_19 : CC := (.seq (.reg r_h8_13) k_h8_20)
def k_h8_18 : CC := (.seq (.reg r_h8_12) k_h8_19)
def k_h8_17 : CC := (.seq (.reg r_h8_11) k_h8_18)
def k_h8_13 : CC := (.seq k_h8_14 k_h8_17)
def k_h8_12 : CC := (.seq (.reg r_h8_8) k_h8_13)
def k_h8_11 : CC := (.seq (.reg r_h8_7) k_h8_12)
def k_h8_10 : CC := (.seq (.reg r_h8_6) k_h8_11)
def k_h8_9 : CC := (.seq (.reg r_h8_5) k_h8_10)
def k_h8_5 : CC := (.seq k_h8_6 k_h8_9)
def k_h8_1 : CC := (.seq k_h8_2 k_h8_5)
def c_h8 : CC := (.seq (.reg r_h8_0) k_h8_1)
theorem o_h8 : Kq k_h8_4 (.seq (.reg r_h8_2) .ret) ∧
  Kq k_h8_3 (.cond (tm 19) k_h8_4 .skip) ∧
  Kq k_h8_2 (.seq (.reg r_h8_1) k_h8_3) ∧
  Kq k_h8_8 (.seq (.reg r_h8_4) .ret) ∧
  Kq k_h8_7 (.cond (tm 37) k_h8_8 .skip) ∧
  Kq k_h8_6 (.seq (.reg r_h8_3) k_h8_7) ∧
  Kq k_h8_16 (.seq (.reg r_h8_10) .ret) ∧
  Kq k_h8_15 (.cond (tm 68) k_h8_16 .skip) ∧
  Kq k_h8_14 (.seq (.reg r_h8_9) k_h8_15) ∧
  Kq k_h8_25 (.reg r_h8_17) ∧
  Kq k_h8_24 (.cond (tm 97) k_h8_25 .skip) ∧
  Kq k_h8_23 (.seq (.reg r_h8_16) k_h8_24) ∧
  Kq k_h8_26 (.seq (.reg r_h8_18) .ret) ∧
  Kq k_h8_22 (.seq k_h8_23 k_h8_26) ∧
  Kq k_h8_21 (.seq (.reg r_h8_15) k_h8_22) ∧
  Kq k_h8_20 (.seq (.reg r_h8_14) k_h8_21) ∧
  Kq k_h8_19 (.seq (.reg r_h8_13) k_h8_20) ∧
  Kq k_h8_18 (.seq (.reg r_h8_12) k_h8_19) ∧
  Kq k_h8_17 (.seq (.reg r_h8_11) k_h8_18) ∧
  Kq k_h8_13 (.seq k_h8_14 k_h8_17) ∧
  Kq k_h8_12 (.seq (.reg r_h8_8) k_h8_13) ∧
  Kq k_h8_11 (.seq (.reg r_h8_7) k_h8_12) ∧
  Kq k_h8_10 (.seq (.reg r_h8_6) k_h8_11) ∧
  Kq k_h8_9 (.seq (.reg r_h8_5) k_h8_10) ∧
  Kq k_h8_5 (.seq k_h8_6 k_h8_9) ∧
  Kq k_h8_1 (.seq k_h8_2 k_h8_5) ∧
  Kq c_h8 (.seq (.reg r_h8_0) k_h8_1) := ⟨kr, kr, kr, kr, kr, kr, kr, kr, kr, kr, kr, kr, kr, kr, kr, kr, kr, kr, kr, kr, kr, kr, kr, kr, kr, kr, kr⟩
theorem at_h8 : FnAt Tryz.prog tb fn_h8 c_h8 129 [.tmp 6] := fnAt_of tb_fs Tryz.func7 rfl (by kernel_rfl) (by kernel_rfl) rfl rfl
def k_e1_4 : CC := (.seq (.reg r_e1_2) .ret)
def k_e1_3 : CC := (.cond (tm 16) k_e1_4 .skip)
def k_e1_2 : CC := (.seq (.reg r_e1_1) k_e1_3)
def k_e1_9 : CC := (.seq (.reg r_e1_5) .ret)
def k_e1_8 : CC := (.cond (tm 27) k_e1_9 .skip)
def k_e1_7 : CC := (.seq (.reg r_e1_4) k_e1_8)
def k_e1_17 : CC := (.cond (tm 34) .skip (.exit 0))
def k_e1_28 : CC := (.seq (.reg r_e1_14) .ret)
def k_e1_27 : CC := (.cond (tm 56) k_e1_28 .skip)
def k_e1_26 : CC := (.seq (.reg r_e1_13) k_e1_27)
def k_e1_25 : CC := (.seq (.drawn r_e1_12 [ (2, 0) , (2, 9) , (7, 0) ]) k_e1_26)
def k_e1_24 : CC := (.cond (tm 44) k_e1_25 .skip)
def k_e1_23 : CC := (.seq (.reg r_e1_11) k_e1_24)
def k_e1_33 : CC := (.seq (.reg r_e1_17) .ret)
def k_e1_32 : CC := (.cond (tm 66) k_e1_33 .skip)
def k_e1_31 : CC := (.seq (.reg r_e1_16) k_e1_32)
def k_e1_30 : CC := (.seq (.reg r_e1_15) k_e1_31)
def k_e1_42 : CC := (.seq (.reg r_e1_22) .ret)
def k_e1_41 : CC := (.cond (tm 81) k_e1_42 .skip)
def k_e1_40 : CC := (.seq (.reg r_e1_21) k_e1_41)
def k_e1_39 : CC := (.seq (.reg r_e1_20) k_e1_40)
def k_e1_46 : CC := (.seq (.reg r_e1_25) .ret)
def k_e1_45 : CC := (.cond (tm 89) k_e1_46 .skip)
def k_e1_44 : CC := (.seq (.reg r_e1_24) k_e1_45)
def k_e1_43 : CC := (.seq (.reg r_e1_23) k_e1_44)
def k_e1_38 : CC := (.seq k_e1_39 k_e1_43)
def k_e1_37 : CC := (.cond (tm 70) k_e1_38 .skip)
def k_e1_36 : CC := (.seq (.reg r_e1_19) k_e1_37)
def k_e1_47 : CC := (.reg r_e1_26)
def k_e1_35 : CC := (.seq k_e1_36 k_e1_47)
def k_e1_34 : CC := (.seq (.reg r_e1_18) k_e1_35)
def k_e1_29 : CC := (.seq k_e1_30 k_e1_34)
def k_e1_22 : CC := (.seq k_e1_23 k_e1_29)
def k_e1_21 : CC := (.seq (.reg r_e1_10) k_e1_22)
def k_e1_20 : CC := (.seq (.reg r_e1_9) k_e1_21)
def k_e1_19 : CC := (.block 1 k_e1_20)
def k_e1_48 : CC := (.reg r_e1_27)
def k_e1_18 : CC := (.seq k_e1_19 k_e1_48)
def k_e1_16 : CC := (.seq k_e1_17 k_e1_18)
def k_e1_15 : CC := (.seq (.reg r_e1_8) k_e1_16)
def k_e1_14 : CC := (.loop k_e1_15)
def k_e1_13 : CC := (.block 0 k_e1_14)
def k_e1_12 : CC := (.seq (.reg r_e1_7) k_e1_13)
def k_e1_49 : CC := (.seq (.reg r_e1_28) .ret)
def k_e1_11 : CC := (.seq k_e1_12 k_e1_49)
def k_e1_10 : CC := (.seq (.reg r_e1_6) k_e1_11)
def k_e1_6 : CC := (.seq k_e1_7 k_e1_10)
def k_e1_5 : CC := (.seq (.reg r_e1_3) k_e1_6)
def k_e1_1 : CC := (.seq k_e1_2 k_e1_5)
def c_e1 : CC := (.seq (.reg r_e1_0) k_e1_1)
theorem o_e1 : Kq k_e1_4 (.seq (.reg r_e1_2) .ret) ∧
  Kq k_e1_3 (.cond (tm 16) k_e1_4 .skip) ∧
  Kq k_e1_2 (.seq (.reg r_e1_1) k_e1_3) ∧
  Kq k_e1_9 (.seq (.reg r_e1_5) .ret) ∧
  Kq k_e1_8 (.cond (tm 27) k_e1_9 .skip) ∧
  Kq k_e1_7 (.seq (.reg r_e1_4) k_e1_8) ∧
  Kq k_e1_17 (.cond (tm 34) .skip (.exit 0)) ∧
  Kq k_e1_28 (.seq (.reg r_e1_14) .ret) ∧
  Kq k_e1_27 (.cond (tm 56) k_e1_28 .skip) ∧
  Kq k_e1_26 (.seq (.reg r_e1_13) k_e1_27) ∧
  Kq k_e1_25 (.seq (.drawn r_e1_12 [ (2, 0) , (2, 9) , (7, 0) ]) k_e1_26) ∧
  Kq k_e1_24 (.cond (tm 44) k_e1_25 .skip) ∧
  Kq k_e1_23 (.seq (.reg r_e1_11) k_e1_24) ∧
  Kq k_e1_33 (.seq (.reg r_e1_17) .ret) ∧
  Kq k_e1_32 (.cond (tm 66) k_e1_33 .skip) ∧
  Kq k_e1_31 (.seq (.reg r_e1_16) k_e1_32) ∧
  Kq k_e1_30 (.seq (.reg r_e1_15) k_e1_31) ∧
  Kq k_e1_42 (.seq (.reg r_e1_22) .ret) ∧
  Kq k_e1_41 (.cond (tm 81) k_e1_42 .skip) ∧
  Kq k_e1_40 (.seq (.reg r_e1_21) k_e1_41) ∧
  Kq k_e1_39 (.seq (.reg r_e1_20) k_e1_40) ∧
  Kq k_e1_46 (.seq (.reg r_e1_25) .ret) ∧
  Kq k_e1_45 (.cond (tm 89) k_e1_46 .skip) ∧
  Kq k_e1_44 (.seq (.reg r_e1_24) k_e1_45) ∧
  Kq k_e1_43 (.seq (.reg r_e1_23) k_e1_44) ∧
  Kq k_e1_38 (.seq k_e1_39 k_e1_43) ∧
  Kq k_e1_37 (.cond (tm 70) k_e1_38 .skip) ∧
  Kq k_e1_36 (.seq (.reg r_e1_19) k_e1_37) ∧
  Kq k_e1_47 (.reg r_e1_26) ∧
  Kq k_e1_35 (.seq k_e1_36 k_e1_47) ∧
  Kq k_e1_34 (.seq (.reg r_e1_18) k_e1_35) ∧
  Kq k_e1_22 (.seq k_e1_23 k_e1_29) ∧
  Kq k_e1_21 (.seq (.reg r_e1_10) k_e1_22) ∧
  Kq k_e1_20 (.seq (.reg r_e1_9) k_e1_21) ∧
  Kq k_e1_19 (.block 1 k_e1_20) ∧
  Kq k_e1_48 (.reg r_e1_27) ∧
  Kq k_e1_18 (.seq k_e1_19 k_e1_48) ∧
  Kq k_e1_16 (.seq k_e1_17 k_e1_18) ∧
  Kq k_e1_15 (.seq (.reg r_e1_8) k_e1_16) ∧
  Kq k_e1_14 (.loop k_e1_15) ∧
  Kq k_e1_13 (.block 0 k_e1_14) ∧
  Kq k_e1_12 (.seq (.reg r_e1_7) k_e1_13) ∧
  Kq k_e1_49 (.seq (.reg r_e1_28) .ret) ∧
  Kq k_e1_11 (.seq k_e1_12 k_e1_49) ∧
  Kq k_e1_10 (.seq (.reg r_e1_6) k_e1_11) ∧
  Kq k_e1_6 (.seq k_e1_7 k_e1_10) ∧
  Kq k_e1_5 (.seq (.reg r_e1_3) k_e1_6) ∧
  Kq k_e1_1 (.seq k_e1_2 k_e1_5) ∧
  Kq c_e1 (.seq (.reg r_e1_0) k_e1_1) := ⟨kr, kr, kr, kr, kr, kr, kr, kr, kr, kr, kr, kr, kr, kr, kr, kr, kr, kr, kr, kr, kr, kr, kr, kr, kr, kr, kr, kr, kr, kr, kr, kr, kr, kr, kr, kr, kr, kr, kr, kr, kr, kr, kr, kr, kr, kr, kr, kr, kr⟩
theorem at_e1 : FnAt Tryz.prog tb fn_e1 c_e1 96 [.tmp 8, .tmp 9, .tmp 10] := fnAt_of tb_fs Tryz.func12 rfl (by kernel_rfl) (by kernel_rfl) rfl rfl
theorem o_Ta_Make_29 : ∀ Q fr m, GX Tryz.prog tb k_e1_29 Q fr m = GX Tryz.prog tb (.seq k_e1_30 k_e1_34) Q fr m := kr
def k_d6_4 : CC := (.seq (.reg r_d6_2) .ret)
def k_d6_3 : CC := (.cond (tm 20) k_d6_4 .skip)
def k_d6_2 : CC := (.seq (.reg r_d6_1) k_d6_3)
def k_d6_9 : CC := (.seq (.reg r_d6_5) .ret)
def k_d6_8 : CC := (.cond (tm 29) k_d6_9 .skip)
def k_d6_7 : CC := (.seq (.reg r_d6_4) k_d6_8)
def k_d6_21 : CC := (.cond (tm 34) .skip (.exit 0))
def k_d6_31 : CC := (.reg r_d6_17)
def k_d6_34 : CC := (.reg r_d6_19)
def k_d6_33 : CC := (.cond (tm 40) k_d6_34 .skip)
def k_d6_32 : CC := (.seq (.reg r_d6_18) k_d6_33)
def k_d6_30 : CC := (.cond (tm 38) k_d6_31 k_d6_32)
def k_d6_29 : CC := (.seq (.reg r_d6_16) k_d6_30)
def k_d6_28 : CC := (.block 2 k_d6_29)
def k_d6_27 : CC := (.seq (.reg r_d6_15) k_d6_28)
def k_d6_38 : CC := (.seq (.reg r_d6_22) .ret)
def k_d6_37 : CC := (.cond (tm 56) k_d6_38 .skip)
def k_d6_36 : CC := (.seq (.reg r_d6_21) k_d6_37)
def k_d6_35 : CC := (.seq (.drawn r_d6_20 [ (0, 0) , (0, 3) , (4, 3) ]) k_d6_36)
def k_d6_26 : CC := (.seq k_d6_27 k_d6_35)
def k_d6_25 : CC := (.seq (.reg r_d6_14) k_d6_26)
def k_d6_24 : CC := (.seq (.reg r_d6_13) k_d6_25)
def k_d6_23 : CC := (.block 1 k_d6_24)
def k_d6_39 : CC := (.reg r_d6_23)
def k_d6_22 : CC := (.seq k_d6_23 k_d6_39)
def k_d6_20 : CC := (.seq k_d6_21 k_d6_22)
def k_d6_19 : CC := (.seq (.reg r_d6_12) k_d6_20)
def k_d6_18 : CC := (.loop k_d6_19)
def k_d6_17 : CC := (.block 0 k_d6_18)
def k_d6_16 : CC := (.seq (.reg r_d6_11) k_d6_17)
def k_d6_46 : CC := (.cond (tm 62) .skip (.exit 3))
def k_d6_50 : CC := (.reg r_d6_27)
def k_d6_49 : CC := (.seq (.reg r_d6_26) k_d6_50)
def k_d6_48 : CC := (.block 4 k_d6_49)
def k_d6_51 : CC := (.reg r_d6_28)
def k_d6_47 : CC := (.seq k_d6_48 k_d6_51)
def k_d6_45 : CC := (.seq k_d6_46 k_d6_47)
def k_d6_44 : CC := (.seq (.reg r_d6_25) k_d6_45)
def k_d6_43 : CC := (.loop k_d6_44)
def k_d6_42 : CC := (.block 3 k_d6_43)
def k_d6_41 : CC := (.seq (.reg r_d6_24) k_d6_42)
def k_d6_52 : CC := (.seq (.drawn r_d6_29 [ (1, 0) ]) .ret)
def k_d6_40 : CC := (.seq k_d6_41 k_d6_52)
def k_d6_15 : CC := (.seq k_d6_16 k_d6_40)
def k_d6_14 : CC := (.seq (.reg r_d6_10) k_d6_15)
def k_d6_13 : CC := (.seq (.reg r_d6_9) k_d6_14)
def k_d6_12 : CC := (.seq (.reg r_d6_8) k_d6_13)
def k_d6_11 : CC := (.seq (.reg r_d6_7) k_d6_12)
def k_d6_10 : CC := (.seq (.reg r_d6_6) k_d6_11)
def k_d6_6 : CC := (.seq k_d6_7 k_d6_10)
def k_d6_5 : CC := (.seq (.reg r_d6_3) k_d6_6)
def k_d6_1 : CC := (.seq k_d6_2 k_d6_5)
def c_d6 : CC := (.seq (.reg r_d6_0) k_d6_1)
theorem o_d6 : Kq k_d6_4 (.seq (.reg r_d6_2) .ret) ∧
  Kq k_d6_3 (.cond (tm 20) k_d6_4 .skip) ∧
  Kq k_d6_2 (.seq (.reg r_d6_1) k_d6_3) ∧
  Kq k_d6_9 (.seq (.reg r_d6_5) .ret) ∧
  Kq k_d6_8 (.cond (tm 29) k_d6_9 .skip) ∧
  Kq k_d6_7 (.seq (.reg r_d6_4) k_d6_8) ∧
  Kq k_d6_21 (.cond (tm 34) .skip (.exit 0)) ∧
  Kq k_d6_31 (.reg r_d6_17) ∧
  Kq k_d6_34 (.reg r_d6_19) ∧
  Kq k_d6_33 (.cond (tm 40) k_d6_34 .skip) ∧
  Kq k_d6_32 (.seq (.reg r_d6_18) k_d6_33) ∧
  Kq k_d6_30 (.cond (tm 38) k_d6_31 k_d6_32) ∧
  Kq k_d6_29 (.seq (.reg r_d6_16) k_d6_30) ∧
  Kq k_d6_28 (.block 2 k_d6_29) ∧
  Kq k_d6_27 (.seq (.reg r_d6_15) k_d6_28) ∧
  Kq k_d6_38 (.seq (.reg r_d6_22) .ret) ∧
  Kq k_d6_37 (.cond (tm 56) k_d6_38 .skip) ∧
  Kq k_d6_36 (.seq (.reg r_d6_21) k_d6_37) ∧
  Kq k_d6_35 (.seq (.drawn r_d6_20 [ (0, 0) , (0, 3) , (4, 3) ]) k_d6_36) ∧
  Kq k_d6_26 (.seq k_d6_27 k_d6_35) ∧
  Kq k_d6_25 (.seq (.reg r_d6_14) k_d6_26) ∧
  Kq k_d6_24 (.seq (.reg r_d6_13) k_d6_25) ∧
  Kq k_d6_23 (.block 1 k_d6_24) ∧
  Kq k_d6_39 (.reg r_d6_23) ∧
  Kq k_d6_22 (.seq k_d6_23 k_d6_39) ∧
  Kq k_d6_20 (.seq k_d6_21 k_d6_22) ∧
  Kq k_d6_19 (.seq (.reg r_d6_12) k_d6_20) ∧
  Kq k_d6_18 (.loop k_d6_19) ∧
  Kq k_d6_17 (.block 0 k_d6_18) ∧
  Kq k_d6_16 (.seq (.reg r_d6_11) k_d6_17) ∧
  Kq k_d6_46 (.cond (tm 62) .skip (.exit 3)) ∧
  Kq k_d6_50 (.reg r_d6_27) ∧
  Kq k_d6_49 (.seq (.reg r_d6_26) k_d6_50) ∧
  Kq k_d6_48 (.block 4 k_d6_49) ∧
  Kq k_d6_51 (.reg r_d6_28) ∧
  Kq k_d6_47 (.seq k_d6_48 k_d6_51) ∧
  Kq k_d6_45 (.seq k_d6_46 k_d6_47) ∧
  Kq k_d6_44 (.seq (.reg r_d6_25) k_d6_45) ∧
  Kq k_d6_43 (.loop k_d6_44) ∧
  Kq k_d6_42 (.block 3 k_d6_43) ∧
  Kq k_d6_41 (.seq (.reg r_d6_24) k_d6_42) ∧
  Kq k_d6_52 (.seq (.drawn r_d6_29 [ (1, 0) ]) .ret) ∧
  Kq k_d6_40 (.seq k_d6_41 k_d6_52) ∧
  Kq k_d6_15 (.seq k_d6_16 k_d6_40) ∧
  Kq k_d6_14 (.seq (.reg r_d6_10) k_d6_15) ∧
  Kq k_d6_13 (.seq (.reg r_d6_9) k_d6_14) ∧
  Kq k_d6_12 (.seq (.reg r_d6_8) k_d6_13) ∧
  Kq k_d6_11 (.seq (.reg r_d6_7) k_d6_12) ∧
  Kq k_d6_10 (.seq (.reg r_d6_6) k_d6_11) ∧
  Kq k_d6_6 (.seq k_d6_7 k_d6_10) ∧
  Kq k_d6_5 (.seq (.reg r_d6_3) k_d6_6) ∧
  Kq k_d6_1 (.seq k_d6_2 k_d6_5) ∧
  Kq c_d6 (.seq (.reg r_d6_0) k_d6_1) := ⟨kr, kr, kr, kr, kr, kr, kr, kr, kr, kr, kr, kr, kr, kr, kr, kr, kr, kr, kr, kr, kr, kr, kr, kr, kr, kr, kr, kr, kr, kr, kr, kr, kr, kr, kr, kr, kr, kr, kr, kr, kr, kr, kr, kr, kr, kr, kr, kr, kr, kr, kr, kr, kr⟩
theorem at_d6 : FnAt Tryz.prog tb fn_d6 c_d6 73 [.tmp 6, .tmp 7, .tmp 8] := fnAt_of tb_fs Tryz.func13 rfl (by kernel_rfl) (by kernel_rfl) rfl rfl
def k_d9_4 : CC := (.seq (.reg r_d9_2) .ret)
def k_d9_3 : CC := (.cond (tm 15) k_d9_4 .skip)
def k_d9_2 : CC := (.seq (.reg r_d9_1) k_d9_3)
def k_d9_9 : CC := (.seq (.reg r_d9_5) .ret)
def k_d9_8 : CC := (.cond (tm 26) k_d9_9 .skip)
def k_d9_7 : CC := (.seq (.reg r_d9_4) k_d9_8)
def k_d9_18 : CC := (.cond (tm 33) .skip (.exit 0))
def k_d9_26 : CC := (.seq (.reg r_d9_13) .ret)
def k_d9_25 : CC := (.cond (tm 45) k_d9_26 .skip)
def k_d9_24 : CC := (.seq (.reg r_d9_12) k_d9_25)
def k_d9_23 : CC := (.seq (.reg r_d9_11) k_d9_24)
def k_d9_29 : CC := (.cond (tm 48) (.exit 0) .skip)
def k_d9_28 : CC := (.seq (.reg r_d9_14) k_d9_29)
def k_d9_30 : CC := (.reg r_d9_15)
def k_d9_27 : CC := (.seq k_d9_28 k_d9_30)
def k_d9_22 : CC := (.seq k_d9_23 k_d9_27)
def k_d9_21 : CC := (.seq (.reg r_d9_10) k_d9_22)
def k_d9_20 : CC := (.block 1 k_d9_21)
def k_d9_31 : CC := (.reg r_d9_16)
def k_d9_19 : CC := (.seq k_d9_20 k_d9_31)
def k_d9_17 : CC := (.seq k_d9_18 k_d9_19)
def k_d9_16 : CC := (.seq (.reg r_d9_9) k_d9_17)
def k_d9_15 : CC := (.loop k_d9_16)
def k_d9_14 : CC := (.block 0 k_d9_15)
def k_d9_13 : CC := (.seq (.reg r_d9_8) k_d9_14)
def k_d9_32 : CC := (.seq (.reg r_d9_17) .ret)
def k_d9_12 : CC := (.seq k_d9_13 k_d9_32)
def k_d9_11 : CC := (.seq (.reg r_d9_7) k_d9_12)
def k_d9_10 : CC := (.seq (.reg r_d9_6) k_d9_11)
def k_d9_6 : CC := (.seq k_d9_7 k_d9_10)
def k_d9_5 : CC := (.seq (.reg r_d9_3) k_d9_6)
def k_d9_1 : CC := (.seq k_d9_2 k_d9_5)
def c_d9 : CC := (.seq (.reg r_d9_0) k_d9_1)
theorem o_d9 : Kq k_d9_4 (.seq (.reg r_d9_2) .ret) ∧
  Kq k_d9_3 (.cond (tm 15) k_d9_4 .skip) ∧
  Kq k_d9_2 (.seq (.reg r_d9_1) k_d9_3) ∧
  Kq k_d9_9 (.seq (.reg r_d9_5) .ret) ∧
  Kq k_d9_8 (.cond (tm 26) k_d9_9 .skip) ∧
  Kq k_d9_7 (.seq (.reg r_d9_4) k_d9_8) ∧
  Kq k_d9_18 (.cond (tm 33) .skip (.exit 0)) ∧
  Kq k_d9_26 (.seq (.reg r_d9_13) .ret) ∧
  Kq k_d9_25 (.cond (tm 45) k_d9_26 .skip) ∧
  Kq k_d9_24 (.seq (.reg r_d9_12) k_d9_25) ∧
  Kq k_d9_23 (.seq (.reg r_d9_11) k_d9_24) ∧
  Kq k_d9_29 (.cond (tm 48) (.exit 0) .skip) ∧
  Kq k_d9_28 (.seq (.reg r_d9_14) k_d9_29) ∧
  Kq k_d9_30 (.reg r_d9_15) ∧
  Kq k_d9_27 (.seq k_d9_28 k_d9_30) ∧
  Kq k_d9_22 (.seq k_d9_23 k_d9_27) ∧
  Kq k_d9_21 (.seq (.reg r_d9_10) k_d9_22) ∧
  Kq k_d9_20 (.block 1 k_d9_21) ∧
  Kq k_d9_31 (.reg r_d9_16) ∧
  Kq k_d9_19 (.seq k_d9_20 k_d9_31) ∧
  Kq k_d9_17 (.seq k_d9_18 k_d9_19) ∧
  Kq k_d9_16 (.seq (.reg r_d9_9) k_d9_17) ∧
  Kq k_d9_15 (.loop k_d9_16) ∧
  Kq k_d9_14 (.block 0 k_d9_15) ∧
  Kq k_d9_13 (.seq (.reg r_d9_8) k_d9_14) ∧
  Kq k_d9_32 (.seq (.reg r_d9_17) .ret) ∧
  Kq k_d9_12 (.seq k_d9_13 k_d9_32) ∧
  Kq k_d9_11 (.seq (.reg r_d9_7) k_d9_12) ∧
  Kq k_d9_10 (.seq (.reg r_d9_6) k_d9_11) ∧
  Kq k_d9_6 (.seq k_d9_7 k_d9_10) ∧
  Kq k_d9_5 (.seq (.reg r_d9_3) k_d9_6) ∧
  Kq k_d9_1 (.seq k_d9_2 k_d9_5) ∧
  Kq c_d9 (.seq (.reg r_d9_0) k_d9_1) := ⟨kr, kr, kr, kr, kr, kr, kr, kr, kr, kr, kr, kr, kr, kr, kr, kr, kr, kr, kr, kr, kr, kr, kr, kr, kr, kr, kr, kr, kr, kr, kr, kr, kr⟩
theorem at_d9 : FnAt Tryz.prog tb fn_d9 c_d9 53 [.tmp 8, .tmp 9] := fnAt_of tb_fs Tryz.func16 rfl (by kernel_rfl) (by kernel_rfl) rfl rfl
def k_e2_4 : CC := (.seq (.reg r_e2_2) .ret)
def k_e2_3 : CC := (.cond (tm 18) k_e2_4 .skip)
def k_e2_2 : CC := (.seq (.reg r_e2_1) k_e2_3)
def k_e2_9 : CC := (.seq (.reg r_e2_5) .ret)
def k_e2_8 : CC := (.cond (tm 30) k_e2_9 .skip)
def k_e2_7 : CC := (.seq (.reg r_e2_4) k_e2_8)
def k_e2_6 : CC := (.seq (.reg r_e2_3) k_e2_7)
def k_e2_14 : CC := (.seq (.reg r_e2_8) .ret)
def k_e2_13 : CC := (.cond (tm 38) k_e2_14 .skip)
def k_e2_12 : CC := (.seq (.reg r_e2_7) k_e2_13)
def k_e2_19 : CC := (.seq (.reg r_e2_11) .ret)
def k_e2_18 : CC := (.cond (tm 50) k_e2_19 .skip)
def k_e2_17 : CC := (.seq (.reg r_e2_10) k_e2_18)
def k_e2_21 : CC := (.seq (.reg r_e2_13) .ret)
def k_e2_20 : CC := (.seq (.reg r_e2_12) k_e2_21)
def k_e2_16 : CC := (.seq k_e2_17 k_e2_20)
def k_e2_15 : CC := (.seq (.reg r_e2_9) k_e2_16)
def k_e2_11 : CC := (.seq k_e2_12 k_e2_15)
def k_e2_10 : CC := (.seq (.reg r_e2_6) k_e2_11)
def k_e2_5 : CC := (.seq k_e2_6 k_e2_10)
def k_e2_1 : CC := (.seq k_e2_2 k_e2_5)
def c_e2 : CC := (.seq (.reg r_e2_0) k_e2_1)
theorem o_e2 : Kq k_e2_4 (.seq (.reg r_e2_2) .ret) ∧
  Kq k_e2_3 (.cond (tm 18) k_e2_4 .skip) ∧
  Kq k_e2_2 (.seq (.reg r_e2_1) k_e2_3) ∧
  Kq k_e2_9 (.seq (.reg r_e2_5) .ret) ∧
  Kq k_e2_8 (.cond (tm 30) k_e2_9 .skip) ∧
  Kq k_e2_7 (.seq (.reg r_e2_4) k_e2_8) ∧
  Kq k_e2_6 (.seq (.reg r_e2_3) k_e2_7) ∧
  Kq k_e2_14 (.seq (.reg r_e2_8) .ret) ∧
  Kq k_e2_13 (.cond (tm 38) k_e2_14 .skip) ∧
  Kq k_e2_12 (.seq (.reg r_e2_7) k_e2_13) ∧
  Kq k_e2_19 (.seq (.reg r_e2_11) .ret) ∧
  Kq k_e2_18 (.cond (tm 50) k_e2_19 .skip) ∧
  Kq k_e2_17 (.seq (.reg r_e2_10) k_e2_18) ∧
  Kq k_e2_21 (.seq (.reg r_e2_13) .ret) ∧
  Kq k_e2_20 (.seq (.reg r_e2_12) k_e2_21) ∧
  Kq k_e2_16 (.seq k_e2_17 k_e2_20) ∧
  Kq k_e2_15 (.seq (.reg r_e2_9) k_e2_16) ∧
  Kq k_e2_11 (.seq k_e2_12 k_e2_15) ∧
  Kq k_e2_10 (.seq (.reg r_e2_6) k_e2_11) ∧
  Kq k_e2_5 (.seq k_e2_6 k_e2_10) ∧
  Kq k_e2_1 (.seq k_e2_2 k_e2_5) ∧
  Kq c_e2 (.seq (.reg r_e2_0) k_e2_1) := ⟨kr, kr, kr, kr, kr, kr, kr, kr, kr, kr, kr, kr, kr, kr, kr, kr, kr, kr, kr, kr, kr, kr⟩
theorem at_e2 : FnAt Tryz.prog tb fn_e2 c_e2 61 [.tmp 8] := fnAt_of tb_fs Tryz.func18 rfl (by kernel_rfl) (by kernel_rfl) rfl rfl
def k_d8_4 : CC := (.seq (.reg r_d8_2) .ret)
def k_d8_3 : CC := (.cond (tm 21) k_d8_4 .skip)
def k_d8_2 : CC := (.seq (.reg r_d8_1) k_d8_3)
def k_d8_10 : CC := (.seq (.reg r_d8_6) .ret)
def k_d8_9 : CC := (.cond (tm 54) k_d8_10 .skip)
def k_d8_8 : CC := (.seq (.reg r_d8_5) k_d8_9)
def k_d8_7 : CC := (.seq (.reg r_d8_4) k_d8_8)
def k_d8_18 : CC := (.cond (tm 70) .skip (.exit 0))
def k_d8_25 : CC := (.seq (.reg r_d8_13) .ret)
def k_d8_24 : CC := (.cond (tm 81) k_d8_25 .skip)
def k_d8_23 : CC := (.seq (.reg r_d8_12) k_d8_24)
def k_d8_22 : CC := (.seq (.reg r_d8_11) k_d8_23)
def k_d8_21 : CC := (.seq (.reg r_d8_10) k_d8_22)
def k_d8_20 : CC := (.block 1 k_d8_21)
def k_d8_26 : CC := (.reg r_d8_14)
def k_d8_19 : CC := (.seq k_d8_20 k_d8_26)
def k_d8_17 : CC := (.seq k_d8_18 k_d8_19)
def k_d8_16 : CC := (.seq (.reg r_d8_9) k_d8_17)
def k_d8_15 : CC := (.loop k_d8_16)
def k_d8_14 : CC := (.block 0 k_d8_15)
def k_d8_13 : CC := (.seq (.reg r_d8_8) k_d8_14)
def k_d8_31 : CC := (.seq (.reg r_d8_17) .ret)
def k_d8_30 : CC := (.cond (tm 91) k_d8_31 .skip)
def k_d8_29 : CC := (.seq (.reg r_d8_16) k_d8_30)
def k_d8_28 : CC := (.seq (.reg r_d8_15) k_d8_29)
def k_d8_36 : CC := (.seq (.reg r_d8_20) .ret)
def k_d8_35 : CC := (.cond (tm 105) k_d8_36 .skip)
def k_d8_34 : CC := (.seq (.reg r_d8_19) k_d8_35)
def k_d8_33 : CC := (.seq (.reg r_d8_18) k_d8_34)
def k_d8_41 : CC := (.seq (.reg r_d8_23) .ret)
def k_d8_40 : CC := (.cond (tm 115) k_d8_41 .skip)
def k_d8_39 : CC := (.seq (.reg r_d8_22) k_d8_40)
def k_d8_43 : CC := (.seq (.reg r_d8_25) .ret)
def k_d8_42 : CC := (.seq (.reg r_d8_24) k_d8_43)
def k_d8_38 : CC := (.seq k_d8_39 k_d8_42)
def k_d8_37 : CC := (.seq (.reg r_d8_21) k_d8_38)
def k_d8_32 : CC := (.seq k_d8_33 k_d8_37)
def k_d8_27 : CC := (.seq k_d8_28 k_d8_32)
def k_d8_12 : CC := (.seq k_d8_13 k_d8_27)
def k_d8_11 : CC := (.seq (.drawn r_d8_7 [ (5, 0) , (12, 0) ]) k_d8_12)
def k_d8_6 : CC := (.seq k_d8_7 k_d8_11)
def k_d8_5 : CC := (.seq (.reg r_d8_3) k_d8_6)
def k_d8_1 : CC := (.seq k_d8_2 k_d8_5)
def c_d8 : CC := (.seq (.reg r_d8_0) k_d8_1)
theorem o_d8 : Kq k_d8_4 (.seq (.reg r_d8_2) .ret) ∧
  Kq k_d8_3 (.cond (tm 21) k_d8_4 .skip) ∧
  Kq k_d8_2 (.seq (.reg r_d8_1) k_d8_3) ∧
  Kq k_d8_10 (.seq (.reg r_d8_6) .ret) ∧
  Kq k_d8_9 (.cond (tm 54) k_d8_10 .skip) ∧
  Kq k_d8_8 (.seq (.reg r_d8_5) k_d8_9) ∧
  Kq k_d8_7 (.seq (.reg r_d8_4) k_d8_8) ∧
  Kq k_d8_18 (.cond (tm 70) .skip (.exit 0)) ∧
  Kq k_d8_25 (.seq (.reg r_d8_13) .ret) ∧
  Kq k_d8_24 (.cond (tm 81) k_d8_25 .skip) ∧
  Kq k_d8_23 (.seq (.reg r_d8_12) k_d8_24) ∧
  Kq k_d8_22 (.seq (.reg r_d8_11) k_d8_23) ∧
  Kq k_d8_21 (.seq (.reg r_d8_10) k_d8_22) ∧
  Kq k_d8_20 (.block 1 k_d8_21) ∧
  Kq k_d8_26 (.reg r_d8_14) ∧
  Kq k_d8_19 (.seq k_d8_20 k_d8_26) ∧
  Kq k_d8_17 (.seq k_d8_18 k_d8_19) ∧
  Kq k_d8_16 (.seq (.reg r_d8_9) k_d8_17) ∧
  Kq k_d8_15 (.loop k_d8_16) ∧
  Kq k_d8_14 (.block 0 k_d8_15) ∧
  Kq k_d8_13 (.seq (.reg r_d8_8) k_d8_14) ∧
  Kq k_d8_31 (.seq (.reg r_d8_17) .ret) ∧
  Kq k_d8_30 (.cond (tm 91) k_d8_31 .skip) ∧
  Kq k_d8_29 (.seq (.reg r_d8_16) k_d8_30) ∧
  Kq k_d8_28 (.seq (.reg r_d8_15) k_d8_29) ∧
  Kq k_d8_36 (.seq (.reg r_d8_20) .ret) ∧
  Kq k_d8_35 (.cond (tm 105) k_d8_36 .skip) ∧
  Kq k_d8_34 (.seq (.reg r_d8_19) k_d8_35) ∧
  Kq k_d8_33 (.seq (.reg r_d8_18) k_d8_34) ∧
  Kq k_d8_41 (.seq (.reg r_d8_23) .ret) ∧
  Kq k_d8_40 (.cond (tm 115) k_d8_41 .skip) ∧
  Kq k_d8_39 (.seq (.reg r_d8_22) k_d8_40) ∧
  Kq k_d8_43 (.seq (.reg r_d8_25) .ret) ∧
  Kq k_d8_42 (.seq (.reg r_d8_24) k_d8_43) ∧
  Kq k_d8_38 (.seq k_d8_39 k_d8_42) ∧
  Kq k_d8_37 (.seq (.reg r_d8_21) k_d8_38) ∧
  Kq k_d8_32 (.seq k_d8_33 k_d8_37) ∧
  Kq k_d8_27 (.seq k_d8_28 k_d8_32) ∧
  Kq k_d8_12 (.seq k_d8_13 k_d8_27) ∧
  Kq k_d8_11 (.seq (.drawn r_d8_7 [ (5, 0) , (12, 0) ]) k_d8_12) ∧
  Kq k_d8_6 (.seq k_d8_7 k_d8_11) ∧
  Kq k_d8_5 (.seq (.reg r_d8_3) k_d8_6) ∧
  Kq k_d8_1 (.seq k_d8_2 k_d8_5) ∧
  Kq c_d8 (.seq (.reg r_d8_0) k_d8_1) := ⟨kr, kr, kr, kr, kr, kr, kr, kr, kr, kr, kr, kr, kr, kr, kr, kr, kr, kr, kr, kr, kr, kr, kr, kr, kr, kr, kr, kr, kr, kr, kr, kr, kr, kr, kr, kr, kr, kr, kr, kr, kr, kr, kr, kr⟩
theorem at_d8 : FnAt Tryz.prog tb fn_d8 c_d8 124 [.tmp 8] := fnAt_of tb_fs Tryz.func19 rfl (by kernel_rfl) (by kernel_rfl) rfl rfl
def k_e0_4 : CC := (.seq (.reg r_e0_2) .ret)
def k_e0_3 : CC := (.cond (tm 14) k_e0_4 .skip)
def k_e0_2 : CC := (.seq (.reg r_e0_1) k_e0_3)
def k_e0_9 : CC := (.seq (.reg r_e0_5) .ret)
def k_e0_8 : CC := (.cond (tm 26) k_e0_9 .skip)
def k_e0_7 : CC := (.seq (.reg r_e0_4) k_e0_8)
def k_e0_14 : CC := (.seq (.reg r_e0_8) .ret)
def k_e0_13 : CC := (.cond (tm 39) k_e0_14 .skip)
def k_e0_12 : CC := (.seq (.reg r_e0_7) k_e0_13)
def k_e0_15 : CC := (.seq (.reg r_e0_9) .ret)
def k_e0_11 : CC := (.seq k_e0_12 k_e0_15)
def k_e0_10 : CC := (.seq (.reg r_e0_6) k_e0_11)
def k_e0_6 : CC := (.seq k_e0_7 k_e0_10)
def k_e0_5 : CC := (.seq (.reg r_e0_3) k_e0_6)
def k_e0_1 : CC := (.seq k_e0_2 k_e0_5)
def c_e0 : CC := (.seq (.reg r_e0_0) k_e0_1)
theorem o_e0 : Kq k_e0_4 (.seq (.reg r_e0_2) .ret) ∧
  Kq k_e0_3 (.cond (tm 14) k_e0_4 .skip) ∧
  Kq k_e0_2 (.seq (.reg r_e0_1) k_e0_3) ∧
  Kq k_e0_9 (.seq (.reg r_e0_5) .ret) ∧
  Kq k_e0_8 (.cond (tm 26) k_e0_9 .skip) ∧
  Kq k_e0_7 (.seq (.reg r_e0_4) k_e0_8) ∧
  Kq k_e0_14 (.seq (.reg r_e0_8) .ret) ∧
  Kq k_e0_13 (.cond (tm 39) k_e0_14 .skip) ∧
  Kq k_e0_12 (.seq (.reg r_e0_7) k_e0_13) ∧
  Kq k_e0_15 (.seq (.reg r_e0_9) .ret) ∧
  Kq k_e0_11 (.seq k_e0_12 k_e0_15) ∧
  Kq k_e0_10 (.seq (.reg r_e0_6) k_e0_11) ∧
  Kq k_e0_6 (.seq k_e0_7 k_e0_10) ∧
  Kq k_e0_5 (.seq (.reg r_e0_3) k_e0_6) ∧
  Kq k_e0_1 (.seq k_e0_2 k_e0_5) ∧
  Kq c_e0 (.seq (.reg r_e0_0) k_e0_1) := ⟨kr, kr, kr, kr, kr, kr, kr, kr, kr, kr, kr, kr, kr, kr, kr, kr⟩
theorem at_e0 : FnAt Tryz.prog tb fn_e0 c_e0 42 [.cell 6 ty_api_Inode, .tmp 7] := fnAt_of tb_fs Tryz.func20 rfl (by kernel_rfl) (by kernel_rfl) rfl rfl
def k_f9_5 : CC := (.seq (.reg r_f9_3) .ret)
def k_f9_4 : CC := (.cond (tm 22) k_f9_5 .skip)
def k_f9_3 : CC := (.seq (.reg r_f9_2) k_f9_4)
def k_f9_2 : CC := (.seq (.reg r_f9_1) k_f9_3)
def k_f9_9 : CC := (.seq (.reg r_f9_7) .ret)
def k_f9_8 : CC := (.seq (.reg r_f9_6) k_f9_9)
def k_f9_7 : CC := (.seq (.reg r_f9_5) k_f9_8)
def k_f9_6 : CC := (.seq (.reg r_f9_4) k_f9_7)
def k_f9_1 : CC := (.seq k_f9_2 k_f9_6)
def c_f9 : CC := (.seq (.reg r_f9_0) k_f9_1)
theorem o_f9 : Kq k_f9_5 (.seq (.reg r_f9_3) .ret) ∧
  Kq k_f9_4 (.cond (tm 22) k_f9_5 .skip) ∧
  Kq k_f9_3 (.seq (.reg r_f9_2) k_f9_4) ∧
  Kq k_f9_2 (.seq (.reg r_f9_1) k_f9_3) ∧
  Kq k_f9_9 (.seq (.reg r_f9_7) .ret) ∧
  Kq k_f9_8 (.seq (.reg r_f9_6) k_f9_9) ∧
  Kq k_f9_7 (.seq (.reg r_f9_5) k_f9_8) ∧
  Kq k_f9_6 (.seq (.reg r_f9_4) k_f9_7) ∧
  Kq k_f9_1 (.seq k_f9_2 k_f9_6) ∧
  Kq c_f9 (.seq (.reg r_f9_0) k_f9_1) := ⟨kr, kr, kr, kr, kr, kr, kr, kr, kr, kr⟩
theorem at_f9 : FnAt Tryz.prog tb fn_f9 c_f9 38 [.tmp 6, .tmp 7] := fnAt_of tb_fs Tryz.func30 rfl (by kernel_rfl) (by kernel_rfl) rfl rfl
def k_g3_4 : CC := (.seq (.reg r_g3_2) .ret)
def k_g3_3 : CC := (.cond (tm 17) k_g3_4 .skip)
def k_g3_2 : CC := (.seq (.reg r_g3_1) k_g3_3)
def k_g3_9 : CC := (.seq (.reg r_g3_5) .ret)
def k_g3_8 : CC := (.cond (tm 29) k_g3_9 .skip)
def k_g3_7 : CC := (.seq (.reg r_g3_4) k_g3_8)
def k_g3_6 : CC := (.seq (.reg r_g3_3) k_g3_7)
def k_g3_14 : CC := (.seq (.reg r_g3_8) .ret)
def k_g3_13 : CC := (.cond (tm 39) k_g3_14 .skip)
def k_g3_12 : CC := (.seq (.reg r_g3_7) k_g3_13)
def k_g3_19 : CC := (.seq (.reg r_g3_11) .ret)
def k_g3_18 : CC := (.cond (tm 47) k_g3_19 .skip)
def k_g3_17 : CC := (.seq (.reg r_g3_10) k_g3_18)
def k_g3_16 : CC := (.seq (.reg r_g3_9) k_g3_17)
def k_g3_20 : CC := (.seq (.reg r_g3_12) .ret)
def k_g3_15 : CC := (.seq k_g3_16 k_g3_20)
def k_g3_11 : CC := (.seq k_g3_12 k_g3_15)
def k_g3_10 : CC := (.seq (.reg r_g3_6) k_g3_11)
def k_g3_5 : CC := (.seq k_g3_6 k_g3_10)
def k_g3_1 : CC := (.seq k_g3_2 k_g3_5)
def c_g3 : CC := (.seq (.reg r_g3_0) k_g3_1)
theorem o_g3 : Kq k_g3_4 (.seq (.reg r_g3_2) .ret) ∧
  Kq k_g3_3 (.cond (tm 17) k_g3_4 .skip) ∧
  Kq k_g3_2 (.seq (.reg r_g3_1) k_g3_3) ∧
  Kq k_g3_9 (.seq (.reg r_g3_5) .ret) ∧
  Kq k_g3_8 (.cond (tm 29) k_g3_9 .skip) ∧
  Kq k_g3_7 (.seq (.reg r_g3_4) k_g3_8) ∧
  Kq k_g3_6 (.seq (.reg r_g3_3) k_g3_7) ∧
  Kq k_g3_14 (.seq (.reg r_g3_8) .ret) ∧
  Kq k_g3_13 (.cond (tm 39) k_g3_14 .skip) ∧
  Kq k_g3_12 (.seq (.reg r_g3_7) k_g3_13) ∧
  Kq k_g3_19 (.seq (.reg r_g3_11) .ret) ∧
  Kq k_g3_18 (.cond (tm 47) k_g3_19 .skip) ∧
  Kq k_g3_17 (.seq (.reg r_g3_10) k_g3_18) ∧
  Kq k_g3_16 (.seq (.reg r_g3_9) k_g3_17) ∧
  Kq k_g3_20 (.seq (.reg r_g3_12) .ret) ∧
  Kq k_g3_15 (.seq k_g3_16 k_g3_20) ∧
  Kq k_g3_11 (.seq k_g3_12 k_g3_15) ∧
  Kq k_g3_10 (.seq (.reg r_g3_6) k_g3_11) ∧
  Kq k_g3_5 (.seq k_g3_6 k_g3_10) ∧
  Kq k_g3_1 (.seq k_g3_2 k_g3_5) ∧
  Kq c_g3 (.seq (.reg r_g3_0) k_g3_1) := ⟨kr, kr, kr, kr, kr, kr, kr, kr, kr, kr, kr, kr, kr, kr, kr, kr, kr, kr, kr, kr, kr⟩
theorem at_g3 : FnAt Tryz.prog tb fn_g3 c_g3 58 [.tmp 10] := fnAt_of tb_fs Tryz.func33 rfl (by kernel_rfl) (by kernel_rfl) rfl rfl
def k_j0_5 : CC := (.seq (.reg r_j0_3) .ret)
def k_j0_4 : CC := (.cond (tm 16) k_j0_5 .skip)
def k_j0_3 : CC := (.seq (.reg r_j0_2) k_j0_4)
def k_j0_9 : CC := (.seq (.reg r_j0_5) .ret)
def k_j0_8 : CC := (.cond (tm 25) k_j0_9 .skip)
def k_j0_7 : CC := (.seq (.reg r_j0_4) k_j0_8)
def k_j0_15 : CC := (.seq (.reg r_j0_11) .ret)
def k_j0_18 : CC := (.seq (.reg r_j0_13) .ret)
def k_j0_20 : CC := (.seq (.drawn r_j0_9 []) .ret)
def k_j0_19 : CC := (.seq (.reg r_j0_8) k_j0_20)
def k_j0_17 : CC := (.cond (tm 46) k_j0_18 k_j0_19)
def k_j0_16 : CC := (.seq (.reg r_j0_12) k_j0_17)
def k_j0_14 : CC := (.cond (tm 41) k_j0_15 k_j0_16)
def k_j0_13 : CC := (.seq (.reg r_j0_10) k_j0_14)
def k_j0_12 : CC := (.block 0 k_j0_13)
def k_j0_11 : CC := (.seq (.reg r_j0_7) k_j0_12)
def k_j0_10 : CC := (.seq (.reg r_j0_6) k_j0_11)
def k_j0_6 : CC := (.seq k_j0_7 k_j0_10)
def k_j0_2 : CC := (.seq k_j0_3 k_j0_6)
def k_j0_1 : CC := (.seq (.reg r_j0_1) k_j0_2)
def c_j0 : CC := (.seq (.reg r_j0_0) k_j0_1)
theorem o_j0 : Kq k_j0_5 (.seq (.reg r_j0_3) .ret) ∧
  Kq k_j0_4 (.cond (tm 16) k_j0_5 .skip) ∧
  Kq k_j0_3 (.seq (.reg r_j0_2) k_j0_4) ∧
  Kq k_j0_9 (.seq (.reg r_j0_5) .ret) ∧
  Kq k_j0_8 (.cond (tm 25) k_j0_9 .skip) ∧
  Kq k_j0_7 (.seq (.reg r_j0_4) k_j0_8) ∧
  Kq k_j0_15 (.seq (.reg r_j0_11) .ret) ∧
  Kq k_j0_18 (.seq (.reg r_j0_13) .ret) ∧
  Kq k_j0_20 (.seq (.drawn r_j0_9 []) .ret) ∧
  Kq k_j0_19 (.seq (.reg r_j0_8) k_j0_20) ∧
  Kq k_j0_17 (.cond (tm 46) k_j0_18 k_j0_19) ∧
  Kq k_j0_16 (.seq (.reg r_j0_12) k_j0_17) ∧
  Kq k_j0_14 (.cond (tm 41) k_j0_15 k_j0_16) ∧
  Kq k_j0_13 (.seq (.reg r_j0_10) k_j0_14) ∧
  Kq k_j0_12 (.block 0 k_j0_13) ∧
  Kq k_j0_11 (.seq (.reg r_j0_7) k_j0_12) ∧
  Kq k_j0_10 (.seq (.reg r_j0_6) k_j0_11) ∧
  Kq k_j0_6 (.seq k_j0_7 k_j0_10) ∧
  Kq k_j0_2 (.seq k_j0_3 k_j0_6) ∧
  Kq k_j0_1 (.seq (.reg r_j0_1) k_j0_2) ∧
  Kq c_j0 (.seq (.reg r_j0_0) k_j0_1) := ⟨kr, kr, kr, kr, kr, kr, kr, kr, kr, kr, kr, kr, kr, kr, kr, kr, kr, kr, kr, kr, kr⟩
theorem at_j0 : FnAt Tryz.prog tb fn_j0 c_j0 52 [.tmp 4, .tmp 5] := fnAt_of tb_fs Tryz.func43 rfl (by kernel_rfl) (by kernel_rfl) rfl rfl
def k_d0_1 : CC := (.seq (.reg r_d0_1) .ret)
def c_d0 : CC := (.seq (.reg r_d0_0) k_d0_1)
theorem o_d0 : Kq k_d0_1 (.seq (.reg r_d0_1) .ret) ∧
  Kq c_d0 (.seq (.reg r_d0_0) k_d0_1) := ⟨kr, kr⟩
theorem at_d0 : FnAt Tryz.prog tb fn_d0 c_d0 11 [.tmp 6] := fnAt_of tb_fs Tryz.func44 rfl (by kernel_rfl) (by kernel_rfl) rfl rfl
def k_e3_5 : CC := (.seq (.reg r_e3_3) .ret)
def k_e3_4 : CC := (.seq (.reg r_e3_2) k_e3_5)
def k_e3_3 : CC := (.cond (tm 14) k_e3_4 .skip)
def k_e3_2 : CC := (.seq (.reg r_e3_1) k_e3_3)
def k_e3_10 : CC := (.seq (.reg r_e3_6) .ret)
def k_e3_9 : CC := (.cond (tm 37) k_e3_10 .skip)
def k_e3_8 : CC := (.seq (.reg r_e3_5) k_e3_9)
def k_e3_11 : CC := (.seq (.reg r_e3_7) .ret)
def k_e3_7 : CC := (.seq k_e3_8 k_e3_11)
def k_e3_6 : CC := (.seq (.reg r_e3_4) k_e3_7)
def k_e3_1 : CC := (.seq k_e3_2 k_e3_6)
def c_e3 : CC := (.seq (.reg r_e3_0) k_e3_1)
theorem o_e3 : Kq k_e3_5 (.seq (.reg r_e3_3) .ret) ∧
  Kq k_e3_4 (.seq (.reg r_e3_2) k_e3_5) ∧
  Kq k_e3_3 (.cond (tm 14) k_e3_4 .skip) ∧
  Kq k_e3_2 (.seq (.reg r_e3_1) k_e3_3) ∧
  Kq k_e3_10 (.seq (.reg r_e3_6) .ret) ∧
  Kq k_e3_9 (.cond (tm 37) k_e3_10 .skip) ∧
  Kq k_e3_8 (.seq (.reg r_e3_5) k_e3_9) ∧
  Kq k_e3_11 (.seq (.reg r_e3_7) .ret) ∧
  Kq k_e3_7 (.seq k_e3_8 k_e3_11) ∧
  Kq k_e3_6 (.seq (.reg r_e3_4) k_e3_7) ∧
  Kq k_e3_1 (.seq k_e3_2 k_e3_6) ∧
  Kq c_e3 (.seq (.reg r_e3_0) k_e3_1) := ⟨kr, kr, kr, kr, kr, kr, kr, kr, kr, kr, kr, kr⟩
theorem at_e3 : FnAt Tryz.prog tb fn_e3 c_e3 46 [.tmp 6, .tmp 7] := fnAt_of tb_fs Tryz.func45 rfl (by kernel_rfl) (by kernel_rfl) rfl rfl
def k_a0_4 : CC := (.seq (.reg r_a0_2) .ret)
def k_a0_3 : CC := (.cond (tm 7) k_a0_4 .skip)
def k_a0_2 : CC := (.seq (.reg r_a0_1) k_a0_3)
def k_a0_5 : CC := (.seq (.drawn r_a0_3 [ (3, 0) , (9, 0) , (14, 0) , (18, 0) ]) .ret)
def k_a0_1 : CC := (.seq k_a0_2 k_a0_5)
def c_a0 : CC := (.seq (.reg r_a0_0) k_a0_1)
theorem o_a0 : Kq k_a0_4 (.seq (.reg r_a0_2) .ret) ∧
  Kq k_a0_3 (.cond (tm 7) k_a0_4 .skip) ∧
  Kq k_a0_2 (.seq (.reg r_a0_1) k_a0_3) ∧
  Kq k_a0_5 (.seq (.drawn r_a0_3 [ (3, 0) , (9, 0) , (14, 0) , (18, 0) ]) .ret) ∧
  Kq k_a0_1 (.seq k_a0_2 k_a0_5) ∧
  Kq c_a0 (.seq (.reg r_a0_0) k_a0_1) := ⟨kr, kr, kr, kr, kr, kr⟩
theorem at_a0 : FnAt Tryz.prog tb fn_a0 c_a0 31 [.tmp 4, .tmp 5] := fnAt_of tb_fs Tryz.func46 rfl (by kernel_rfl) (by kernel_rfl) rfl rfl
def k_e6_8 : CC := (.seq (.reg r_e6_4) .ret)
def k_e6_7 : CC := (.cond (tm 25) k_e6_8 .skip)
def k_e6_6 : CC := (.seq (.reg r_e6_3) k_e6_7)
def k_e6_10 : CC := (.seq (.reg r_e6_6) .ret)
def k_e6_9 : CC := (.seq (.reg r_e6_5) k_e6_10)
def k_e6_5 : CC := (.seq k_e6_6 k_e6_9)
def k_e6_4 : CC := (.seq (.reg r_e6_2) k_e6_5)
def k_e6_3 : CC := (.cond (tm 15) k_e6_4 .skip)
def k_e6_2 : CC := (.seq (.reg r_e6_1) k_e6_3)
def k_e6_15 : CC := (.seq (.reg r_e6_9) .ret)
def k_e6_14 : CC := (.cond (tm 46) k_e6_15 .skip)
def k_e6_13 : CC := (.seq (.reg r_e6_8) k_e6_14)
def k_e6_20 : CC := (.seq (.reg r_e6_12) .ret)
def k_e6_19 : CC := (.cond (tm 58) k_e6_20 .skip)
def k_e6_18 : CC := (.seq (.reg r_e6_11) k_e6_19)
def k_e6_21 : CC := (.seq (.reg r_e6_13) .ret)
def k_e6_17 : CC := (.seq k_e6_18 k_e6_21)
def k_e6_16 : CC := (.seq (.reg r_e6_10) k_e6_17)
def k_e6_12 : CC := (.seq k_e6_13 k_e6_16)
def k_e6_11 : CC := (.seq (.reg r_e6_7) k_e6_12)
def k_e6_1 : CC := (.seq k_e6_2 k_e6_11)
def c_e6 : CC := (.seq (.reg r_e6_0) k_e6_1)
theorem o_e6 : Kq k_e6_8 (.seq (.reg r_e6_4) .ret) ∧
  Kq k_e6_7 (.cond (tm 25) k_e6_8 .skip) ∧
  Kq k_e6_6 (.seq (.reg r_e6_3) k_e6_7) ∧
  Kq k_e6_10 (.seq (.reg r_e6_6) .ret) ∧
  Kq k_e6_9 (.seq (.reg r_e6_5) k_e6_10) ∧
  Kq k_e6_5 (.seq k_e6_6 k_e6_9) ∧
  Kq k_e6_4 (.seq (.reg r_e6_2) k_e6_5) ∧
  Kq k_e6_3 (.cond (tm 15) k_e6_4 .skip) ∧
  Kq k_e6_2 (.seq (.reg r_e6_1) k_e6_3) ∧
  Kq k_e6_15 (.seq (.reg r_e6_9) .ret) ∧
  Kq k_e6_14 (.cond (tm 46) k_e6_15 .skip) ∧
  Kq k_e6_13 (.seq (.reg r_e6_8) k_e6_14) ∧
  Kq k_e6_20 (.seq (.reg r_e6_12) .ret) ∧
  Kq k_e6_19 (.cond (tm 58) k_e6_20 .skip) ∧
  Kq k_e6_18 (.seq (.reg r_e6_11) k_e6_19) ∧
  Kq k_e6_21 (.seq (.reg r_e6_13) .ret) ∧
  Kq k_e6_17 (.seq k_e6_18 k_e6_21) ∧
  Kq k_e6_16 (.seq (.reg r_e6_10) k_e6_17) ∧
  Kq k_e6_12 (.seq k_e6_13 k_e6_16) ∧
  Kq k_e6_11 (.seq (.reg r_e6_7) k_e6_12) ∧
  Kq k_e6_1 (.seq k_e6_2 k_e6_11) ∧
  Kq c_e6 (.seq (.reg r_e6_0) k_e6_1) := ⟨kr, kr, kr, kr, kr, kr, kr, kr, kr, kr, kr, kr, kr, kr, kr, kr, kr, kr, kr, kr, kr, kr⟩
theorem at_e6 : FnAt Tryz.prog tb fn_e6 c_e6 65 [.tmp 8] := fnAt_of tb_fs Tryz.func47 rfl (by kernel_rfl) (by kernel_rfl) rfl rfl
def k_d7_4 : CC := (.seq (.reg r_d7_2) .ret)
def k_d7_3 : CC := (.cond (tm 20) k_d7_4 .skip)
def k_d7_2 : CC := (.seq (.reg r_d7_1) k_d7_3)
def k_d7_10 : CC := (.seq (.reg r_d7_6) .ret)
def k_d7_9 : CC := (.seq (.reg r_d7_5) k_d7_10)
def k_d7_8 : CC := (.seq (.reg r_d7_4) k_d7_9)
def k_d7_7 : CC := (.cond (tm 22) k_d7_8 .skip)
def k_d7_6 : CC := (.seq (.reg r_d7_3) k_d7_7)
def k_d7_18 : CC := (.cond (tm 38) .skip (.exit 0))
def k_d7_26 : CC := (.seq (.reg r_d7_13) .ret)
def k_d7_25 : CC := (.cond (tm 51) k_d7_26 .skip)
def k_d7_24 : CC := (.seq (.reg r_d7_12) k_d7_25)
def k_d7_31 : CC := (.reg r_d7_16)
def k_d7_30 : CC := (.cond (tm 57) k_d7_31 .skip)
def k_d7_29 : CC := (.seq (.reg r_d7_15) k_d7_30)
def k_d7_35 : CC := (.seq (.reg r_d7_19) .ret)
def k_d7_34 : CC := (.cond (tm 73) k_d7_35 .skip)
def k_d7_33 : CC := (.seq (.reg r_d7_18) k_d7_34)
def k_d7_32 : CC := (.seq (.reg r_d7_17) k_d7_33)
def k_d7_28 : CC := (.seq k_d7_29 k_d7_32)
def k_d7_27 : CC := (.seq (.reg r_d7_14) k_d7_28)
def k_d7_23 : CC := (.seq k_d7_24 k_d7_27)
def k_d7_22 : CC := (.seq (.reg r_d7_11) k_d7_23)
def k_d7_21 : CC := (.seq (.reg r_d7_10) k_d7_22)
def k_d7_20 : CC := (.block 1 k_d7_21)
def k_d7_36 : CC := (.reg r_d7_20)
def k_d7_19 : CC := (.seq k_d7_20 k_d7_36)
def k_d7_17 : CC := (.seq k_d7_18 k_d7_19)
def k_d7_16 : CC := (.seq (.reg r_d7_9) k_d7_17)
def k_d7_15 : CC := (.loop k_d7_16)
def k_d7_14 : CC := (.block 0 k_d7_15)
def k_d7_13 : CC := (.seq (.reg r_d7_8) k_d7_14)
def k_d7_37 : CC := (.seq (.reg r_d7_21) .ret)
def k_d7_12 : CC := (.seq k_d7_13 k_d7_37)
def k_d7_11 : CC := (.seq (.reg r_d7_7) k_d7_12)
def k_d7_5 : CC := (.seq k_d7_6 k_d7_11)
def k_d7_1 : CC := (.seq k_d7_2 k_d7_5)
def c_d7 : CC := (.seq (.reg r_d7_0) k_d7_1)
theorem o_d7 : Kq k_d7_4 (.seq (.reg r_d7_2) .ret) ∧
  Kq k_d7_3 (.cond (tm 20) k_d7_4 .skip) ∧
  Kq k_d7_2 (.seq (.reg r_d7_1) k_d7_3) ∧
  Kq k_d7_10 (.seq (.reg r_d7_6) .ret) ∧
  Kq k_d7_9 (.seq (.reg r_d7_5) k_d7_10) ∧
  Kq k_d7_8 (.seq (.reg r_d7_4) k_d7_9) ∧
  Kq k_d7_7 (.cond (tm 22) k_d7_8 .skip) ∧
  Kq k_d7_6 (.seq (.reg r_d7_3) k_d7_7) ∧
  Kq k_d7_18 (.cond (tm 38) .skip (.exit 0)) ∧
  Kq k_d7_26 (.seq (.reg r_d7_13) .ret) ∧
  Kq k_d7_25 (.cond (tm 51) k_d7_26 .skip) ∧
  Kq k_d7_24 (.seq (.reg r_d7_12) k_d7_25) ∧
  Kq k_d7_31 (.reg r_d7_16) ∧
  Kq k_d7_30 (.cond (tm 57) k_d7_31 .skip) ∧
  Kq k_d7_29 (.seq (.reg r_d7_15) k_d7_30) ∧
  Kq k_d7_35 (.seq (.reg r_d7_19) .ret) ∧
  Kq k_d7_34 (.cond (tm 73) k_d7_35 .skip) ∧
  Kq k_d7_33 (.seq (.reg r_d7_18) k_d7_34) ∧
  Kq k_d7_32 (.seq (.reg r_d7_17) k_d7_33) ∧
  Kq k_d7_28 (.seq k_d7_29 k_d7_32) ∧
  Kq k_d7_27 (.seq (.reg r_d7_14) k_d7_28) ∧
  Kq k_d7_23 (.seq k_d7_24 k_d7_27) ∧
  Kq k_d7_22 (.seq (.reg r_d7_11) k_d7_23) ∧
  Kq k_d7_21 (.seq (.reg r_d7_10) k_d7_22) ∧
  Kq k_d7_20 (.block 1 k_d7_21) ∧
  Kq k_d7_36 (.reg r_d7_20) ∧
  Kq k_d7_19 (.seq k_d7_20 k_d7_36) ∧
  Kq k_d7_17 (.seq k_d7_18 k_d7_19) ∧
  Kq k_d7_16 (.seq (.reg r_d7_9) k_d7_17) ∧
  Kq k_d7_15 (.loop k_d7_16) ∧
  Kq k_d7_14 (.block 0 k_d7_15) ∧
  Kq k_d7_13 (.seq (.reg r_d7_8) k_d7_14) ∧
  Kq k_d7_37 (.seq (.reg r_d7_21) .ret) ∧
  Kq k_d7_12 (.seq k_d7_13 k_d7_37) ∧
  Kq k_d7_11 (.seq (.reg r_d7_7) k_d7_12) ∧
  Kq k_d7_5 (.seq k_d7_6 k_d7_11) ∧
  Kq k_d7_1 (.seq k_d7_2 k_d7_5) ∧
  Kq c_d7 (.seq (.reg r_d7_0) k_d7_1) := ⟨kr, kr, kr, kr, kr, kr, kr, kr, kr, kr, kr, kr, kr, kr, kr, kr, kr, kr, kr, kr, kr, kr, kr, kr, kr, kr, kr, kr, kr, kr, kr, kr, kr, kr, kr, kr, kr, kr⟩
theorem at_d7 : FnAt Tryz.prog tb fn_d7 c_d7 76 [.tmp 13] := fnAt_of tb_fs Tryz.func48 rfl (by kernel_rfl) (by kernel_rfl) rfl rfl
def k_g9_6 : CC := (.seq (.reg r_g9_3) .ret)
def k_g9_9 : CC := (.seq (.reg r_g9_5) .ret)
def k_g9_8 : CC := (.cond (tm 11) k_g9_9 .skip)
def k_g9_7 : CC := (.seq (.reg r_g9_4) k_g9_8)
def k_g9_5 : CC := (.cond (tm 6) k_g9_6 k_g9_7)
def k_g9_4 : CC := (.seq (.reg r_g9_2) k_g9_5)
def k_g9_3 : CC := (.block 0 k_g9_4)
def k_g9_2 : CC := (.seq (.reg r_g9_1) k_g9_3)
def k_g9_10 : CC := (.seq (.reg r_g9_6) .ret)
def k_g9_1 : CC := (.seq k_g9_2 k_g9_10)
def c_g9 : CC := (.seq (.reg r_g9_0) k_g9_1)
theorem o_g9 : Kq k_g9_6 (.seq (.reg r_g9_3) .ret) ∧
  Kq k_g9_9 (.seq (.reg r_g9_5) .ret) ∧
  Kq k_g9_8 (.cond (tm 11) k_g9_9 .skip) ∧
  Kq k_g9_7 (.seq (.reg r_g9_4) k_g9_8) ∧
  Kq k_g9_5 (.cond (tm 6) k_g9_6 k_g9_7) ∧
  Kq k_g9_4 (.seq (.reg r_g9_2) k_g9_5) ∧
  Kq k_g9_3 (.block 0 k_g9_4) ∧
  Kq k_g9_2 (.seq (.reg r_g9_1) k_g9_3) ∧
  Kq k_g9_10 (.seq (.reg r_g9_6) .ret) ∧
  Kq k_g9_1 (.seq k_g9_2 k_g9_10) ∧
  Kq c_g9 (.seq (.reg r_g9_0) k_g9_1) := ⟨kr, kr, kr, kr, kr, kr, kr, kr, kr, kr, kr⟩
theorem at_g9 : FnAt Tryz.prog tb fn_g9 c_g9 21 [.tmp 4] := fnAt_of tb_fs Tryz.func49 rfl (by kernel_rfl) (by kernel_rfl) rfl rfl
def k_b9_4 : CC := (.seq (.reg r_b9_2) .ret)
def k_b9_3 : CC := (.cond (tm 10) k_b9_4 .skip)
def k_b9_2 : CC := (.seq (.reg r_b9_1) k_b9_3)
def k_b9_10 : CC := (.reg r_b9_6)
def k_b9_9 : CC := (.cond (tm 34) k_b9_10 .skip)
def k_b9_8 : CC := (.seq (.reg r_b9_5) k_b9_9)
def k_b9_11 : CC := (.seq (.reg r_b9_7) .ret)
def k_b9_7 : CC := (.seq k_b9_8 k_b9_11)
def k_b9_6 : CC := (.seq (.reg r_b9_4) k_b9_7)
def k_b9_5 : CC := (.seq (.reg r_b9_3) k_b9_6)
def k_b9_1 : CC := (.seq k_b9_2 k_b9_5)
def c_b9 : CC := (.seq (.reg r_b9_0) k_b9_1)
theorem o_b9 : Kq k_b9_4 (.seq (.reg r_b9_2) .ret) ∧
  Kq k_b9_3 (.cond (tm 10) k_b9_4 .skip) ∧
  Kq k_b9_2 (.seq (.reg r_b9_1) k_b9_3) ∧
  Kq k_b9_10 (.reg r_b9_6) ∧
  Kq k_b9_9 (.cond (tm 34) k_b9_10 .skip) ∧
  Kq k_b9_8 (.seq (.reg r_b9_5) k_b9_9) ∧
  Kq k_b9_11 (.seq (.reg r_b9_7) .ret) ∧
  Kq k_b9_7 (.seq k_b9_8 k_b9_11) ∧
  Kq k_b9_6 (.seq (.reg r_b9_4) k_b9_7) ∧
  Kq k_b9_5 (.seq (.reg r_b9_3) k_b9_6) ∧
  Kq k_b9_1 (.seq k_b9_2 k_b9_5) ∧
  Kq c_b9 (.seq (.reg r_b9_0) k_b9_1) := ⟨kr, kr, kr, kr, kr, kr, kr, kr, kr, kr, kr, kr⟩
theorem at_b9 : FnAt Tryz.prog tb fn_b9 c_b9 51 [.tmp 4] := fnAt_of tb_fs Tryz.func51 rfl (by kernel_rfl) (by kernel_rfl) rfl rfl
def k_f2_4 : CC := (.seq (.reg r_f2_2) .ret)
def k_f2_3 : CC := (.cond (tm 22) k_f2_4 .skip)
def k_f2_2 : CC := (.seq (.reg r_f2_1) k_f2_3)
def k_f2_11 : CC := (.seq (.reg r_f2_9) .ret)
def k_f2_10 : CC := (.seq (.reg r_f2_8) k_f2_11)
def k_f2_9 : CC := (.seq (.reg r_f2_7) k_f2_10)
def k_f2_8 : CC := (.seq (.reg r_f2_6) k_f2_9)
def k_f2_7 : CC := (.seq (.reg r_f2_5) k_f2_8)
def k_f2_6 : CC := (.seq (.reg r_f2_4) k_f2_7)
def k_f2_5 : CC := (.seq (.reg r_f2_3) k_f2_6)
def k_f2_1 : CC := (.seq k_f2_2 k_f2_5)
def c_f2 : CC := (.seq (.reg r_f2_0) k_f2_1)
theorem o_f2 : Kq k_f2_4 (.seq (.reg r_f2_2) .ret) ∧
  Kq k_f2_3 (.cond (tm 22) k_f2_4 .skip) ∧
  Kq k_f2_2 (.seq (.reg r_f2_1) k_f2_3) ∧
  Kq k_f2_11 (.seq (.reg r_f2_9) .ret) ∧
  Kq k_f2_10 (.seq (.reg r_f2_8) k_f2_11) ∧
  Kq k_f2_9 (.seq (.reg r_f2_7) k_f2_10) ∧
  Kq k_f2_8 (.seq (.reg r_f2_6) k_f2_9) ∧
  Kq k_f2_7 (.seq (.reg r_f2_5) k_f2_8) ∧
  Kq k_f2_6 (.seq (.reg r_f2_4) k_f2_7) ∧
  Kq k_f2_5 (.seq (.reg r_f2_3) k_f2_6) ∧
  Kq k_f2_1 (.seq k_f2_2 k_f2_5) ∧
  Kq c_f2 (.seq (.reg r_f2_0) k_f2_1) := ⟨kr, kr, kr, kr, kr, kr, kr, kr, kr, kr, kr, kr⟩
theorem at_f2 : FnAt Tryz.prog tb fn_f2 c_f2 53 [.tmp 2, .tmp 3] := fnAt_of tb_fs Tryz.func55 rfl (by kernel_rfl) (by kernel_rfl) rfl rfl
def k_e4_5 : CC := (.reg r_e4_3)
def k_e4_4 : CC := (.cond (tm 21) k_e4_5 .skip)
def k_e4_3 : CC := (.seq (.reg r_e4_2) k_e4_4)
def k_e4_2 : CC := (.seq (.reg r_e4_1) k_e4_3)
def k_e4_6 : CC := (.seq (.reg r_e4_4) .ret)
def k_e4_1 : CC := (.seq k_e4_2 k_e4_6)
def c_e4 : CC := (.seq (.reg r_e4_0) k_e4_1)
theorem o_e4 : Kq k_e4_5 (.reg r_e4_3) ∧
  Kq k_e4_4 (.cond (tm 21) k_e4_5 .skip) ∧
  Kq k_e4_3 (.seq (.reg r_e4_2) k_e4_4) ∧
  Kq k_e4_2 (.seq (.reg r_e4_1) k_e4_3) ∧
  Kq k_e4_6 (.seq (.reg r_e4_4) .ret) ∧
  Kq k_e4_1 (.seq k_e4_2 k_e4_6) ∧
  Kq c_e4 (.seq (.reg r_e4_0) k_e4_1) := ⟨kr, kr, kr, kr, kr, kr, kr⟩
theorem at_e4 : FnAt Tryz.prog tb fn_e4 c_e4 32 [.tmp 6, .tmp 7, .tmp 8, .tmp 9] := fnAt_of tb_fs Tryz.func56 rfl (by kernel_rfl) (by kernel_rfl) rfl rfl
def k_e5_5 : CC := (.seq (.reg r_e5_3) .ret)
def k_e5_4 : CC := (.cond (tm 31) k_e5_5 .skip)
def k_e5_3 : CC := (.seq (.reg r_e5_2) k_e5_4)
def k_e5_13 : CC := (.cond (tm 35) .skip (.exit 0))
def k_e5_16 : CC := (.reg r_e5_7)
def k_e5_15 : CC := (.block 1 k_e5_16)
def k_e5_17 : CC := (.reg r_e5_8)
def k_e5_14 : CC := (.seq k_e5_15 k_e5_17)
def k_e5_12 : CC := (.seq k_e5_13 k_e5_14)
def k_e5_11 : CC := (.seq (.reg r_e5_6) k_e5_12)
def k_e5_10 : CC := (.loop k_e5_11)
def k_e5_9 : CC := (.block 0 k_e5_10)
def k_e5_8 : CC := (.seq (.reg r_e5_5) k_e5_9)
def k_e5_21 : CC := (.seq (.reg r_e5_10) .ret)
def k_e5_20 : CC := (.cond (tm 47) k_e5_21 .skip)
def k_e5_19 : CC := (.seq (.reg r_e5_9) k_e5_20)
def k_e5_30 : CC := (.cond (tm 55) .skip (.exit 2))
def k_e5_37 : CC := (.seq (.reg r_e5_17) .ret)
def k_e5_36 : CC := (.cond (tm 79) k_e5_37 .skip)
def k_e5_35 : CC := (.seq (.reg r_e5_16) k_e5_36)
def k_e5_34 : CC := (.seq (.drawn r_e5_15 [ (3, 0) , (14, 0) ]) k_e5_35)
def k_e5_33 : CC := (.seq (.reg r_e5_14) k_e5_34)
def k_e5_32 : CC := (.block 3 k_e5_33)
def k_e5_38 : CC := (.reg r_e5_18)
def k_e5_31 : CC := (.seq k_e5_32 k_e5_38)
def k_e5_29 : CC := (.seq k_e5_30 k_e5_31)
def k_e5_28 : CC := (.seq (.reg r_e5_13) k_e5_29)
def k_e5_27 : CC := (.loop k_e5_28)
def k_e5_26 : CC := (.block 2 k_e5_27)
def k_e5_25 : CC := (.seq (.reg r_e5_12) k_e5_26)
def k_e5_24 : CC := (.cond (tm 49) k_e5_25 .skip)
def k_e5_23 : CC := (.seq (.reg r_e5_11) k_e5_24)
def k_e5_42 : CC := (.seq (.reg r_e5_20) .ret)
def k_e5_41 : CC := (.cond (tm 84) k_e5_42 .skip)
def k_e5_40 : CC := (.seq (.reg r_e5_19) k_e5_41)
def k_e5_47 : CC := (.seq (.reg r_e5_23) .ret)
def k_e5_46 : CC := (.cond (tm 90) k_e5_47 .skip)
def k_e5_45 : CC := (.seq (.reg r_e5_22) k_e5_46)
def k_e5_44 : CC := (.seq (.reg r_e5_21) k_e5_45)
def k_e5_48 : CC := (.seq (.reg r_e5_24) .ret)
def k_e5_43 : CC := (.seq k_e5_44 k_e5_48)
def k_e5_39 : CC := (.seq k_e5_40 k_e5_43)
def k_e5_22 : CC := (.seq k_e5_23 k_e5_39)
def k_e5_18 : CC := (.seq k_e5_19 k_e5_22)
def k_e5_7 : CC := (.seq k_e5_8 k_e5_18)
def k_e5_6 : CC := (.seq (.reg r_e5_4) k_e5_7)
def k_e5_2 : CC := (.seq k_e5_3 k_e5_6)
def k_e5_1 : CC := (.seq (.reg r_e5_1) k_e5_2)
def c_e5 : CC := (.seq (.reg r_e5_0) k_e5_1)
theorem o_e5 : Kq k_e5_5 (.seq (.reg r_e5_3) .ret) ∧
  Kq k_e5_4 (.cond (tm 31) k_e5_5 .skip) ∧
  Kq k_e5_3 (.seq (.reg r_e5_2) k_e5_4) ∧
  Kq k_e5_13 (.cond (tm 35) .skip (.exit 0)) ∧
  Kq k_e5_16 (.reg r_e5_7) ∧
  Kq k_e5_15 (.block 1 k_e5_16) ∧
  Kq k_e5_17 (.reg r_e5_8) ∧
  Kq k_e5_14 (.seq k_e5_15 k_e5_17) ∧
  Kq k_e5_12 (.seq k_e5_13 k_e5_14) ∧
  Kq k_e5_11 (.seq (.reg r_e5_6) k_e5_12) ∧
  Kq k_e5_10 (.loop k_e5_11) ∧
  Kq k_e5_9 (.block 0 k_e5_10) ∧
  Kq k_e5_8 (.seq (.reg r_e5_5) k_e5_9) ∧
  Kq k_e5_21 (.seq (.reg r_e5_10) .ret) ∧
  Kq k_e5_20 (.cond (tm 47) k_e5_21 .skip) ∧
  Kq k_e5_19 (.seq (.reg r_e5_9) k_e5_20) ∧
  Kq k_e5_30 (.cond (tm 55) .skip (.exit 2)) ∧
  Kq k_e5_37 (.seq (.reg r_e5_17) .ret) ∧
  Kq k_e5_36 (.cond (tm 79) k_e5_37 .skip) ∧
  Kq k_e5_35 (.seq (.reg r_e5_16) k_e5_36) ∧
  Kq k_e5_34 (.seq (.drawn r_e5_15 [ (3, 0) , (14, 0) ]) k_e5_35) ∧
  Kq k_e5_33 (.seq (.reg r_e5_14) k_e5_34) ∧
  Kq k_e5_32 (.block 3 k_e5_33) ∧
  Kq k_e5_38 (.reg r_e5_18) ∧
  Kq k_e5_31 (.seq k_e5_32 k_e5_38) ∧
  Kq k_e5_29 (.seq k_e5_30 k_e5_31) ∧
  Kq k_e5_28 (.seq (.reg r_e5_13) k_e5_29) ∧
  Kq k_e5_27 (.loop k_e5_28) ∧
  Kq k_e5_26 (.block 2 k_e5_27) ∧
  Kq k_e5_25 (.seq (.reg r_e5_12) k_e5_26) ∧
  Kq k_e5_24 (.cond (tm 49) k_e5_25 .skip) ∧
  Kq k_e5_23 (.seq (.reg r_e5_11) k_e5_24) ∧
  Kq k_e5_42 (.seq (.reg r_e5_20) .ret) ∧
  Kq k_e5_41 (.cond (tm 84) k_e5_42 .skip) ∧
  Kq k_e5_40 (.seq (.reg r_e5_19) k_e5_41) ∧
  Kq k_e5_47 (.seq (.reg r_e5_23) .ret) ∧
  Kq k_e5_46 (.cond (tm 90) k_e5_47 .skip) ∧
  Kq k_e5_45 (.seq (.reg r_e5_22) k_e5_46) ∧
  Kq k_e5_44 (.seq (.reg r_e5_21) k_e5_45) ∧
  Kq k_e5_48 (.seq (.reg r_e5_24) .ret) ∧
  Kq k_e5_43 (.seq k_e5_44 k_e5_48) ∧
  Kq k_e5_39 (.seq k_e5_40 k_e5_43) ∧
  Kq k_e5_22 (.seq k_e5_23 k_e5_39) ∧
  Kq k_e5_18 (.seq k_e5_19 k_e5_22) ∧
  Kq k_e5_7 (.seq k_e5_8 k_e5_18) ∧
  Kq k_e5_6 (.seq (.reg r_e5_4) k_e5_7) ∧
  Kq k_e5_2 (.seq k_e5_3 k_e5_6) ∧
  Kq k_e5_1 (.seq (.reg r_e5_1) k_e5_2) ∧
  Kq c_e5 (.seq (.reg r_e5_0) k_e5_1) := ⟨kr, kr, kr, kr, kr, kr, kr, kr, kr, kr, kr, kr, kr, kr, kr, kr, kr, kr, kr, kr, kr, kr, kr, kr, kr, kr, kr, kr, kr, kr, kr, kr, kr, kr, kr, kr, kr, kr, kr, kr, kr, kr, kr, kr, kr, kr, kr, kr, kr⟩
theorem at_e5 : FnAt Tryz.prog tb fn_e5 c_e5 99 [.tmp 12] := fnAt_of tb_fs Tryz.func58 rfl (by kernel_rfl) (by kernel_rfl) rfl rfl
def k_f3_4 : CC := (.seq (.reg r_f3_2) .ret)
def k_f3_3 : CC := (.cond (tm 12) k_f3_4 .skip)
def k_f3_2 : CC := (.seq (.reg r_f3_1) k_f3_3)
def k_f3_17 : CC := (.cond (tm 30) .skip (.exit 0))
def k_f3_21 : CC := (.reg r_f3_12)
def k_f3_20 : CC := (.seq (.reg r_f3_11) k_f3_21)
def k_f3_19 : CC := (.block 1 k_f3_20)
def k_f3_22 : CC := (.reg r_f3_13)
def k_f3_18 : CC := (.seq k_f3_19 k_f3_22)
def k_f3_16 : CC := (.seq k_f3_17 k_f3_18)
def k_f3_15 : CC := (.seq (.reg r_f3_10) k_f3_16)
def k_f3_14 : CC := (.loop k_f3_15)
def k_f3_13 : CC := (.block 0 k_f3_14)
def k_f3_12 : CC := (.seq (.reg r_f3_9) k_f3_13)
def k_f3_25 : CC := (.seq (.reg r_f3_16) .ret)
def k_f3_24 : CC := (.seq (.reg r_f3_15) k_f3_25)
def k_f3_23 : CC := (.seq (.reg r_f3_14) k_f3_24)
def k_f3_11 : CC := (.seq k_f3_12 k_f3_23)
def k_f3_10 : CC := (.seq (.reg r_f3_8) k_f3_11)
def k_f3_9 : CC := (.seq (.reg r_f3_7) k_f3_10)
def k_f3_8 : CC := (.seq (.reg r_f3_6) k_f3_9)
def k_f3_7 : CC := (.seq (.reg r_f3_5) k_f3_8)
def k_f3_6 : CC := (.seq (.reg r_f3_4) k_f3_7)
def k_f3_5 : CC := (.seq (.reg r_f3_3) k_f3_6)
def k_f3_1 : CC := (.seq k_f3_2 k_f3_5)
def c_f3 : CC := (.seq (.reg r_f3_0) k_f3_1)
theorem o_f3 : Kq k_f3_4 (.seq (.reg r_f3_2) .ret) ∧
  Kq k_f3_3 (.cond (tm 12) k_f3_4 .skip) ∧
  Kq k_f3_2 (.seq (.reg r_f3_1) k_f3_3) ∧
  Kq k_f3_17 (.cond (tm 30) .skip (.exit 0)) ∧
  Kq k_f3_21 (.reg r_f3_12) ∧
  Kq k_f3_20 (.seq (.reg r_f3_11) k_f3_21) ∧
  Kq k_f3_19 (.block 1 k_f3_20) ∧
  Kq k_f3_22 (.reg r_f3_13) ∧
  Kq k_f3_18 (.seq k_f3_19 k_f3_22) ∧
  Kq k_f3_16 (.seq k_f3_17 k_f3_18) ∧
  Kq k_f3_15 (.seq (.reg r_f3_10) k_f3_16) ∧
  Kq k_f3_14 (.loop k_f3_15) ∧
  Kq k_f3_13 (.block 0 k_f3_14) ∧
  Kq k_f3_12 (.seq (.reg r_f3_9) k_f3_13) ∧
  Kq k_f3_25 (.seq (.reg r_f3_16) .ret) ∧
  Kq k_f3_24 (.seq (.reg r_f3_15) k_f3_25) ∧
  Kq k_f3_23 (.seq (.reg r_f3_14) k_f3_24) ∧
  Kq k_f3_11 (.seq k_f3_12 k_f3_23) ∧
  Kq k_f3_10 (.seq (.reg r_f3_8) k_f3_11) ∧
  Kq k_f3_9 (.seq (.reg r_f3_7) k_f3_10) ∧
  Kq k_f3_8 (.seq (.reg r_f3_6) k_f3_9) ∧
  Kq k_f3_7 (.seq (.reg r_f3_5) k_f3_8) ∧
  Kq k_f3_6 (.seq (.reg r_f3_4) k_f3_7) ∧
  Kq k_f3_5 (.seq (.reg r_f3_3) k_f3_6) ∧
  Kq k_f3_1 (.seq k_f3_2 k_f3_5) ∧
  Kq c_f3 (.seq (.reg r_f3_0) k_f3_1) := ⟨kr, kr, kr, kr, kr, kr, kr, kr, kr, kr, kr, kr, kr, kr, kr, kr, kr, kr, kr, kr, kr, kr, kr, kr, kr, kr⟩
theorem at_f3 : FnAt Tryz.prog tb fn_f3 c_f3 55 [.cell 2 ty_api_Inode, .tmp 3] := fnAt_of tb_fs Tryz.func59 rfl (by kernel_rfl) (by kernel_rfl) rfl rfl
def k_g7_6 : CC := (.seq (.reg r_g7_3) .ret)
def k_g7_9 : CC := (.seq (.reg r_g7_5) .ret)
def k_g7_8 : CC := (.cond (tm 23) k_g7_9 .skip)
def k_g7_7 : CC := (.seq (.reg r_g7_4) k_g7_8)
def k_g7_5 : CC := (.cond (tm 19) k_g7_6 k_g7_7)
def k_g7_4 : CC := (.seq (.reg r_g7_2) k_g7_5)
def k_g7_3 : CC := (.block 0 k_g7_4)
def k_g7_10 : CC := (.seq (.reg r_g7_6) .ret)
def k_g7_2 : CC := (.seq k_g7_3 k_g7_10)
def k_g7_1 : CC := (.seq (.reg r_g7_1) k_g7_2)
def c_g7 : CC := (.seq (.reg r_g7_0) k_g7_1)
theorem o_g7 : Kq k_g7_6 (.seq (.reg r_g7_3) .ret) ∧
  Kq k_g7_9 (.seq (.reg r_g7_5) .ret) ∧
  Kq k_g7_8 (.cond (tm 23) k_g7_9 .skip) ∧
  Kq k_g7_7 (.seq (.reg r_g7_4) k_g7_8) ∧
  Kq k_g7_5 (.cond (tm 19) k_g7_6 k_g7_7) ∧
  Kq k_g7_4 (.seq (.reg r_g7_2) k_g7_5) ∧
  Kq k_g7_3 (.block 0 k_g7_4) ∧
  Kq k_g7_10 (.seq (.reg r_g7_6) .ret) ∧
  Kq k_g7_2 (.seq k_g7_3 k_g7_10) ∧
  Kq k_g7_1 (.seq (.reg r_g7_1) k_g7_2) ∧
  Kq c_g7 (.seq (.reg r_g7_0) k_g7_1) := ⟨kr, kr, kr, kr, kr, kr, kr, kr, kr, kr, kr⟩
theorem at_g7 : FnAt Tryz.prog tb fn_g7 c_g7 34 [.tmp 8, .tmp 9] := fnAt_of tb_fs Tryz.func69 rfl (by kernel_rfl) (by kernel_rfl) rfl rfl
def k_b1_5 : CC := (.seq (.reg r_b1_3) .ret)
def k_b1_4 : CC := (.cond (tm 17) k_b1_5 .skip)
def k_b1_3 : CC := (.seq (.reg r_b1_2) k_b1_4)
def k_b1_10 : CC := (.seq (.reg r_b1_6) .ret)
def k_b1_9 : CC := (.cond (tm 46) k_b1_10 .skip)
def k_b1_8 : CC := (.seq (.reg r_b1_5) k_b1_9)
def k_b1_15 : CC := (.seq (.reg r_b1_9) .ret)
def k_b1_14 : CC := (.cond (tm 58) k_b1_15 .skip)
def k_b1_13 : CC := (.seq (.reg r_b1_8) k_b1_14)
def k_b1_17 : CC := (.seq (.reg r_b1_11) .ret)
def k_b1_16 : CC := (.seq (.reg r_b1_10) k_b1_17)
def k_b1_12 : CC := (.seq k_b1_13 k_b1_16)
def k_b1_11 : CC := (.seq (.reg r_b1_7) k_b1_12)
def k_b1_7 : CC := (.seq k_b1_8 k_b1_11)
def k_b1_6 : CC := (.seq (.drawn r_b1_4 [ (3, 0) , (7, 0) , (11, 0) , (17, 0) ]) k_b1_7)
def k_b1_2 : CC := (.seq k_b1_3 k_b1_6)
def k_b1_1 : CC := (.seq (.reg r_b1_1) k_b1_2)
def c_b1 : CC := (.seq (.reg r_b1_0) k_b1_1)
theorem o_b1 : Kq k_b1_5 (.seq (.reg r_b1_3) .ret) ∧
  Kq k_b1_4 (.cond (tm 17) k_b1_5 .skip) ∧
  Kq k_b1_3 (.seq (.reg r_b1_2) k_b1_4) ∧
  Kq k_b1_10 (.seq (.reg r_b1_6) .ret) ∧
  Kq k_b1_9 (.cond (tm 46) k_b1_10 .skip) ∧
  Kq k_b1_8 (.seq (.reg r_b1_5) k_b1_9) ∧
  Kq k_b1_15 (.seq (.reg r_b1_9) .ret) ∧
  Kq k_b1_14 (.cond (tm 58) k_b1_15 .skip) ∧
  Kq k_b1_13 (.seq (.reg r_b1_8) k_b1_14) ∧
  Kq k_b1_17 (.seq (.reg r_b1_11) .ret) ∧
  Kq k_b1_16 (.seq (.reg r_b1_10) k_b1_17) ∧
  Kq k_b1_12 (.seq k_b1_13 k_b1_16) ∧
  Kq k_b1_11 (.seq (.reg r_b1_7) k_b1_12) ∧
  Kq k_b1_7 (.seq k_b1_8 k_b1_11) ∧
  Kq k_b1_6 (.seq (.drawn r_b1_4 [ (3, 0) , (7, 0) , (11, 0) , (17, 0) ]) k_b1_7) ∧
  Kq k_b1_2 (.seq k_b1_3 k_b1_6) ∧
  Kq k_b1_1 (.seq (.reg r_b1_1) k_b1_2) ∧
  Kq c_b1 (.seq (.reg r_b1_0) k_b1_1) := ⟨kr, kr, kr, kr, kr, kr, kr, kr, kr, kr, kr, kr, kr, kr, kr, kr, kr, kr⟩
theorem at_b1 : FnAt Tryz.prog tb fn_b1 c_b1 67 [.tmp 4] := fnAt_of tb_fs Tryz.func70 rfl (by kernel_rfl) (by kernel_rfl) rfl rfl
def c_g5 : CC := (.reg r_g5_0)
theorem o_g5 : Kq c_g5 (.reg r_g5_0) := kr
theorem at_g5 : FnAt Tryz.prog tb fn_g5 c_g5 12 [] := fnAt_of tb_fs Tryz.func71 rfl (by kernel_rfl) (by kernel_rfl) rfl rfl
def k_g8_5 : CC := (.cond (tm 13) .skip (.exit 0))
def k_g8_4 : CC := (.seq (.reg r_g8_1) k_g8_5)
def k_g8_11 : CC := (.cond (tm 37) .ret .skip)
def k_g8_10 : CC := (.seq (.reg r_g8_4) k_g8_11)
def k_g8_12 : CC := (.reg r_g8_5)
def k_g8_9 : CC := (.seq k_g8_10 k_g8_12)
def k_g8_8 : CC := (.seq (.reg r_g8_3) k_g8_9)
def k_g8_7 : CC := (.seq (.reg r_g8_2) k_g8_8)
def k_g8_6 : CC := (.block 1 k_g8_7)
def k_g8_3 : CC := (.seq k_g8_4 k_g8_6)
def k_g8_2 : CC := (.loop k_g8_3)
def k_g8_1 : CC := (.block 0 k_g8_2)
def c_g8 : CC := (.seq (.reg r_g8_0) k_g8_1)
theorem o_g8 : Kq k_g8_5 (.cond (tm 13) .skip (.exit 0)) ∧
  Kq k_g8_4 (.seq (.reg r_g8_1) k_g8_5) ∧
  Kq k_g8_11 (.cond (tm 37) .ret .skip) ∧
  Kq k_g8_10 (.seq (.reg r_g8_4) k_g8_11) ∧
  Kq k_g8_12 (.reg r_g8_5) ∧
  Kq k_g8_9 (.seq k_g8_10 k_g8_12) ∧
  Kq k_g8_8 (.seq (.reg r_g8_3) k_g8_9) ∧
  Kq k_g8_7 (.seq (.reg r_g8_2) k_g8_8) ∧
  Kq k_g8_6 (.block 1 k_g8_7) ∧
  Kq k_g8_3 (.seq k_g8_4 k_g8_6) ∧
  Kq k_g8_2 (.loop k_g8_3) ∧
  Kq k_g8_1 (.block 0 k_g8_2) ∧
  Kq c_g8 (.seq (.reg r_g8_0) k_g8_1) := ⟨kr, kr, kr, kr, kr, kr, kr, kr, kr, kr, kr, kr, kr⟩
theorem at_g8 : FnAt Tryz.prog tb fn_g8 c_g8 43 [] := fnAt_of tb_fs Tryz.func72 rfl (by kernel_rfl) (by kernel_rfl) rfl rfl
def k_c9_5 : CC := (.seq (.reg r_c9_3) .ret)
def k_c9_4 : CC := (.cond (tm 14) k_c9_5 .skip)
def k_c9_3 : CC := (.seq (.reg r_c9_2) k_c9_4)
def k_c9_2 : CC := (.seq (.reg r_c9_1) k_c9_3)
def k_c9_12 : CC := (.cond (tm 27) .skip (.exit 0))
def k_c9_19 : CC := (.seq (.reg r_c9_9) .ret)
def k_c9_18 : CC := (.cond (tm 36) k_c9_19 .skip)
def k_c9_17 : CC := (.seq (.reg r_c9_8) k_c9_18)
def k_c9_16 : CC := (.seq (.reg r_c9_7) k_c9_17)
def k_c9_15 : CC := (.seq (.reg r_c9_6) k_c9_16)
def k_c9_14 : CC := (.block 1 k_c9_15)
def k_c9_20 : CC := (.reg r_c9_10)
def k_c9_13 : CC := (.seq k_c9_14 k_c9_20)
def k_c9_11 : CC := (.seq k_c9_12 k_c9_13)
def k_c9_10 : CC := (.seq (.reg r_c9_5) k_c9_11)
def k_c9_9 : CC := (.loop k_c9_10)
def k_c9_8 : CC := (.block 0 k_c9_9)
def k_c9_7 : CC := (.seq (.drawn r_c9_4 [ (3, 0) , (7, 0) ]) k_c9_8)
def k_c9_21 : CC := (.seq (.reg r_c9_11) .ret)
def k_c9_6 : CC := (.seq k_c9_7 k_c9_21)
def k_c9_1 : CC := (.seq k_c9_2 k_c9_6)
def c_c9 : CC := (.seq (.reg r_c9_0) k_c9_1)
theorem o_c9 : Kq k_c9_5 (.seq (.reg r_c9_3) .ret) ∧
  Kq k_c9_4 (.cond (tm 14) k_c9_5 .skip) ∧
  Kq k_c9_3 (.seq (.reg r_c9_2) k_c9_4) ∧
  Kq k_c9_2 (.seq (.reg r_c9_1) k_c9_3) ∧
  Kq k_c9_12 (.cond (tm 27) .skip (.exit 0)) ∧
  Kq k_c9_19 (.seq (.reg r_c9_9) .ret) ∧
  Kq k_c9_18 (.cond (tm 36) k_c9_19 .skip) ∧
  Kq k_c9_17 (.seq (.reg r_c9_8) k_c9_18) ∧
  Kq k_c9_16 (.seq (.reg r_c9_7) k_c9_17) ∧
  Kq k_c9_15 (.seq (.reg r_c9_6) k_c9_16) ∧
  Kq k_c9_14 (.block 1 k_c9_15) ∧
  Kq k_c9_20 (.reg r_c9_10) ∧
  Kq k_c9_13 (.seq k_c9_14 k_c9_20) ∧
  Kq k_c9_11 (.seq k_c9_12 k_c9_13) ∧
  Kq k_c9_10 (.seq (.reg r_c9_5) k_c9_11) ∧
  Kq k_c9_9 (.loop k_c9_10) ∧
  Kq k_c9_8 (.block 0 k_c9_9) ∧
  Kq k_c9_7 (.seq (.drawn r_c9_4 [ (3, 0) , (7, 0) ]) k_c9_8) ∧
  Kq k_c9_21 (.seq (.reg r_c9_11) .ret) ∧
  Kq k_c9_6 (.seq k_c9_7 k_c9_21) ∧
  Kq k_c9_1 (.seq k_c9_2 k_c9_6) ∧
  Kq c_c9 (.seq (.reg r_c9_0) k_c9_1) := ⟨kr, kr, kr, kr, kr, kr, kr, kr, kr, kr, kr, kr, kr, kr, kr, kr, kr, kr, kr, kr, kr, kr⟩
theorem at_c9 : FnAt Tryz.prog tb fn_c9 c_c9 48 [.tmp 4, .tmp 5] := fnAt_of tb_fs Tryz.func73 rfl (by kernel_rfl) (by kernel_rfl) rfl rfl
def k_b0_4 : CC := (.seq (.reg r_b0_2) .ret)
def k_b0_3 : CC := (.cond (tm 12) k_b0_4 .skip)
def k_b0_2 : CC := (.seq (.reg r_b0_1) k_b0_3)
def k_b0_5 : CC := (.seq (.reg r_b0_3) .ret)
def k_b0_1 : CC := (.seq k_b0_2 k_b0_5)
def c_b0 : CC := (.seq (.reg r_b0_0) k_b0_1)
theorem o_b0 : Kq k_b0_4 (.seq (.reg r_b0_2) .ret) ∧
  Kq k_b0_3 (.cond (tm 12) k_b0_4 .skip) ∧
  Kq k_b0_2 (.seq (.reg r_b0_1) k_b0_3) ∧
  Kq k_b0_5 (.seq (.reg r_b0_3) .ret) ∧
  Kq k_b0_1 (.seq k_b0_2 k_b0_5) ∧
  Kq c_b0 (.seq (.reg r_b0_0) k_b0_1) := ⟨kr, kr, kr, kr, kr, kr⟩
theorem at_b0 : FnAt Tryz.prog tb fn_b0 c_b0 27 [.tmp 6] := fnAt_of tb_fs Tryz.func74 rfl (by kernel_rfl) (by kernel_rfl) rfl rfl
def k_g6_5 : CC := (.seq (.reg r_g6_3) .ret)
def k_g6_4 : CC := (.cond (tm 25) k_g6_5 .skip)
def k_g6_3 : CC := (.seq (.reg r_g6_2) k_g6_4)
def k_g6_7 : CC := (.seq (.reg r_g6_5) .ret)
def k_g6_6 : CC := (.seq (.reg r_g6_4) k_g6_7)
def k_g6_2 : CC := (.seq k_g6_3 k_g6_6)
def k_g6_1 : CC := (.seq (.reg r_g6_1) k_g6_2)
def c_g6 : CC := (.seq (.reg r_g6_0) k_g6_1)
theorem o_g6 : Kq k_g6_5 (.seq (.reg r_g6_3) .ret) ∧
  Kq k_g6_4 (.cond (tm 25) k_g6_5 .skip) ∧
  Kq k_g6_3 (.seq (.reg r_g6_2) k_g6_4) ∧
  Kq k_g6_7 (.seq (.reg r_g6_5) .ret) ∧
  Kq k_g6_6 (.seq (.reg r_g6_4) k_g6_7) ∧
  Kq k_g6_2 (.seq k_g6_3 k_g6_6) ∧
  Kq k_g6_1 (.seq (.reg r_g6_1) k_g6_2) ∧
  Kq c_g6 (.seq (.reg r_g6_0) k_g6_1) := ⟨kr, kr, kr, kr, kr, kr, kr, kr⟩
theorem at_g6 : FnAt Tryz.prog tb fn_g6 c_g6 34 [.tmp 8] := fnAt_of tb_fs Tryz.func75 rfl (by kernel_rfl) (by kernel_rfl) rfl rfl
def c_g2 : CC := (.reg r_g2_0)
theorem o_g2 : Kq c_g2 (.reg r_g2_0) := kr
theorem at_g2 : FnAt Tryz.prog tb fn_g2 c_g2 11 [] := fnAt_of tb_fs Tryz.func76 rfl (by kernel_rfl) (by kernel_rfl) rfl rfl
def k_b7_5 : CC := (.seq (.reg r_b7_3) .ret)
def k_b7_4 : CC := (.cond (tm 12) k_b7_5 .skip)
def k_b7_3 : CC := (.seq (.reg r_b7_2) k_b7_4)
def k_b7_12 : CC := (.cond (tm 19) .skip (.exit 0))
def k_b7_11 : CC := (.seq (.reg r_b7_5) k_b7_12)
def k_b7_19 : CC := (.reg r_b7_10)
def k_b7_18 : CC := (.seq (.reg r_b7_9) k_b7_19)
def k_b7_17 : CC := (.cond (tm 29) k_b7_18 .skip)
def k_b7_16 : CC := (.seq (.reg r_b7_8) k_b7_17)
def k_b7_15 : CC := (.seq (.reg r_b7_7) k_b7_16)
def k_b7_14 : CC := (.block 1 k_b7_15)
def k_b7_20 : CC := (.reg r_b7_6)
def k_b7_13 : CC := (.seq k_b7_14 k_b7_20)
def k_b7_10 : CC := (.seq k_b7_11 k_b7_13)
def k_b7_9 : CC := (.loop k_b7_10)
def k_b7_8 : CC := (.block 0 k_b7_9)
def k_b7_7 : CC := (.seq (.reg r_b7_4) k_b7_8)
def k_b7_22 : CC := (.seq (.reg r_b7_12) .ret)
def k_b7_21 : CC := (.seq (.reg r_b7_11) k_b7_22)
def k_b7_6 : CC := (.seq k_b7_7 k_b7_21)
def k_b7_2 : CC := (.seq k_b7_3 k_b7_6)
def k_b7_1 : CC := (.seq (.reg r_b7_1) k_b7_2)
def c_b7 : CC := (.seq (.reg r_b7_0) k_b7_1)
theorem o_b7 : Kq k_b7_5 (.seq (.reg r_b7_3) .ret) ∧
  Kq k_b7_4 (.cond (tm 12) k_b7_5 .skip) ∧
  Kq k_b7_3 (.seq (.reg r_b7_2) k_b7_4) ∧
  Kq k_b7_12 (.cond (tm 19) .skip (.exit 0)) ∧
  Kq k_b7_11 (.seq (.reg r_b7_5) k_b7_12) ∧
  Kq k_b7_19 (.reg r_b7_10) ∧
  Kq k_b7_18 (.seq (.reg r_b7_9) k_b7_19) ∧
  Kq k_b7_17 (.cond (tm 29) k_b7_18 .skip) ∧
  Kq k_b7_16 (.seq (.reg r_b7_8) k_b7_17) ∧
  Kq k_b7_15 (.seq (.reg r_b7_7) k_b7_16) ∧
  Kq k_b7_14 (.block 1 k_b7_15) ∧
  Kq k_b7_20 (.reg r_b7_6) ∧
  Kq k_b7_13 (.seq k_b7_14 k_b7_20) ∧
  Kq k_b7_10 (.seq k_b7_11 k_b7_13) ∧
  Kq k_b7_9 (.loop k_b7_10) ∧
  Kq k_b7_8 (.block 0 k_b7_9) ∧
  Kq k_b7_7 (.seq (.reg r_b7_4) k_b7_8) ∧
  Kq k_b7_22 (.seq (.reg r_b7_12) .ret) ∧
  Kq k_b7_21 (.seq (.reg r_b7_11) k_b7_22) ∧
  Kq k_b7_6 (.seq k_b7_7 k_b7_21) ∧
  Kq k_b7_2 (.seq k_b7_3 k_b7_6) ∧
  Kq k_b7_1 (.seq (.reg r_b7_1) k_b7_2) ∧
  Kq c_b7 (.seq (.reg r_b7_0) k_b7_1) := ⟨kr, kr, kr, kr, kr, kr, kr, kr, kr, kr, kr, kr, kr, kr, kr, kr, kr, kr, kr, kr, kr, kr, kr⟩
theorem at_b7 : FnAt Tryz.prog tb fn_b7 c_b7 42 [.tmp 4] := fnAt_of tb_fs Tryz.func77 rfl (by kernel_rfl) (by kernel_rfl) rfl rfl
def k_g0_1 : CC := (.seq (.reg r_g0_1) .ret)
def c_g0 : CC := (.seq (.reg r_g0_0) k_g0_1)
theorem o_g0 : Kq k_g0_1 (.seq (.reg r_g0_1) .ret) ∧
  Kq c_g0 (.seq (.reg r_g0_0) k_g0_1) := ⟨kr, kr⟩
theorem at_g0 : FnAt Tryz.prog tb fn_g0 c_g0 5 [.tmp 2] := fnAt_of tb_fs Tryz.func78 rfl (by kernel_rfl) (by kernel_rfl) rfl rfl
def k_j1_1 : CC := (.seq (.reg r_j1_1) .ret)
def c_j1 : CC := (.seq (.reg r_j1_0) k_j1_1)
theorem o_j1 : Kq k_j1_1 (.seq (.reg r_j1_1) .ret) ∧
  Kq c_j1 (.seq (.reg r_j1_0) k_j1_1) := ⟨kr, kr⟩
theorem at_j1 : FnAt Tryz.prog tb fn_j1 c_j1 15 [.tmp 6] := fnAt_of tb_fs Tryz.func93 rfl (by kernel_rfl) (by kernel_rfl) rfl rfl
def k_d5_6 : CC := (.seq (.reg r_d5_3) .ret)
def k_d5_9 : CC := (.seq (.reg r_d5_5) .ret)
def k_d5_12 : CC := (.seq (.reg r_d5_7) .ret)
def k_d5_11 : CC := (.cond (tm 42) k_d5_12 .skip)
def k_d5_10 : CC := (.seq (.reg r_d5_6) k_d5_11)
def k_d5_8 : CC := (.cond (tm 18) k_d5_9 k_d5_10)
def k_d5_7 : CC := (.seq (.reg r_d5_4) k_d5_8)
def k_d5_5 : CC := (.cond (tm 14) k_d5_6 k_d5_7)
def k_d5_4 : CC := (.seq (.reg r_d5_2) k_d5_5)
def k_d5_3 : CC := (.block 0 k_d5_4)
def k_d5_15 : CC := (.seq (.reg r_d5_10) .ret)
def k_d5_14 : CC := (.seq (.reg r_d5_9) k_d5_15)
def k_d5_13 : CC := (.seq (.reg r_d5_8) k_d5_14)
def k_d5_2 : CC := (.seq k_d5_3 k_d5_13)
def k_d5_1 : CC := (.seq (.reg r_d5_1) k_d5_2)
def c_d5 : CC := (.seq (.reg r_d5_0) k_d5_1)
theorem o_d5 : Kq k_d5_6 (.seq (.reg r_d5_3) .ret) ∧
  Kq k_d5_9 (.seq (.reg r_d5_5) .ret) ∧
  Kq k_d5_12 (.seq (.reg r_d5_7) .ret) ∧
  Kq k_d5_11 (.cond (tm 42) k_d5_12 .skip) ∧
  Kq k_d5_10 (.seq (.reg r_d5_6) k_d5_11) ∧
  Kq k_d5_8 (.cond (tm 18) k_d5_9 k_d5_10) ∧
  Kq k_d5_7 (.seq (.reg r_d5_4) k_d5_8) ∧
  Kq k_d5_5 (.cond (tm 14) k_d5_6 k_d5_7) ∧
  Kq k_d5_4 (.seq (.reg r_d5_2) k_d5_5) ∧
  Kq k_d5_3 (.block 0 k_d5_4) ∧
  Kq k_d5_15 (.seq (.reg r_d5_10) .ret) ∧
  Kq k_d5_14 (.seq (.reg r_d5_9) k_d5_15) ∧
  Kq k_d5_13 (.seq (.reg r_d5_8) k_d5_14) ∧
  Kq k_d5_2 (.seq k_d5_3 k_d5_13) ∧
  Kq k_d5_1 (.seq (.reg r_d5_1) k_d5_2) ∧
  Kq c_d5 (.seq (.reg r_d5_0) k_d5_1) := ⟨kr, kr, kr, kr, kr, kr, kr, kr, kr, kr, kr, kr, kr, kr, kr, kr⟩
theorem at_d5 : FnAt Tryz.prog tb fn_d5 c_d5 63 [.tmp 10] := fnAt_of tb_fs Tryz.func94 rfl (by kernel_rfl) (by kernel_rfl) rfl rfl
def k_d1_1 : CC := (.seq (.reg r_d1_1) .ret)
def c_d1 : CC := (.seq (.reg r_d1_0) k_d1_1)
theorem o_d1 : Kq k_d1_1 (.seq (.reg r_d1_1) .ret) ∧
  Kq c_d1 (.seq (.reg r_d1_0) k_d1_1) := ⟨kr, kr⟩
theorem at_d1 : FnAt Tryz.prog tb fn_d1 c_d1 7 [.tmp 2] := fnAt_of tb_fs Tryz.func95 rfl (by kernel_rfl) (by kernel_rfl) rfl rfl
def k_d2_1 : CC := (.seq (.reg r_d2_1) .ret)
def c_d2 : CC := (.seq (.reg r_d2_0) k_d2_1)
theorem o_d2 : Kq k_d2_1 (.seq (.reg r_d2_1) .ret) ∧
  Kq c_d2 (.seq (.reg r_d2_0) k_d2_1) := ⟨kr, kr⟩
theorem at_d2 : FnAt Tryz.prog tb fn_d2 c_d2 5 [.tmp 2] := fnAt_of tb_fs Tryz.func96 rfl (by kernel_rfl) (by kernel_rfl) rfl rfl
def k_cr_Bm_take_0_6 : CC := (.seq (.reg r_a8_4) .ret)
def k_cr_Bm_take_0_9 : CC := (.seq (.reg r_a8_6) .ret)
def k_cr_Bm_take_0_12 : CC := (.seq (.reg r_a8_8) (.goto 0))
def k_cr_Bm_take_0_11 : CC := (.cond (tm 31) k_cr_Bm_take_0_12 .skip)
def k_cr_Bm_take_0_10 : CC := (.seq (.reg r_a8_7) k_cr_Bm_take_0_11)
def k_cr_Bm_take_0_8 : CC := (.cond (tm 27) k_cr_Bm_take_0_9 k_cr_Bm_take_0_10)
def k_cr_Bm_take_0_7 : CC := (.seq (.reg r_a8_5) k_cr_Bm_take_0_8)
def k_cr_Bm_take_0_5 : CC := (.cond (tm 23) k_cr_Bm_take_0_6 k_cr_Bm_take_0_7)
def k_cr_Bm_take_0_4 : CC := (.seq (.reg r_a8_3) k_cr_Bm_take_0_5)
def k_cr_Bm_take_0_3 : CC := (.block 0 k_cr_Bm_take_0_4)
def k_cr_Bm_take_0_17 : CC := (.seq (.reg r_a8_11) .ret)
def k_cr_Bm_take_0_16 : CC := (.cond (tm 42) k_cr_Bm_take_0_17 .skip)
def k_cr_Bm_take_0_15 : CC := (.seq (.reg r_a8_10) k_cr_Bm_take_0_16)
def k_cr_Bm_take_0_14 : CC := (.seq (.reg r_a8_9) k_cr_Bm_take_0_15)
def k_cr_Bm_take_0_18 : CC := (.seq (.reg r_a8_12) .ret)
def k_cr_Bm_take_0_13 : CC := (.seq k_cr_Bm_take_0_14 k_cr_Bm_take_0_18)
def k_cr_Bm_take_0_2 : CC := (.seq k_cr_Bm_take_0_3 k_cr_Bm_take_0_13)
def k_cr_Bm_take_0_1 : CC := (.seq (.reg r_a8_2) k_cr_Bm_take_0_2)
theorem o_cr_Bm_take_0 : Kq k_cr_Bm_take_0_6 (.seq (.reg r_a8_4) .ret) ∧
  Kq k_cr_Bm_take_0_9 (.seq (.reg r_a8_6) .ret) ∧
  Kq k_cr_Bm_take_0_12 (.seq (.reg r_a8_8) (.goto 0)) ∧
  Kq k_cr_Bm_take_0_11 (.cond (tm 31) k_cr_Bm_take_0_12 .skip) ∧
  Kq k_cr_Bm_take_0_10 (.seq (.reg r_a8_7) k_cr_Bm_take_0_11) ∧
  Kq k_cr_Bm_take_0_8 (.cond (tm 27) k_cr_Bm_take_0_9 k_cr_Bm_take_0_10) ∧
  Kq k_cr_Bm_take_0_7 (.seq (.reg r_a8_5) k_cr_Bm_take_0_8) ∧
  Kq k_cr_Bm_take_0_5 (.cond (tm 23) k_cr_Bm_take_0_6 k_cr_Bm_take_0_7) ∧
  Kq k_cr_Bm_take_0_4 (.seq (.reg r_a8_3) k_cr_Bm_take_0_5) ∧
  Kq k_cr_Bm_take_0_3 (.block 0 k_cr_Bm_take_0_4) ∧
  Kq k_cr_Bm_take_0_17 (.seq (.reg r_a8_11) .ret) ∧
  Kq k_cr_Bm_take_0_16 (.cond (tm 42) k_cr_Bm_take_0_17 .skip) ∧
  Kq k_cr_Bm_take_0_15 (.seq (.reg r_a8_10) k_cr_Bm_take_0_16) ∧
  Kq k_cr_Bm_take_0_14 (.seq (.reg r_a8_9) k_cr_Bm_take_0_15) ∧
  Kq k_cr_Bm_take_0_18 (.seq (.reg r_a8_12) .ret) ∧
  Kq k_cr_Bm_take_0_13 (.seq k_cr_Bm_take_0_14 k_cr_Bm_take_0_18) ∧
  Kq k_cr_Bm_take_0_2 (.seq k_cr_Bm_take_0_3 k_cr_Bm_take_0_13) ∧
  Kq k_cr_Bm_take_0_1 (.seq (.reg r_a8_2) k_cr_Bm_take_0_2) ∧
  Kq cr_Bm_take_0 (.seq .skip k_cr_Bm_take_0_1) := ⟨kr, kr, kr, kr, kr, kr, kr, kr, kr, kr, kr, kr, kr, kr, kr, kr, kr, kr, kr⟩
def c_a8 : CC := (.seq (.reg r_a8_0) (.scope b_Bm_take))
theorem o_a8 : Kq c_a8 (.seq (.reg r_a8_0) (.scope b_Bm_take)) := kr
theorem at_a8 : FnAt Tryz.prog tb fn_a8 c_a8 45 [.tmp 10, .tmp 11] := fnAt_of tb_fs Tryz.func98 rfl (by kernel_rfl) (by kernel_rfl) rfl rfl
def k_f6_5 : CC := (.seq (.reg r_f6_3) .ret)
def k_f6_4 : CC := (.cond (tm 22) k_f6_5 .skip)
def k_f6_3 : CC := (.seq (.reg r_f6_2) k_f6_4)
def k_f6_2 : CC := (.seq (.reg r_f6_1) k_f6_3)
def k_f6_9 : CC := (.seq (.reg r_f6_5) .ret)
def k_f6_8 : CC := (.cond (tm 32) k_f6_9 .skip)
def k_f6_7 : CC := (.seq (.reg r_f6_4) k_f6_8)
def k_f6_17 : CC := (.cond (tm 37) .skip (.exit 0))
def k_f6_21 : CC := (.reg r_f6_10)
def k_f6_20 : CC := (.seq (.reg r_f6_9) k_f6_21)
def k_f6_19 : CC := (.block 1 k_f6_20)
def k_f6_22 : CC := (.reg r_f6_11)
def k_f6_18 : CC := (.seq k_f6_19 k_f6_22)
def k_f6_16 : CC := (.seq k_f6_17 k_f6_18)
def k_f6_15 : CC := (.seq (.reg r_f6_8) k_f6_16)
def k_f6_14 : CC := (.loop k_f6_15)
def k_f6_13 : CC := (.block 0 k_f6_14)
def k_f6_12 : CC := (.seq (.reg r_f6_7) k_f6_13)
def k_f6_23 : CC := (.seq (.reg r_f6_12) .ret)
def k_f6_11 : CC := (.seq k_f6_12 k_f6_23)
def k_f6_10 : CC := (.seq (.reg r_f6_6) k_f6_11)
def k_f6_6 : CC := (.seq k_f6_7 k_f6_10)
def k_f6_1 : CC := (.seq k_f6_2 k_f6_6)
def c_f6 : CC := (.seq (.reg r_f6_0) k_f6_1)
theorem o_f6 : Kq k_f6_5 (.seq (.reg r_f6_3) .ret) ∧
  Kq k_f6_4 (.cond (tm 22) k_f6_5 .skip) ∧
  Kq k_f6_3 (.seq (.reg r_f6_2) k_f6_4) ∧
  Kq k_f6_2 (.seq (.reg r_f6_1) k_f6_3) ∧
  Kq k_f6_9 (.seq (.reg r_f6_5) .ret) ∧
  Kq k_f6_8 (.cond (tm 32) k_f6_9 .skip) ∧
  Kq k_f6_7 (.seq (.reg r_f6_4) k_f6_8) ∧
  Kq k_f6_17 (.cond (tm 37) .skip (.exit 0)) ∧
  Kq k_f6_21 (.reg r_f6_10) ∧
  Kq k_f6_20 (.seq (.reg r_f6_9) k_f6_21) ∧
  Kq k_f6_19 (.block 1 k_f6_20) ∧
  Kq k_f6_22 (.reg r_f6_11) ∧
  Kq k_f6_18 (.seq k_f6_19 k_f6_22) ∧
  Kq k_f6_16 (.seq k_f6_17 k_f6_18) ∧
  Kq k_f6_15 (.seq (.reg r_f6_8) k_f6_16) ∧
  Kq k_f6_14 (.loop k_f6_15) ∧
  Kq k_f6_13 (.block 0 k_f6_14) ∧
  Kq k_f6_12 (.seq (.reg r_f6_7) k_f6_13) ∧
  Kq k_f6_23 (.seq (.reg r_f6_12) .ret) ∧
  Kq k_f6_11 (.seq k_f6_12 k_f6_23) ∧
  Kq k_f6_10 (.seq (.reg r_f6_6) k_f6_11) ∧
  Kq k_f6_6 (.seq k_f6_7 k_f6_10) ∧
  Kq k_f6_1 (.seq k_f6_2 k_f6_6) ∧
  Kq c_f6 (.seq (.reg r_f6_0) k_f6_1) := ⟨kr, kr, kr, kr, kr, kr, kr, kr, kr, kr, kr, kr, kr, kr, kr, kr, kr, kr, kr, kr, kr, kr, kr, kr⟩
theorem at_f6 : FnAt Tryz.prog tb fn_f6 c_f6 51 [.tmp 8, .tmp 9] := fnAt_of tb_fs Tryz.func99 rfl (by kernel_rfl) (by kernel_rfl) rfl rfl
def k_a5_6 : CC := (.cond (tm 16) .skip (.exit 0))
def k_a5_5 : CC := (.seq (.reg r_a5_1) k_a5_6)
def k_a5_12 : CC := (.seq (.reg r_a5_4) .ret)
def k_a5_11 : CC := (.cond (tm 30) k_a5_12 .skip)
def k_a5_10 : CC := (.seq (.reg r_a5_3) k_a5_11)
def k_a5_18 : CC := (.seq (.reg r_a5_8) .ret)
def k_a5_17 : CC := (.cond (tm 54) k_a5_18 .skip)
def k_a5_16 : CC := (.seq (.reg r_a5_7) k_a5_17)
def k_a5_19 : CC := (.reg r_a5_9)
def k_a5_15 : CC := (.seq k_a5_16 k_a5_19)
def k_a5_14 : CC := (.seq (.reg r_a5_6) k_a5_15)
def k_a5_13 : CC := (.seq (.drawn r_a5_5 [ (2, 0) , (5, 0) ]) k_a5_14)
def k_a5_9 : CC := (.seq k_a5_10 k_a5_13)
def k_a5_8 : CC := (.seq (.drawn r_a5_2 [ (2, 0) , (5, 0) ]) k_a5_9)
def k_a5_7 : CC := (.block 1 k_a5_8)
def k_a5_4 : CC := (.seq k_a5_5 k_a5_7)
def k_a5_3 : CC := (.loop k_a5_4)
def k_a5_2 : CC := (.block 0 k_a5_3)
def k_a5_20 : CC := (.seq (.reg r_a5_10) .ret)
def k_a5_1 : CC := (.seq k_a5_2 k_a5_20)
def c_a5 : CC := (.seq (.reg r_a5_0) k_a5_1)
theorem o_a5 : Kq k_a5_6 (.cond (tm 16) .skip (.exit 0)) ∧
  Kq k_a5_5 (.seq (.reg r_a5_1) k_a5_6) ∧
  Kq k_a5_12 (.seq (.reg r_a5_4) .ret) ∧
  Kq k_a5_11 (.cond (tm 30) k_a5_12 .skip) ∧
  Kq k_a5_10 (.seq (.reg r_a5_3) k_a5_11) ∧
  Kq k_a5_18 (.seq (.reg r_a5_8) .ret) ∧
  Kq k_a5_17 (.cond (tm 54) k_a5_18 .skip) ∧
  Kq k_a5_16 (.seq (.reg r_a5_7) k_a5_17) ∧
  Kq k_a5_19 (.reg r_a5_9) ∧
  Kq k_a5_15 (.seq k_a5_16 k_a5_19) ∧
  Kq k_a5_14 (.seq (.reg r_a5_6) k_a5_15) ∧
  Kq k_a5_13 (.seq (.drawn r_a5_5 [ (2, 0) , (5, 0) ]) k_a5_14) ∧
  Kq k_a5_9 (.seq k_a5_10 k_a5_13) ∧
  Kq k_a5_8 (.seq (.drawn r_a5_2 [ (2, 0) , (5, 0) ]) k_a5_9) ∧
  Kq k_a5_7 (.block 1 k_a5_8) ∧
  Kq k_a5_4 (.seq k_a5_5 k_a5_7) ∧
  Kq k_a5_3 (.loop k_a5_4) ∧
  Kq k_a5_2 (.block 0 k_a5_3) ∧
  Kq k_a5_20 (.seq (.reg r_a5_10) .ret) ∧
  Kq k_a5_1 (.seq k_a5_2 k_a5_20) ∧
  Kq c_a5 (.seq (.reg r_a5_0) k_a5_1) := ⟨kr, kr, kr, kr, kr, kr, kr, kr, kr, kr, kr, kr, kr, kr, kr, kr, kr, kr, kr, kr, kr⟩
theorem at_a5 : FnAt Tryz.prog tb fn_a5 c_a5 63 [.tmp 8, .tmp 9] := fnAt_of tb_fs Tryz.func100 rfl (by kernel_rfl) (by kernel_rfl) rfl rfl
def k_c1_7 : CC := (.cond (tm 15) .skip (.exit 0))
def k_c1_13 : CC := (.seq (.reg r_c1_5) .ret)
def k_c1_12 : CC := (.cond (tm 21) k_c1_13 .skip)
def k_c1_11 : CC := (.seq (.reg r_c1_4) k_c1_12)
def k_c1_10 : CC := (.seq (.reg r_c1_3) k_c1_11)
def k_c1_9 : CC := (.block 1 k_c1_10)
def k_c1_14 : CC := (.reg r_c1_6)
def k_c1_8 : CC := (.seq k_c1_9 k_c1_14)
def k_c1_6 : CC := (.seq k_c1_7 k_c1_8)
def k_c1_5 : CC := (.seq (.reg r_c1_2) k_c1_6)
def k_c1_4 : CC := (.loop k_c1_5)
def k_c1_3 : CC := (.block 0 k_c1_4)
def k_c1_2 : CC := (.seq (.reg r_c1_1) k_c1_3)
def k_c1_15 : CC := (.seq (.reg r_c1_7) .ret)
def k_c1_1 : CC := (.seq k_c1_2 k_c1_15)
def c_c1 : CC := (.seq (.reg r_c1_0) k_c1_1)
theorem o_c1 : Kq k_c1_7 (.cond (tm 15) .skip (.exit 0)) ∧
  Kq k_c1_13 (.seq (.reg r_c1_5) .ret) ∧
  Kq k_c1_12 (.cond (tm 21) k_c1_13 .skip) ∧
  Kq k_c1_11 (.seq (.reg r_c1_4) k_c1_12) ∧
  Kq k_c1_10 (.seq (.reg r_c1_3) k_c1_11) ∧
  Kq k_c1_9 (.block 1 k_c1_10) ∧
  Kq k_c1_14 (.reg r_c1_6) ∧
  Kq k_c1_8 (.seq k_c1_9 k_c1_14) ∧
  Kq k_c1_6 (.seq k_c1_7 k_c1_8) ∧
  Kq k_c1_5 (.seq (.reg r_c1_2) k_c1_6) ∧
  Kq k_c1_4 (.loop k_c1_5) ∧
  Kq k_c1_3 (.block 0 k_c1_4) ∧
  Kq k_c1_2 (.seq (.reg r_c1_1) k_c1_3) ∧
  Kq k_c1_15 (.seq (.reg r_c1_7) .ret) ∧
  Kq k_c1_1 (.seq k_c1_2 k_c1_15) ∧
  Kq c_c1 (.seq (.reg r_c1_0) k_c1_1) := ⟨kr, kr, kr, kr, kr, kr, kr, kr, kr, kr, kr, kr, kr, kr, kr, kr⟩
theorem at_c1 : FnAt Tryz.prog tb fn_c1 c_c1 25 [.tmp 4, .tmp 5] := fnAt_of tb_fs Tryz.func101 rfl (by kernel_rfl) (by kernel_rfl) rfl rfl
def k_b5_5 : CC := (.cond (tm 11) .skip (.exit 0))
def k_b5_9 : CC := (.reg r_b5_3)
def k_b5_8 : CC := (.seq (.reg r_b5_2) k_b5_9)
def k_b5_7 : CC := (.block 1 k_b5_8)
def k_b5_10 : CC := (.reg r_b5_4)
def k_b5_6 : CC := (.seq k_b5_7 k_b5_10)
def k_b5_4 : CC := (.seq k_b5_5 k_b5_6)
def k_b5_3 : CC := (.seq (.reg r_b5_1) k_b5_4)
def k_b5_2 : CC := (.loop k_b5_3)
def k_b5_1 : CC := (.block 0 k_b5_2)
def c_b5 : CC := (.seq (.reg r_b5_0) k_b5_1)
theorem o_b5 : Kq k_b5_5 (.cond (tm 11) .skip (.exit 0)) ∧
  Kq k_b5_9 (.reg r_b5_3) ∧
  Kq k_b5_8 (.seq (.reg r_b5_2) k_b5_9) ∧
  Kq k_b5_7 (.block 1 k_b5_8) ∧
  Kq k_b5_10 (.reg r_b5_4) ∧
  Kq k_b5_6 (.seq k_b5_7 k_b5_10) ∧
  Kq k_b5_4 (.seq k_b5_5 k_b5_6) ∧
  Kq k_b5_3 (.seq (.reg r_b5_1) k_b5_4) ∧
  Kq k_b5_2 (.loop k_b5_3) ∧
  Kq k_b5_1 (.block 0 k_b5_2) ∧
  Kq c_b5 (.seq (.reg r_b5_0) k_b5_1) := ⟨kr, kr, kr, kr, kr, kr, kr, kr, kr, kr, kr⟩
theorem at_b5 : FnAt Tryz.prog tb fn_b5 c_b5 19 [] := fnAt_of tb_fs Tryz.func103 rfl (by kernel_rfl) (by kernel_rfl) rfl rfl
def k_b4_4 : CC := (.reg r_b4_2)
def k_b4_3 : CC := (.cond (tm 24) k_b4_4 .skip)
def k_b4_2 : CC := (.seq (.reg r_b4_1) k_b4_3)
def k_b4_5 : CC := (.reg r_b4_3)
def k_b4_1 : CC := (.seq k_b4_2 k_b4_5)
def c_b4 : CC := (.seq (.reg r_b4_0) k_b4_1)
theorem o_b4 : Kq k_b4_4 (.reg r_b4_2) ∧
  Kq k_b4_3 (.cond (tm 24) k_b4_4 .skip) ∧
  Kq k_b4_2 (.seq (.reg r_b4_1) k_b4_3) ∧
  Kq k_b4_5 (.reg r_b4_3) ∧
  Kq k_b4_1 (.seq k_b4_2 k_b4_5) ∧
  Kq c_b4 (.seq (.reg r_b4_0) k_b4_1) := ⟨kr, kr, kr, kr, kr, kr⟩
theorem at_b4 : FnAt Tryz.prog tb fn_b4 c_b4 38 [] := fnAt_of tb_fs Tryz.func104 rfl (by kernel_rfl) (by kernel_rfl) rfl rfl
def k_b6_4 : CC := (.seq (.drawn r_b6_2 [ (3, 0) ]) .ret)
def k_b6_3 : CC := (.cond (tm 10) k_b6_4 .skip)
def k_b6_2 : CC := (.seq (.reg r_b6_1) k_b6_3)
def k_b6_5 : CC := (.seq (.drawn r_b6_3 [ (3, 0) , (8, 0) ]) .ret)
def k_b6_1 : CC := (.seq k_b6_2 k_b6_5)
def c_b6 : CC := (.seq (.reg r_b6_0) k_b6_1)
theorem o_b6 : Kq k_b6_4 (.seq (.drawn r_b6_2 [ (3, 0) ]) .ret) ∧
  Kq k_b6_3 (.cond (tm 10) k_b6_4 .skip) ∧
  Kq k_b6_2 (.seq (.reg r_b6_1) k_b6_3) ∧
  Kq k_b6_5 (.seq (.drawn r_b6_3 [ (3, 0) , (8, 0) ]) .ret) ∧
  Kq k_b6_1 (.seq k_b6_2 k_b6_5) ∧
  Kq c_b6 (.seq (.reg r_b6_0) k_b6_1) := ⟨kr, kr, kr, kr, kr, kr⟩
theorem at_b6 : FnAt Tryz.prog tb fn_b6 c_b6 27 [.tmp 4, .tmp 5] := fnAt_of tb_fs Tryz.func105 rfl (by kernel_rfl) (by kernel_rfl) rfl rfl
def k_a1_5 : CC := (.seq (.reg r_a1_2) .ret)
def k_a1_8 : CC := (.seq (.reg r_a1_4) .ret)
def k_a1_7 : CC := (.cond (tm 11) k_a1_8 .skip)
def k_a1_6 : CC := (.seq (.reg r_a1_3) k_a1_7)
def k_a1_4 : CC := (.cond (tm 8) k_a1_5 k_a1_6)
def k_a1_3 : CC := (.seq (.reg r_a1_1) k_a1_4)
def k_a1_2 : CC := (.block 0 k_a1_3)
def k_a1_13 : CC := (.seq (.reg r_a1_7) .ret)
def k_a1_12 : CC := (.cond (tm 36) k_a1_13 .skip)
def k_a1_11 : CC := (.seq (.reg r_a1_6) k_a1_12)
def k_a1_10 : CC := (.seq (.reg r_a1_5) k_a1_11)
def k_a1_14 : CC := (.seq (.reg r_a1_8) .ret)
def k_a1_9 : CC := (.seq k_a1_10 k_a1_14)
def k_a1_1 : CC := (.seq k_a1_2 k_a1_9)
def c_a1 : CC := (.seq (.reg r_a1_0) k_a1_1)
theorem o_a1 : Kq k_a1_5 (.seq (.reg r_a1_2) .ret) ∧
  Kq k_a1_8 (.seq (.reg r_a1_4) .ret) ∧
  Kq k_a1_7 (.cond (tm 11) k_a1_8 .skip) ∧
  Kq k_a1_6 (.seq (.reg r_a1_3) k_a1_7) ∧
  Kq k_a1_4 (.cond (tm 8) k_a1_5 k_a1_6) ∧
  Kq k_a1_3 (.seq (.reg r_a1_1) k_a1_4) ∧
  Kq k_a1_2 (.block 0 k_a1_3) ∧
  Kq k_a1_13 (.seq (.reg r_a1_7) .ret) ∧
  Kq k_a1_12 (.cond (tm 36) k_a1_13 .skip) ∧
  Kq k_a1_11 (.seq (.reg r_a1_6) k_a1_12) ∧
  Kq k_a1_10 (.seq (.reg r_a1_5) k_a1_11) ∧
  Kq k_a1_14 (.seq (.reg r_a1_8) .ret) ∧
  Kq k_a1_9 (.seq k_a1_10 k_a1_14) ∧
  Kq k_a1_1 (.seq k_a1_2 k_a1_9) ∧
  Kq c_a1 (.seq (.reg r_a1_0) k_a1_1) := ⟨kr, kr, kr, kr, kr, kr, kr, kr, kr, kr, kr, kr, kr, kr, kr⟩
theorem at_a1 : FnAt Tryz.prog tb fn_a1 c_a1 41 [.tmp 6] := fnAt_of tb_fs Tryz.func106 rfl (by kernel_rfl) (by kernel_rfl) rfl rfl
def k_b3_5 : CC := (.cond (tm 11) .skip (.exit 0))
def k_b3_9 : CC := (.reg r_b3_3)
def k_b3_8 : CC := (.seq (.reg r_b3_2) k_b3_9)
def k_b3_7 : CC := (.block 1 k_b3_8)
def k_b3_10 : CC := (.reg r_b3_4)
def k_b3_6 : CC := (.seq k_b3_7 k_b3_10)
def k_b3_4 : CC := (.seq k_b3_5 k_b3_6)
def k_b3_3 : CC := (.seq (.reg r_b3_1) k_b3_4)
def k_b3_2 : CC := (.loop k_b3_3)
def k_b3_1 : CC := (.block 0 k_b3_2)
def c_b3 : CC := (.seq (.reg r_b3_0) k_b3_1)
theorem o_b3 : Kq k_b3_5 (.cond (tm 11) .skip (.exit 0)) ∧
  Kq k_b3_9 (.reg r_b3_3) ∧
  Kq k_b3_8 (.seq (.reg r_b3_2) k_b3_9) ∧
  Kq k_b3_7 (.block 1 k_b3_8) ∧
  Kq k_b3_10 (.reg r_b3_4) ∧
  Kq k_b3_6 (.seq k_b3_7 k_b3_10) ∧
  Kq k_b3_4 (.seq k_b3_5 k_b3_6) ∧
  Kq k_b3_3 (.seq (.reg r_b3_1) k_b3_4) ∧
  Kq k_b3_2 (.loop k_b3_3) ∧
  Kq k_b3_1 (.block 0 k_b3_2) ∧
  Kq c_b3 (.seq (.reg r_b3_0) k_b3_1) := ⟨kr, kr, kr, kr, kr, kr, kr, kr, kr, kr, kr⟩
theorem at_b3 : FnAt Tryz.prog tb fn_b3 c_b3 20 [] := fnAt_of tb_fs Tryz.func107 rfl (by kernel_rfl) (by kernel_rfl) rfl rfl
def k_b2_3 : CC := (.seq (.reg r_b2_3) .ret)
def k_b2_2 : CC := (.seq (.reg r_b2_2) k_b2_3)
def k_b2_1 : CC := (.seq (.drawn r_b2_1 [ (3, 0) , (7, 0) ]) k_b2_2)
def c_b2 : CC := (.seq (.reg r_b2_0) k_b2_1)
theorem o_b2 : Kq k_b2_3 (.seq (.reg r_b2_3) .ret) ∧
  Kq k_b2_2 (.seq (.reg r_b2_2) k_b2_3) ∧
  Kq k_b2_1 (.seq (.drawn r_b2_1 [ (3, 0) , (7, 0) ]) k_b2_2) ∧
  Kq c_b2 (.seq (.reg r_b2_0) k_b2_1) := ⟨kr, kr, kr, kr⟩
theorem at_b2 : FnAt Tryz.prog tb fn_b2 c_b2 29 [.tmp 4] := fnAt_of tb_fs Tryz.func108 rfl (by kernel_rfl) (by kernel_rfl) rfl rfl
def k_f4_5 : CC := (.seq (.reg r_f4_3) .ret)
def k_f4_4 : CC := (.seq (.reg r_f4_2) k_f4_5)
def k_f4_3 : CC := (.cond (tm 18) k_f4_4 .skip)
def k_f4_2 : CC := (.seq (.reg r_f4_1) k_f4_3)
def k_f4_6 : CC := (.seq (.reg r_f4_4) .ret)
def k_f4_1 : CC := (.seq k_f4_2 k_f4_6)
def c_f4 : CC := (.seq (.reg r_f4_0) k_f4_1)
theorem o_f4 : Kq k_f4_5 (.seq (.reg r_f4_3) .ret) ∧
  Kq k_f4_4 (.seq (.reg r_f4_2) k_f4_5) ∧
  Kq k_f4_3 (.cond (tm 18) k_f4_4 .skip) ∧
  Kq k_f4_2 (.seq (.reg r_f4_1) k_f4_3) ∧
  Kq k_f4_6 (.seq (.reg r_f4_4) .ret) ∧
  Kq k_f4_1 (.seq k_f4_2 k_f4_6) ∧
  Kq c_f4 (.seq (.reg r_f4_0) k_f4_1) := ⟨kr, kr, kr, kr, kr, kr, kr⟩
theorem at_f4 : FnAt Tryz.prog tb fn_f4 c_f4 21 [.cell 8 ty_api_Inode, .tmp 9] := fnAt_of tb_fs Tryz.func109 rfl (by kernel_rfl) (by kernel_rfl) rfl rfl
def k_d4_5 : CC := (.seq (.reg r_d4_2) .ret)
def k_d4_8 : CC := (.seq (.reg r_d4_4) .ret)
def k_d4_7 : CC := (.cond (tm 6) k_d4_8 .skip)
def k_d4_6 : CC := (.seq (.reg r_d4_3) k_d4_7)
def k_d4_4 : CC := (.cond (tm 3) k_d4_5 k_d4_6)
def k_d4_3 : CC := (.seq (.reg r_d4_1) k_d4_4)
def k_d4_2 : CC := (.block 0 k_d4_3)
def k_d4_9 : CC := (.seq (.reg r_d4_5) .ret)
def k_d4_1 : CC := (.seq k_d4_2 k_d4_9)
def c_d4 : CC := (.seq (.reg r_d4_0) k_d4_1)
theorem o_d4 : Kq k_d4_5 (.seq (.reg r_d4_2) .ret) ∧
  Kq k_d4_8 (.seq (.reg r_d4_4) .ret) ∧
  Kq k_d4_7 (.cond (tm 6) k_d4_8 .skip) ∧
  Kq k_d4_6 (.seq (.reg r_d4_3) k_d4_7) ∧
  Kq k_d4_4 (.cond (tm 3) k_d4_5 k_d4_6) ∧
  Kq k_d4_3 (.seq (.reg r_d4_1) k_d4_4) ∧
  Kq k_d4_2 (.block 0 k_d4_3) ∧
  Kq k_d4_9 (.seq (.reg r_d4_5) .ret) ∧
  Kq k_d4_1 (.seq k_d4_2 k_d4_9) ∧
  Kq c_d4 (.seq (.reg r_d4_0) k_d4_1) := ⟨kr, kr, kr, kr, kr, kr, kr, kr, kr, kr⟩
theorem at_d4 : FnAt Tryz.prog tb fn_d4 c_d4 16 [.tmp 2] := fnAt_of tb_fs Tryz.func110 rfl (by kernel_rfl) (by kernel_rfl) rfl rfl
def k_a9_4 : CC := (.seq (.reg r_a9_2) .ret)
def k_a9_3 : CC := (.cond (tm 4) k_a9_4 .skip)
def k_a9_2 : CC := (.seq (.reg r_a9_1) k_a9_3)
def k_a9_5 : CC := (.seq (.reg r_a9_3) .ret)
def k_a9_1 : CC := (.seq k_a9_2 k_a9_5)
def c_a9 : CC := (.seq (.reg r_a9_0) k_a9_1)
theorem o_a9 : Kq k_a9_4 (.seq (.reg r_a9_2) .ret) ∧
  Kq k_a9_3 (.cond (tm 4) k_a9_4 .skip) ∧
  Kq k_a9_2 (.seq (.reg r_a9_1) k_a9_3) ∧
  Kq k_a9_5 (.seq (.reg r_a9_3) .ret) ∧
  Kq k_a9_1 (.seq k_a9_2 k_a9_5) ∧
  Kq c_a9 (.seq (.reg r_a9_0) k_a9_1) := ⟨kr, kr, kr, kr, kr, kr⟩
theorem at_a9 : FnAt Tryz.prog tb fn_a9 c_a9 8 [.tmp 2] := fnAt_of tb_fs Tryz.func120 rfl (by kernel_rfl) (by kernel_rfl) rfl rfl
def k_c4_4 : CC := (.seq (.reg r_c4_2) .ret)
def k_c4_3 : CC := (.cond (tm 7) k_c4_4 .skip)
def k_c4_2 : CC := (.seq (.reg r_c4_1) k_c4_3)
def k_c4_12 : CC := (.cond (tm 16) .skip (.exit 0))
def k_c4_16 : CC := (.reg r_c4_7)
def k_c4_15 : CC := (.seq (.reg r_c4_6) k_c4_16)
def k_c4_14 : CC := (.block 1 k_c4_15)
def k_c4_17 : CC := (.reg r_c4_8)
def k_c4_13 : CC := (.seq k_c4_14 k_c4_17)
def k_c4_11 : CC := (.seq k_c4_12 k_c4_13)
def k_c4_10 : CC := (.seq (.reg r_c4_5) k_c4_11)
def k_c4_9 : CC := (.loop k_c4_10)
def k_c4_8 : CC := (.block 0 k_c4_9)
def k_c4_7 : CC := (.seq (.reg r_c4_4) k_c4_8)
def k_c4_18 : CC := (.seq (.reg r_c4_9) .ret)
def k_c4_6 : CC := (.seq k_c4_7 k_c4_18)
def k_c4_5 : CC := (.seq (.reg r_c4_3) k_c4_6)
def k_c4_1 : CC := (.seq k_c4_2 k_c4_5)
def c_c4 : CC := (.seq (.reg r_c4_0) k_c4_1)
theorem o_c4 : Kq k_c4_4 (.seq (.reg r_c4_2) .ret) ∧
  Kq k_c4_3 (.cond (tm 7) k_c4_4 .skip) ∧
  Kq k_c4_2 (.seq (.reg r_c4_1) k_c4_3) ∧
  Kq k_c4_12 (.cond (tm 16) .skip (.exit 0)) ∧
  Kq k_c4_16 (.reg r_c4_7) ∧
  Kq k_c4_15 (.seq (.reg r_c4_6) k_c4_16) ∧
  Kq k_c4_14 (.block 1 k_c4_15) ∧
  Kq k_c4_17 (.reg r_c4_8) ∧
  Kq k_c4_13 (.seq k_c4_14 k_c4_17) ∧
  Kq k_c4_11 (.seq k_c4_12 k_c4_13) ∧
  Kq k_c4_10 (.seq (.reg r_c4_5) k_c4_11) ∧
  Kq k_c4_9 (.loop k_c4_10) ∧
  Kq k_c4_8 (.block 0 k_c4_9) ∧
  Kq k_c4_7 (.seq (.reg r_c4_4) k_c4_8) ∧
  Kq k_c4_18 (.seq (.reg r_c4_9) .ret) ∧
  Kq k_c4_6 (.seq k_c4_7 k_c4_18) ∧
  Kq k_c4_5 (.seq (.reg r_c4_3) k_c4_6) ∧
  Kq k_c4_1 (.seq k_c4_2 k_c4_5) ∧
  Kq c_c4 (.seq (.reg r_c4_0) k_c4_1) := ⟨kr, kr, kr, kr, kr, kr, kr, kr, kr, kr, kr, kr, kr, kr, kr, kr, kr, kr, kr⟩
theorem at_c4 : FnAt Tryz.prog tb fn_c4 c_c4 33 [.tmp 2] := fnAt_of tb_fs Tryz.func122 rfl (by kernel_rfl) (by kernel_rfl) rfl rfl
def k_c0_5 : CC := (.seq (.reg r_c0_2) .ret)
def k_c0_8 : CC := (.seq (.reg r_c0_4) .ret)
def k_c0_7 : CC := (.cond (tm 13) k_c0_8 .skip)
def k_c0_6 : CC := (.seq (.reg r_c0_3) k_c0_7)
def k_c0_4 : CC := (.cond (tm 10) k_c0_5 k_c0_6)
def k_c0_3 : CC := (.seq (.reg r_c0_1) k_c0_4)
def k_c0_2 : CC := (.block 0 k_c0_3)
def k_c0_13 : CC := (.seq (.reg r_c0_7) .ret)
def k_c0_12 : CC := (.cond (tm 34) k_c0_13 .skip)
def k_c0_11 : CC := (.seq (.reg r_c0_6) k_c0_12)
def k_c0_10 : CC := (.seq (.reg r_c0_5) k_c0_11)
def k_c0_18 : CC := (.seq (.reg r_c0_10) .ret)
def k_c0_17 : CC := (.cond (tm 43) k_c0_18 .skip)
def k_c0_16 : CC := (.seq (.reg r_c0_9) k_c0_17)
def k_c0_15 : CC := (.seq (.reg r_c0_8) k_c0_16)
def k_c0_19 : CC := (.seq (.reg r_c0_11) .ret)
def k_c0_14 : CC := (.seq k_c0_15 k_c0_19)
def k_c0_9 : CC := (.seq k_c0_10 k_c0_14)
def k_c0_1 : CC := (.seq k_c0_2 k_c0_9)
def c_c0 : CC := (.seq (.reg r_c0_0) k_c0_1)
theorem o_c0 : Kq k_c0_5 (.seq (.reg r_c0_2) .ret) ∧
  Kq k_c0_8 (.seq (.reg r_c0_4) .ret) ∧
  Kq k_c0_7 (.cond (tm 13) k_c0_8 .skip) ∧
  Kq k_c0_6 (.seq (.reg r_c0_3) k_c0_7) ∧
  Kq k_c0_4 (.cond (tm 10) k_c0_5 k_c0_6) ∧
  Kq k_c0_3 (.seq (.reg r_c0_1) k_c0_4) ∧
  Kq k_c0_2 (.block 0 k_c0_3) ∧
  Kq k_c0_13 (.seq (.reg r_c0_7) .ret) ∧
  Kq k_c0_12 (.cond (tm 34) k_c0_13 .skip) ∧
  Kq k_c0_11 (.seq (.reg r_c0_6) k_c0_12) ∧
  Kq k_c0_10 (.seq (.reg r_c0_5) k_c0_11) ∧
  Kq k_c0_18 (.seq (.reg r_c0_10) .ret) ∧
  Kq k_c0_17 (.cond (tm 43) k_c0_18 .skip) ∧
  Kq k_c0_16 (.seq (.reg r_c0_9) k_c0_17) ∧
  Kq k_c0_15 (.seq (.reg r_c0_8) k_c0_16) ∧
  Kq k_c0_19 (.seq (.reg r_c0_11) .ret) ∧
  Kq k_c0_14 (.seq k_c0_15 k_c0_19) ∧
  Kq k_c0_9 (.seq k_c0_10 k_c0_14) ∧
  Kq k_c0_1 (.seq k_c0_2 k_c0_9) ∧
  Kq c_c0 (.seq (.reg r_c0_0) k_c0_1) := ⟨kr, kr, kr, kr, kr, kr, kr, kr, kr, kr, kr, kr, kr, kr, kr, kr, kr, kr, kr, kr⟩
theorem at_c0 : FnAt Tryz.prog tb fn_c0 c_c0 53 [.tmp 4, .tmp 5] := fnAt_of tb_fs Tryz.func125 rfl (by kernel_rfl) (by kernel_rfl) rfl rfl
def k_c5_1 : CC := (.seq (.reg r_c5_1) .ret)
def c_c5 : CC := (.seq (.reg r_c5_0) k_c5_1)
theorem o_c5 : Kq k_c5_1 (.seq (.reg r_c5_1) .ret) ∧
  Kq c_c5 (.seq (.reg r_c5_0) k_c5_1) := ⟨kr, kr⟩
theorem at_c5 : FnAt Tryz.prog tb fn_c5 c_c5 11 [.tmp 6] := fnAt_of tb_fs Tryz.func126 rfl (by kernel_rfl) (by kernel_rfl) rfl rfl
def k_c2_7 : CC := (.cond (tm 9) .skip (.exit 0))
def k_c2_13 : CC := (.seq (.reg r_c2_5) .ret)
def k_c2_12 : CC := (.cond (tm 16) k_c2_13 .skip)
def k_c2_11 : CC := (.seq (.reg r_c2_4) k_c2_12)
def k_c2_10 : CC := (.seq (.reg r_c2_3) k_c2_11)
def k_c2_9 : CC := (.block 1 k_c2_10)
def k_c2_14 : CC := (.reg r_c2_6)
def k_c2_8 : CC := (.seq k_c2_9 k_c2_14)
def k_c2_6 : CC := (.seq k_c2_7 k_c2_8)
def k_c2_5 : CC := (.seq (.reg r_c2_2) k_c2_6)
def k_c2_4 : CC := (.loop k_c2_5)
def k_c2_3 : CC := (.block 0 k_c2_4)
def k_c2_2 : CC := (.seq (.reg r_c2_1) k_c2_3)
def k_c2_15 : CC := (.seq (.reg r_c2_7) .ret)
def k_c2_1 : CC := (.seq k_c2_2 k_c2_15)
def c_c2 : CC := (.seq (.reg r_c2_0) k_c2_1)
theorem o_c2 : Kq k_c2_7 (.cond (tm 9) .skip (.exit 0)) ∧
  Kq k_c2_13 (.seq (.reg r_c2_5) .ret) ∧
  Kq k_c2_12 (.cond (tm 16) k_c2_13 .skip) ∧
  Kq k_c2_11 (.seq (.reg r_c2_4) k_c2_12) ∧
  Kq k_c2_10 (.seq (.reg r_c2_3) k_c2_11) ∧
  Kq k_c2_9 (.block 1 k_c2_10) ∧
  Kq k_c2_14 (.reg r_c2_6) ∧
  Kq k_c2_8 (.seq k_c2_9 k_c2_14) ∧
  Kq k_c2_6 (.seq k_c2_7 k_c2_8) ∧
  Kq k_c2_5 (.seq (.reg r_c2_2) k_c2_6) ∧
  Kq k_c2_4 (.loop k_c2_5) ∧
  Kq k_c2_3 (.block 0 k_c2_4) ∧
  Kq k_c2_2 (.seq (.reg r_c2_1) k_c2_3) ∧
  Kq k_c2_15 (.seq (.reg r_c2_7) .ret) ∧
  Kq k_c2_1 (.seq k_c2_2 k_c2_15) ∧
  Kq c_c2 (.seq (.reg r_c2_0) k_c2_1) := ⟨kr, kr, kr, kr, kr, kr, kr, kr, kr, kr, kr, kr, kr, kr, kr, kr⟩
theorem at_c2 : FnAt Tryz.prog tb fn_c2 c_c2 19 [.tmp 4] := fnAt_of tb_fs Tryz.func127 rfl (by kernel_rfl) (by kernel_rfl) rfl rfl
def k_d3_2 : CC := (.reg r_d3_2)
def k_d3_1 : CC := (.seq (.reg r_d3_1) k_d3_2)
def c_d3 : CC := (.seq (.reg r_d3_0) k_d3_1)
theorem o_d3 : Kq k_d3_2 (.reg r_d3_2) ∧
  Kq k_d3_1 (.seq (.reg r_d3_1) k_d3_2) ∧
  Kq c_d3 (.seq (.reg r_d3_0) k_d3_1) := ⟨kr, kr, kr⟩
theorem at_d3 : FnAt Tryz.prog tb fn_d3 c_d3 19 [] := fnAt_of tb_fs Tryz.func145 rfl (by kernel_rfl) (by kernel_rfl) rfl rfl
def k_f7_9 : CC := (.reg r_f7_4)
def k_f7_8 : CC := (.cond (tm 11) .skip k_f7_9)
def k_f7_7 : CC := (.seq (.reg r_f7_3) k_f7_8)
def k_f7_6 : CC := (.cond (tm 11) .skip k_f7_7)
def k_f7_5 : CC := (.seq (.reg r_f7_2) k_f7_6)
def k_f7_15 : CC := (.seq (.reg r_f7_7) .ret)
def k_f7_14 : CC := (.cond (tm 23) k_f7_15 .skip)
def k_f7_13 : CC := (.seq (.reg r_f7_6) k_f7_14)
def k_f7_16 : CC := (.seq (.reg r_f7_8) .ret)
def k_f7_12 : CC := (.seq k_f7_13 k_f7_16)
def k_f7_11 : CC := (.seq (.reg r_f7_5) k_f7_12)
def k_f7_10 : CC := (.cond (tm 11) k_f7_11 .skip)
def k_f7_4 : CC := (.seq k_f7_5 k_f7_10)
def k_f7_3 : CC := (.block 0 k_f7_4)
def k_f7_2 : CC := (.seq (.reg r_f7_1) k_f7_3)
def k_f7_17 : CC := (.seq (.reg r_f7_9) .ret)
def k_f7_1 : CC := (.seq k_f7_2 k_f7_17)
def c_f7 : CC := (.seq (.reg r_f7_0) k_f7_1)
theorem o_f7 : Kq k_f7_9 (.reg r_f7_4) ∧
  Kq k_f7_8 (.cond (tm 11) .skip k_f7_9) ∧
  Kq k_f7_7 (.seq (.reg r_f7_3) k_f7_8) ∧
  Kq k_f7_6 (.cond (tm 11) .skip k_f7_7) ∧
  Kq k_f7_5 (.seq (.reg r_f7_2) k_f7_6) ∧
  Kq k_f7_15 (.seq (.reg r_f7_7) .ret) ∧
  Kq k_f7_14 (.cond (tm 23) k_f7_15 .skip) ∧
  Kq k_f7_13 (.seq (.reg r_f7_6) k_f7_14) ∧
  Kq k_f7_16 (.seq (.reg r_f7_8) .ret) ∧
  Kq k_f7_12 (.seq k_f7_13 k_f7_16) ∧
  Kq k_f7_11 (.seq (.reg r_f7_5) k_f7_12) ∧
  Kq k_f7_10 (.cond (tm 11) k_f7_11 .skip) ∧
  Kq k_f7_4 (.seq k_f7_5 k_f7_10) ∧
  Kq k_f7_3 (.block 0 k_f7_4) ∧
  Kq k_f7_2 (.seq (.reg r_f7_1) k_f7_3) ∧
  Kq k_f7_17 (.seq (.reg r_f7_9) .ret) ∧
  Kq k_f7_1 (.seq k_f7_2 k_f7_17) ∧
  Kq c_f7 (.seq (.reg r_f7_0) k_f7_1) := ⟨kr, kr, kr, kr, kr, kr, kr, kr, kr, kr, kr, kr, kr, kr, kr, kr, kr, kr⟩
theorem at_f7 : FnAt Tryz.prog tb fn_f7 c_f7 25 [.tmp 6, .tmp 7] := fnAt_of tb_fs Tryz.func146 rfl (by kernel_rfl) (by kernel_rfl) rfl rfl
def k_a2_1 : CC := (.seq (.reg r_a2_1) .ret)
def c_a2 : CC := (.seq (.reg r_a2_0) k_a2_1)
theorem o_a2 : Kq k_a2_1 (.seq (.reg r_a2_1) .ret) ∧
  Kq c_a2 (.seq (.reg r_a2_0) k_a2_1) := ⟨kr, kr⟩
theorem at_a2 : FnAt Tryz.prog tb fn_a2 c_a2 4 [.tmp 2] := fnAt_of tb_fs Tryz.func147 rfl (by kernel_rfl) (by kernel_rfl) rfl rfl
def k_a7_5 : CC := (.seq (.reg r_a7_3) .ret)
def k_a7_4 : CC := (.cond (tm 24) k_a7_5 .skip)
def k_a7_3 : CC := (.seq (.reg r_a7_2) k_a7_4)
def k_a7_7 : CC := (.seq (.drawn r_a7_5 [ (2, 0) , (5, 0) ]) .ret)
def k_a7_6 : CC := (.seq (.reg r_a7_4) k_a7_7)
def k_a7_2 : CC := (.seq k_a7_3 k_a7_6)
def k_a7_1 : CC := (.seq (.drawn r_a7_1 [ (2, 0) , (5, 0) ]) k_a7_2)
def c_a7 : CC := (.seq (.reg r_a7_0) k_a7_1)
theorem o_a7 : Kq k_a7_5 (.seq (.reg r_a7_3) .ret) ∧
  Kq k_a7_4 (.cond (tm 24) k_a7_5 .skip) ∧
  Kq k_a7_3 (.seq (.reg r_a7_2) k_a7_4) ∧
  Kq k_a7_7 (.seq (.drawn r_a7_5 [ (2, 0) , (5, 0) ]) .ret) ∧
  Kq k_a7_6 (.seq (.reg r_a7_4) k_a7_7) ∧
  Kq k_a7_2 (.seq k_a7_3 k_a7_6) ∧
  Kq k_a7_1 (.seq (.drawn r_a7_1 [ (2, 0) , (5, 0) ]) k_a7_2) ∧
  Kq c_a7 (.seq (.reg r_a7_0) k_a7_1) := ⟨kr, kr, kr, kr, kr, kr, kr, kr⟩
theorem at_a7 : FnAt Tryz.prog tb fn_a7 c_a7 46 [.tmp 8] := fnAt_of tb_fs Tryz.func148 rfl (by kernel_rfl) (by kernel_rfl) rfl rfl
def k_cr_bits_First_0_4 : CC := (.seq (.reg r_e7_5) .ret)
def k_cr_bits_First_0_3 : CC := (.cond (tm 17) k_cr_bits_First_0_4 .skip)
def k_cr_bits_First_0_2 : CC := (.seq (.reg r_e7_4) k_cr_bits_First_0_3)
def k_cr_bits_First_0_7 : CC := (.cond (tm 20) (.goto 1) .skip)
def k_cr_bits_First_0_6 : CC := (.seq (.reg r_e7_6) k_cr_bits_First_0_7)
def k_cr_bits_First_0_12 : CC := (.seq (.reg r_e7_8) .ret)
def k_cr_bits_First_0_11 : CC := (.cond (tm 30) k_cr_bits_First_0_12 .skip)
def k_cr_bits_First_0_10 : CC := (.seq (.reg r_e7_7) k_cr_bits_First_0_11)
def k_cr_bits_First_0_18 : CC := (.cond (tm 39) (.goto 2) .skip)
def k_cr_bits_First_0_17 : CC := (.seq (.reg r_e7_10) k_cr_bits_First_0_18)
def k_cr_bits_First_0_19 : CC := (.seq (.reg r_e7_11) (.goto 0))
def k_cr_bits_First_0_16 : CC := (.seq k_cr_bits_First_0_17 k_cr_bits_First_0_19)
def k_cr_bits_First_0_15 : CC := (.seq .skip k_cr_bits_First_0_16)
def k_cr_bits_First_0_14 : CC := (.seq (.goto 0) k_cr_bits_First_0_15)
def k_cr_bits_First_0_13 : CC := (.seq (.reg r_e7_9) k_cr_bits_First_0_14)
def k_cr_bits_First_0_9 : CC := (.seq k_cr_bits_First_0_10 k_cr_bits_First_0_13)
def k_cr_bits_First_0_8 : CC := (.seq .skip k_cr_bits_First_0_9)
def k_cr_bits_First_0_5 : CC := (.seq k_cr_bits_First_0_6 k_cr_bits_First_0_8)
def k_cr_bits_First_0_1 : CC := (.seq k_cr_bits_First_0_2 k_cr_bits_First_0_5)
theorem o_cr_bits_First_0 : Kq k_cr_bits_First_0_4 (.seq (.reg r_e7_5) .ret) ∧
  Kq k_cr_bits_First_0_3 (.cond (tm 17) k_cr_bits_First_0_4 .skip) ∧
  Kq k_cr_bits_First_0_2 (.seq (.reg r_e7_4) k_cr_bits_First_0_3) ∧
  Kq k_cr_bits_First_0_7 (.cond (tm 20) (.goto 1) .skip) ∧
  Kq k_cr_bits_First_0_6 (.seq (.reg r_e7_6) k_cr_bits_First_0_7) ∧
  Kq k_cr_bits_First_0_12 (.seq (.reg r_e7_8) .ret) ∧
  Kq k_cr_bits_First_0_11 (.cond (tm 30) k_cr_bits_First_0_12 .skip) ∧
  Kq k_cr_bits_First_0_10 (.seq (.reg r_e7_7) k_cr_bits_First_0_11) ∧
  Kq k_cr_bits_First_0_18 (.cond (tm 39) (.goto 2) .skip) ∧
  Kq k_cr_bits_First_0_17 (.seq (.reg r_e7_10) k_cr_bits_First_0_18) ∧
  Kq k_cr_bits_First_0_19 (.seq (.reg r_e7_11) (.goto 0)) ∧
  Kq k_cr_bits_First_0_16 (.seq k_cr_bits_First_0_17 k_cr_bits_First_0_19) ∧
  Kq k_cr_bits_First_0_15 (.seq .skip k_cr_bits_First_0_16) ∧
  Kq k_cr_bits_First_0_14 (.seq (.goto 0) k_cr_bits_First_0_15) ∧
  Kq k_cr_bits_First_0_13 (.seq (.reg r_e7_9) k_cr_bits_First_0_14) ∧
  Kq k_cr_bits_First_0_9 (.seq k_cr_bits_First_0_10 k_cr_bits_First_0_13) ∧
  Kq k_cr_bits_First_0_8 (.seq .skip k_cr_bits_First_0_9) ∧
  Kq k_cr_bits_First_0_5 (.seq k_cr_bits_First_0_6 k_cr_bits_First_0_8) ∧
  Kq k_cr_bits_First_0_1 (.seq k_cr_bits_First_0_2 k_cr_bits_First_0_5) ∧
  Kq cr_bits_First_0 (.seq .skip k_cr_bits_First_0_1) := ⟨kr, kr, kr, kr, kr, kr, kr, kr, kr, kr, kr, kr, kr, kr, kr, kr, kr, kr, kr, kr⟩
def k_cr_bits_First_2_4 : CC := (.seq (.reg r_e7_8) .ret)
def k_cr_bits_First_2_3 : CC := (.cond (tm 30) k_cr_bits_First_2_4 .skip)
def k_cr_bits_First_2_2 : CC := (.seq (.reg r_e7_7) k_cr_bits_First_2_3)
def k_cr_bits_First_2_10 : CC := (.cond (tm 39) (.goto 2) .skip)
def k_cr_bits_First_2_9 : CC := (.seq (.reg r_e7_10) k_cr_bits_First_2_10)
def k_cr_bits_First_2_11 : CC := (.seq (.reg r_e7_11) (.goto 0))
def k_cr_bits_First_2_8 : CC := (.seq k_cr_bits_First_2_9 k_cr_bits_First_2_11)
def k_cr_bits_First_2_7 : CC := (.seq .skip k_cr_bits_First_2_8)
def k_cr_bits_First_2_6 : CC := (.seq (.goto 0) k_cr_bits_First_2_7)
def k_cr_bits_First_2_5 : CC := (.seq (.reg r_e7_9) k_cr_bits_First_2_6)
def k_cr_bits_First_2_1 : CC := (.seq k_cr_bits_First_2_2 k_cr_bits_First_2_5)
theorem o_cr_bits_First_2 : Kq k_cr_bits_First_2_4 (.seq (.reg r_e7_8) .ret) ∧
  Kq k_cr_bits_First_2_3 (.cond (tm 30) k_cr_bits_First_2_4 .skip) ∧
  Kq k_cr_bits_First_2_2 (.seq (.reg r_e7_7) k_cr_bits_First_2_3) ∧
  Kq k_cr_bits_First_2_10 (.cond (tm 39) (.goto 2) .skip) ∧
  Kq k_cr_bits_First_2_9 (.seq (.reg r_e7_10) k_cr_bits_First_2_10) ∧
  Kq k_cr_bits_First_2_11 (.seq (.reg r_e7_11) (.goto 0)) ∧
  Kq k_cr_bits_First_2_8 (.seq k_cr_bits_First_2_9 k_cr_bits_First_2_11) ∧
  Kq k_cr_bits_First_2_7 (.seq .skip k_cr_bits_First_2_8) ∧
  Kq k_cr_bits_First_2_6 (.seq (.goto 0) k_cr_bits_First_2_7) ∧
  Kq k_cr_bits_First_2_5 (.seq (.reg r_e7_9) k_cr_bits_First_2_6) ∧
  Kq k_cr_bits_First_2_1 (.seq k_cr_bits_First_2_2 k_cr_bits_First_2_5) ∧
  Kq cr_bits_First_2 (.seq .skip k_cr_bits_First_2_1) := ⟨kr, kr, kr, kr, kr, kr, kr, kr, kr, kr, kr, kr⟩
def k_cr_bits_First_1_3 : CC := (.cond (tm 39) (.goto 2) .skip)
def k_cr_bits_First_1_2 : CC := (.seq (.reg r_e7_10) k_cr_bits_First_1_3)
def k_cr_bits_First_1_4 : CC := (.seq (.reg r_e7_11) (.goto 0))
def k_cr_bits_First_1_1 : CC := (.seq k_cr_bits_First_1_2 k_cr_bits_First_1_4)
theorem o_cr_bits_First_1 : Kq k_cr_bits_First_1_3 (.cond (tm 39) (.goto 2) .skip) ∧
  Kq k_cr_bits_First_1_2 (.seq (.reg r_e7_10) k_cr_bits_First_1_3) ∧
  Kq k_cr_bits_First_1_4 (.seq (.reg r_e7_11) (.goto 0)) ∧
  Kq k_cr_bits_First_1_1 (.seq k_cr_bits_First_1_2 k_cr_bits_First_1_4) ∧
  Kq cr_bits_First_1 (.seq .skip k_cr_bits_First_1_1) := ⟨kr, kr, kr, kr, kr⟩
def c_e7 : CC := (.seq (.reg r_e7_0) (.scope b_bits_First))
theorem o_e7 : Kq c_e7 (.seq (.reg r_e7_0) (.scope b_bits_First)) := kr
theorem at_e7 : FnAt Tryz.prog tb fn_e7 c_e7 42 [.tmp 6, .tmp 7] := fnAt_of tb_fs Tryz.func149 rfl (by kernel_rfl) (by kernel_rfl) rfl rfl
def k_a6_6 : CC := (.seq (.reg r_a6_3) .ret)
def k_a6_9 : CC := (.seq (.reg r_a6_5) .ret)
def k_a6_8 : CC := (.cond (tm 20) k_a6_9 .skip)
def k_a6_7 : CC := (.seq (.reg r_a6_4) k_a6_8)
def k_a6_5 : CC := (.cond (tm 16) k_a6_6 k_a6_7)
def k_a6_4 : CC := (.seq (.reg r_a6_2) k_a6_5)
def k_a6_3 : CC := (.block 0 k_a6_4)
def k_a6_10 : CC := (.seq (.reg r_a6_6) .ret)
def k_a6_2 : CC := (.seq k_a6_3 k_a6_10)
def k_a6_1 : CC := (.seq (.reg r_a6_1) k_a6_2)
def c_a6 : CC := (.seq (.reg r_a6_0) k_a6_1)
theorem o_a6 : Kq k_a6_6 (.seq (.reg r_a6_3) .ret) ∧
  Kq k_a6_9 (.seq (.reg r_a6_5) .ret) ∧
  Kq k_a6_8 (.cond (tm 20) k_a6_9 .skip) ∧
  Kq k_a6_7 (.seq (.reg r_a6_4) k_a6_8) ∧
  Kq k_a6_5 (.cond (tm 16) k_a6_6 k_a6_7) ∧
  Kq k_a6_4 (.seq (.reg r_a6_2) k_a6_5) ∧
  Kq k_a6_3 (.block 0 k_a6_4) ∧
  Kq k_a6_10 (.seq (.reg r_a6_6) .ret) ∧
  Kq k_a6_2 (.seq k_a6_3 k_a6_10) ∧
  Kq k_a6_1 (.seq (.reg r_a6_1) k_a6_2) ∧
  Kq c_a6 (.seq (.reg r_a6_0) k_a6_1) := ⟨kr, kr, kr, kr, kr, kr, kr, kr, kr, kr, kr⟩
theorem at_a6 : FnAt Tryz.prog tb fn_a6 c_a6 27 [.tmp 6] := fnAt_of tb_fs Tryz.func151 rfl (by kernel_rfl) (by kernel_rfl) rfl rfl
def k_c8_5 : CC := (.seq (.reg r_c8_3) .ret)
def k_c8_4 : CC := (.cond (tm 9) k_c8_5 .skip)
def k_c8_3 : CC := (.seq (.reg r_c8_2) k_c8_4)
def k_c8_2 : CC := (.seq (.reg r_c8_1) k_c8_3)
def k_c8_9 : CC := (.seq (.reg r_c8_5) .ret)
def k_c8_8 : CC := (.cond (tm 32) k_c8_9 .skip)
def k_c8_7 : CC := (.seq (.reg r_c8_4) k_c8_8)
def k_c8_12 : CC := (.seq (.reg r_c8_8) .ret)
def k_c8_11 : CC := (.seq (.reg r_c8_7) k_c8_12)
def k_c8_10 : CC := (.seq (.reg r_c8_6) k_c8_11)
def k_c8_6 : CC := (.seq k_c8_7 k_c8_10)
def k_c8_1 : CC := (.seq k_c8_2 k_c8_6)
def c_c8 : CC := (.seq (.reg r_c8_0) k_c8_1)
theorem o_c8 : Kq k_c8_5 (.seq (.reg r_c8_3) .ret) ∧
  Kq k_c8_4 (.cond (tm 9) k_c8_5 .skip) ∧
  Kq k_c8_3 (.seq (.reg r_c8_2) k_c8_4) ∧
  Kq k_c8_2 (.seq (.reg r_c8_1) k_c8_3) ∧
  Kq k_c8_9 (.seq (.reg r_c8_5) .ret) ∧
  Kq k_c8_8 (.cond (tm 32) k_c8_9 .skip) ∧
  Kq k_c8_7 (.seq (.reg r_c8_4) k_c8_8) ∧
  Kq k_c8_12 (.seq (.reg r_c8_8) .ret) ∧
  Kq k_c8_11 (.seq (.reg r_c8_7) k_c8_12) ∧
  Kq k_c8_10 (.seq (.reg r_c8_6) k_c8_11) ∧
  Kq k_c8_6 (.seq k_c8_7 k_c8_10) ∧
  Kq k_c8_1 (.seq k_c8_2 k_c8_6) ∧
  Kq c_c8 (.seq (.reg r_c8_0) k_c8_1) := ⟨kr, kr, kr, kr, kr, kr, kr, kr, kr, kr, kr, kr, kr⟩
theorem at_c8 : FnAt Tryz.prog tb fn_c8 c_c8 42 [.tmp 4] := fnAt_of tb_fs Tryz.func152 rfl (by kernel_rfl) (by kernel_rfl) rfl rfl
def k_f1_1 : CC := (.seq (.reg r_f1_1) .ret)
def c_f1 : CC := (.seq (.reg r_f1_0) k_f1_1)
theorem o_f1 : Kq k_f1_1 (.seq (.reg r_f1_1) .ret) ∧
  Kq c_f1 (.seq (.reg r_f1_0) k_f1_1) := ⟨kr, kr⟩
theorem at_f1 : FnAt Tryz.prog tb fn_f1 c_f1 10 [.tmp 4] := fnAt_of tb_fs Tryz.func153 rfl (by kernel_rfl) (by kernel_rfl) rfl rfl
def k_c3_1 : CC := (.seq (.reg r_c3_1) .ret)
def c_c3 : CC := (.seq (.reg r_c3_0) k_c3_1)
theorem o_c3 : Kq k_c3_1 (.seq (.reg r_c3_1) .ret) ∧
  Kq c_c3 (.seq (.reg r_c3_0) k_c3_1) := ⟨kr, kr⟩
theorem at_c3 : FnAt Tryz.prog tb fn_c3 c_c3 4 [.tmp 2] := fnAt_of tb_fs Tryz.func167 rfl (by kernel_rfl) (by kernel_rfl) rfl rfl
def k_c6_1 : CC := (.seq (.reg r_c6_1) .ret)
def c_c6 : CC := (.seq (.reg r_c6_0) k_c6_1)
theorem o_c6 : Kq k_c6_1 (.seq (.reg r_c6_1) .ret) ∧
  Kq c_c6 (.seq (.reg r_c6_0) k_c6_1) := ⟨kr, kr⟩
theorem at_c6 : FnAt Tryz.prog tb fn_c6 c_c6 7 [.tmp 2] := fnAt_of tb_fs Tryz.func170 rfl (by kernel_rfl) (by kernel_rfl) rfl rfl
def k_c7_1 : CC := (.seq (.reg r_c7_1) .ret)
def c_c7 : CC := (.seq (.reg r_c7_0) k_c7_1)
theorem o_c7 : Kq k_c7_1 (.seq (.reg r_c7_1) .ret) ∧
  Kq c_c7 (.seq (.reg r_c7_0) k_c7_1) := ⟨kr, kr⟩
theorem at_c7 : FnAt Tryz.prog tb fn_c7 c_c7 5 [.tmp 2] := fnAt_of tb_fs Tryz.func171 rfl (by kernel_rfl) (by kernel_rfl) rfl rfl
def k_f8_4 : CC := (.seq (.reg r_f8_2) .ret)
def k_f8_3 : CC := (.cond (tm 27) k_f8_4 .skip)
def k_f8_2 : CC := (.seq (.reg r_f8_1) k_f8_3)
def k_f8_5 : CC := (.seq (.reg r_f8_3) .ret)
def k_f8_1 : CC := (.seq k_f8_2 k_f8_5)
def c_f8 : CC := (.seq (.reg r_f8_0) k_f8_1)
theorem o_f8 : Kq k_f8_4 (.seq (.reg r_f8_2) .ret) ∧
  Kq k_f8_3 (.cond (tm 27) k_f8_4 .skip) ∧
  Kq k_f8_2 (.seq (.reg r_f8_1) k_f8_3) ∧
  Kq k_f8_5 (.seq (.reg r_f8_3) .ret) ∧
  Kq k_f8_1 (.seq k_f8_2 k_f8_5) ∧
  Kq c_f8 (.seq (.reg r_f8_0) k_f8_1) := ⟨kr, kr, kr, kr, kr, kr⟩
theorem at_f8 : FnAt Tryz.prog tb fn_f8 c_f8 34 [.tmp 6, .tmp 7] := fnAt_of tb_fs Tryz.func191 rfl (by kernel_rfl) (by kernel_rfl) rfl rfl
def k_a3_5 : CC := (.cond (tm 8) .skip (.exit 0))
def k_a3_4 : CC := (.seq (.reg r_a3_1) k_a3_5)
def k_a3_9 : CC := (.cond (tm 18) .ret .skip)
def k_a3_8 : CC := (.seq (.reg r_a3_3) k_a3_9)
def k_a3_7 : CC := (.block 1 k_a3_8)
def k_a3_10 : CC := (.reg r_a3_2)
def k_a3_6 : CC := (.seq k_a3_7 k_a3_10)
def k_a3_3 : CC := (.seq k_a3_4 k_a3_6)
def k_a3_2 : CC := (.loop k_a3_3)
def k_a3_1 : CC := (.block 0 k_a3_2)
def c_a3 : CC := (.seq (.reg r_a3_0) k_a3_1)
theorem o_a3 : Kq k_a3_5 (.cond (tm 8) .skip (.exit 0)) ∧
  Kq k_a3_4 (.seq (.reg r_a3_1) k_a3_5) ∧
  Kq k_a3_9 (.cond (tm 18) .ret .skip) ∧
  Kq k_a3_8 (.seq (.reg r_a3_3) k_a3_9) ∧
  Kq k_a3_7 (.block 1 k_a3_8) ∧
  Kq k_a3_10 (.reg r_a3_2) ∧
  Kq k_a3_6 (.seq k_a3_7 k_a3_10) ∧
  Kq k_a3_3 (.seq k_a3_4 k_a3_6) ∧
  Kq k_a3_2 (.loop k_a3_3) ∧
  Kq k_a3_1 (.block 0 k_a3_2) ∧
  Kq c_a3 (.seq (.reg r_a3_0) k_a3_1) := ⟨kr, kr, kr, kr, kr, kr, kr, kr, kr, kr, kr⟩
theorem at_a3 : FnAt Tryz.prog tb fn_a3 c_a3 19 [] := fnAt_of tb_fs Tryz.func192 rfl (by kernel_rfl) (by kernel_rfl) rfl rfl
def k_e9_4 : CC := (.seq (.reg r_e9_2) .ret)
def k_e9_3 : CC := (.cond (tm 17) k_e9_4 .skip)
def k_e9_2 : CC := (.seq (.reg r_e9_1) k_e9_3)
def k_e9_9 : CC := (.drawn r_e9_5 [ (4, 0) ])
def k_e9_10 : CC := (.drawn r_e9_6 [ (4, 0) ])
def k_e9_8 : CC := (.cond (tm 20) k_e9_9 k_e9_10)
def k_e9_7 : CC := (.seq (.reg r_e9_4) k_e9_8)
def k_e9_11 : CC := (.seq (.reg r_e9_7) .ret)
def k_e9_6 : CC := (.seq k_e9_7 k_e9_11)
def k_e9_5 : CC := (.seq (.reg r_e9_3) k_e9_6)
def k_e9_1 : CC := (.seq k_e9_2 k_e9_5)
def c_e9 : CC := (.seq (.reg r_e9_0) k_e9_1)
theorem o_e9 : Kq k_e9_4 (.seq (.reg r_e9_2) .ret) ∧
  Kq k_e9_3 (.cond (tm 17) k_e9_4 .skip) ∧
  Kq k_e9_2 (.seq (.reg r_e9_1) k_e9_3) ∧
  Kq k_e9_9 (.drawn r_e9_5 [ (4, 0) ]) ∧
  Kq k_e9_10 (.drawn r_e9_6 [ (4, 0) ]) ∧
  Kq k_e9_8 (.cond (tm 20) k_e9_9 k_e9_10) ∧
  Kq k_e9_7 (.seq (.reg r_e9_4) k_e9_8) ∧
  Kq k_e9_11 (.seq (.reg r_e9_7) .ret) ∧
  Kq k_e9_6 (.seq k_e9_7 k_e9_11) ∧
  Kq k_e9_5 (.seq (.reg r_e9_3) k_e9_6) ∧
  Kq k_e9_1 (.seq k_e9_2 k_e9_5) ∧
  Kq c_e9 (.seq (.reg r_e9_0) k_e9_1) := ⟨kr, kr, kr, kr, kr, kr, kr, kr, kr, kr, kr, kr⟩
theorem at_e9 : FnAt Tryz.prog tb fn_e9 c_e9 42 [.tmp 6, .tmp 7] := fnAt_of tb_fs Tryz.func193 rfl (by kernel_rfl) (by kernel_rfl) rfl rfl
def k_f0_1 : CC := (.seq (.reg r_f0_1) .ret)
def c_f0 : CC := (.seq (.reg r_f0_0) k_f0_1)
theorem o_f0 : Kq k_f0_1 (.seq (.reg r_f0_1) .ret) ∧
  Kq c_f0 (.seq (.reg r_f0_0) k_f0_1) := ⟨kr, kr⟩
theorem at_f0 : FnAt Tryz.prog tb fn_f0 c_f0 21 [.tmp 6] := fnAt_of tb_fs Tryz.func194 rfl (by kernel_rfl) (by kernel_rfl) rfl rfl
def k_a4_5 : CC := (.seq (.reg r_a4_3) .ret)
def k_a4_4 : CC := (.cond (tm 23) k_a4_5 .skip)
def k_a4_3 : CC := (.seq (.reg r_a4_2) k_a4_4)
def k_a4_6 : CC := (.seq (.reg r_a4_4) .ret)
def k_a4_2 : CC := (.seq k_a4_3 k_a4_6)
def k_a4_1 : CC := (.seq (.drawn r_a4_1 [ (2, 0) , (5, 0) ]) k_a4_2)
def c_a4 : CC := (.seq (.reg r_a4_0) k_a4_1)
theorem o_a4 : Kq k_a4_5 (.seq (.reg r_a4_3) .ret) ∧
  Kq k_a4_4 (.cond (tm 23) k_a4_5 .skip) ∧
  Kq k_a4_3 (.seq (.reg r_a4_2) k_a4_4) ∧
  Kq k_a4_6 (.seq (.reg r_a4_4) .ret) ∧
  Kq k_a4_2 (.seq k_a4_3 k_a4_6) ∧
  Kq k_a4_1 (.seq (.drawn r_a4_1 [ (2, 0) , (5, 0) ]) k_a4_2) ∧
  Kq c_a4 (.seq (.reg r_a4_0) k_a4_1) := ⟨kr, kr, kr, kr, kr, kr, kr⟩
theorem at_a4 : FnAt Tryz.prog tb fn_a4 c_a4 33 [.tmp 6, .tmp 7] := fnAt_of tb_fs Tryz.func196 rfl (by kernel_rfl) (by kernel_rfl) rfl rfl
noncomputable def b_file_Write : Code := bodyOf (Tryz.prog.funcs[27]?)
noncomputable def cr_file_Write_0 : CC := (.reg r_g4_0)
theorem hc_file_Write_0 : comp Tryz.prog ((sL b_file_Write)) = cr_file_Write_0 := by kernel_rfl
noncomputable def cr_file_Write_1 : CC := (.seq (.reg r_g4_1) (.cond (tm 25) (.seq (.reg r_g4_2) .ret) .skip))
theorem hc_file_Write_1 : comp Tryz.prog ((sL (sR b_file_Write))) = cr_file_Write_1 := by kernel_rfl
noncomputable def cr_file_Write_2 : CC := (.seq (.reg r_g4_3) (.seq (.reg r_g4_4) (.cond (tm 45) (.seq (.reg r_g4_5) .ret) .skip)))
theorem hc_file_Write_2 : comp Tryz.prog ((sL (sR (sR b_file_Write)))) = cr_file_Write_2 := by kernel_rfl
noncomputable def cr_file_Write_3 : CC := (.reg r_g4_6)
theorem hc_file_Write_3 : comp Tryz.prog ((sL (sR (sR (sR b_file_Write))))) = cr_file_Write_3 := by kernel_rfl
noncomputable def cr_file_Write_4 : CC := (.seq (.reg r_g4_7) (.cond (tm 60) (.seq (.reg r_g4_8) .ret) .skip))
theorem hc_file_Write_4 : comp Tryz.prog ((sL (sR (sR (sR (sR b_file_Write)))))) = cr_file_Write_4 := by kernel_rfl
noncomputable def cr_file_Write_5 : CC := (.seq (.drawn r_g4_9 [(0, 0), (1, 0), (4, 0), (8, 0)]) (.cond (tm 71) (.seq (.drawn r_g4_10 [(0, 0), (1, 0), (5, 0)]) (.seq (.reg r_g4_11) (.cond (tm 80) (.seq (.reg r_g4_12) .ret) .skip))) .skip))
theorem hc_file_Write_5 : comp Tryz.prog ((sL (sR (sR (sR (sR (sR b_file_Write))))))) = cr_file_Write_5 := by kernel_rfl
noncomputable def cr_file_Write_6 : CC := (.reg r_g4_13)
theorem hc_file_Write_6 : comp Tryz.prog ((sL (sL (sR (sR (sR (sR (sR (sR b_file_Write))))))))) = cr_file_Write_6 := by kernel_rfl
noncomputable def cr_file_Write_7 : CC := (.reg r_g4_14)
theorem hc_file_Write_7 : comp Tryz.prog ((rAs (bB (sR (sL (sR (sR (sR (sR (sR (sR b_file_Write))))))))))) = cr_file_Write_7 := by kernel_rfl
noncomputable def cr_file_Write_8 : CC := (.block 1 (.seq (.reg r_g4_15) (.seq (.seq (.reg r_g4_16) (.cond (tm 95) (.seq (.reg r_g4_17) .ret) .skip)) (.seq (.reg r_g4_18) (.seq (.seq (.reg r_g4_19) (.cond (tm 101) (.seq (.reg r_g4_20) (.seq (.reg r_g4_21) (.cond (tm 109) (.seq (.reg r_g4_22) .ret) .skip))) .skip)) (.seq (.drawn r_g4_23 [(2, 0), (4, 0), (5, 0), (6, 0), (8, 0), (9, 0)]) (.seq (.reg r_g4_24) (.seq (.reg r_g4_25) (.cond (tm 127) (.seq (.reg r_g4_26) .ret) .skip)))))))))
theorem hc_file_Write_8 : comp Tryz.prog ((rBd (bB (sR (sL (sR (sR (sR (sR (sR (sR b_file_Write))))))))))) = cr_file_Write_8 := by kernel_rfl
theorem hb_file_Write_rF : cO (rF (bB (sR (sL (sR (sR (sR (sR (sR (sR b_file_Write)))))))))) = (tm 82) := by kernel_rfl
theorem hb_file_Write_rP : (rPs (bB (sR (sL (sR (sR (sR (sR (sR (sR b_file_Write)))))))))).toList = [83] := by kernel_rfl
noncomputable def cr_file_Write_9 : CC := (.seq (.reg r_g4_27) .ret)
theorem hc_file_Write_9 : comp Tryz.prog ((sR (sR (sR (sR (sR (sR (sR b_file_Write)))))))) = cr_file_Write_9 := by kernel_rfl
noncomputable def b_file_Write_full : Code := (.seq (sL b_file_Write) (.seq (sL (sR b_file_Write)) (.seq (sL (sR (sR b_file_Write))) (.seq (sL (sR (sR (sR b_file_Write)))) (.seq (sL (sR (sR (sR (sR b_file_Write))))) (.seq (sL (sR (sR (sR (sR (sR b_file_Write)))))) (.seq (.seq (sL (sL (sR (sR (sR (sR (sR (sR b_file_Write)))))))) (.block 0 (.rangeFunc (rF (bB (sR (sL (sR (sR (sR (sR (sR (sR b_file_Write)))))))))) (rPs (bB (sR (sL (sR (sR (sR (sR (sR (sR b_file_Write)))))))))) (rAs (bB (sR (sL (sR (sR (sR (sR (sR (sR b_file_Write)))))))))) (rBd (bB (sR (sL (sR (sR (sR (sR (sR (sR b_file_Write))))))))))))) (sR (sR (sR (sR (sR (sR (sR b_file_Write))))))))))))))
theorem hb_file_Write_full : Tryz.f27.body = some b_file_Write_full := by kernel_rfl
theorem hb_file_Write_slots : slotsB Tryz.f27.ntmps b_file_Write_full = true := by kernel_rfl
theorem hb_file_Write_at : getP (pth 27) tb.fs = some Tryz.f27 := by rw [tb_fs]; exact tab_get Tryz.func27
theorem hb_file_Write_res : Tryz.f27.results.toList = [.cell 12 ty_api_Errno] := rfl
noncomputable def b_file_Read : Code := bodyOf (Tryz.prog.funcs[29]?)
noncomputable def cr_file_Read_0 : CC := (.reg r_g1_0)
theorem hc_file_Read_0 : comp Tryz.prog ((sL b_file_Read)) = cr_file_Read_0 := by kernel_rfl
noncomputable def cr_file_Read_1 : CC := (.block 0 (.seq (.reg r_g1_1) (.cond (tm 19) (.seq (.reg r_g1_2) .ret) (.seq (.reg r_g1_3) (.cond (tm 26) (.seq (.reg r_g1_4) .ret) .skip)))))
theorem hc_file_Read_1 : comp Tryz.prog ((sL (sR b_file_Read))) = cr_file_Read_1 := by kernel_rfl
noncomputable def cr_file_Read_2 : CC := (.reg r_g1_5)
theorem hc_file_Read_2 : comp Tryz.prog ((sL (sR (sR b_file_Read)))) = cr_file_Read_2 := by kernel_rfl
noncomputable def cr_file_Read_3 : CC := (.seq (.reg r_g1_6) (.cond (tm 38) (.seq (.drawn r_g1_7 [(0, 0), (0, 2)]) .ret) .skip))
theorem hc_file_Read_3 : comp Tryz.prog ((sL (sR (sR (sR b_file_Read))))) = cr_file_Read_3 := by kernel_rfl
noncomputable def cr_file_Read_4 : CC := (.drawn r_g1_8 [(0, 0), (5, 0), (6, 0)])
theorem hc_file_Read_4 : comp Tryz.prog ((sL (sR (sR (sR (sR b_file_Read)))))) = cr_file_Read_4 := by kernel_rfl
noncomputable def cr_file_Read_5 : CC := (.reg r_g1_9)
theorem hc_file_Read_5 : comp Tryz.prog ((sL (sR (sR (sR (sR (sR b_file_Read))))))) = cr_file_Read_5 := by kernel_rfl
noncomputable def cr_file_Read_6 : CC := (.reg r_g1_10)
theorem hc_file_Read_6 : comp Tryz.prog ((sL (sL (sR (sR (sR (sR (sR (sR b_file_Read))))))))) = cr_file_Read_6 := by kernel_rfl
noncomputable def cr_file_Read_7 : CC := (.reg r_g1_11)
theorem hc_file_Read_7 : comp Tryz.prog ((rAs (bB (sR (sL (sR (sR (sR (sR (sR (sR b_file_Read))))))))))) = cr_file_Read_7 := by kernel_rfl
noncomputable def cr_file_Read_8 : CC := (.block 2 (.seq (.reg r_g1_12) (.seq (.seq (.reg r_g1_13) (.cond (tm 64) (.seq (.reg r_g1_14) .ret) .skip)) (.seq (.seq (.reg r_g1_15) (.cond (tm 67) (.exit 2) .skip)) (.seq (.reg r_g1_16) (.seq (.seq (.reg r_g1_17) (.cond (tm 75) (.seq (.reg r_g1_18) .ret) .skip)) (.drawn r_g1_19 [(0, 0), (2, 0), (3, 0), (6, 0), (8, 0), (9, 0)])))))))
theorem hc_file_Read_8 : comp Tryz.prog ((rBd (bB (sR (sL (sR (sR (sR (sR (sR (sR b_file_Read))))))))))) = cr_file_Read_8 := by kernel_rfl
theorem hb_file_Read_rF : cO (rF (bB (sR (sL (sR (sR (sR (sR (sR (sR b_file_Read)))))))))) = (tm 52) := by kernel_rfl
theorem hb_file_Read_rP : (rPs (bB (sR (sL (sR (sR (sR (sR (sR (sR b_file_Read)))))))))).toList = [53] := by kernel_rfl
noncomputable def cr_file_Read_9 : CC := (.seq (.reg r_g1_20) .ret)
theorem hc_file_Read_9 : comp Tryz.prog ((sR (sR (sR (sR (sR (sR (sR b_file_Read)))))))) = cr_file_Read_9 := by kernel_rfl
noncomputable def b_file_Read_full : Code := (.seq (sL b_file_Read) (.seq (sL (sR b_file_Read)) (.seq (sL (sR (sR b_file_Read))) (.seq (sL (sR (sR (sR b_file_Read)))) (.seq (sL (sR (sR (sR (sR b_file_Read))))) (.seq (sL (sR (sR (sR (sR (sR b_file_Read)))))) (.seq (.seq (sL (sL (sR (sR (sR (sR (sR (sR b_file_Read)))))))) (.block 1 (.rangeFunc (rF (bB (sR (sL (sR (sR (sR (sR (sR (sR b_file_Read)))))))))) (rPs (bB (sR (sL (sR (sR (sR (sR (sR (sR b_file_Read)))))))))) (rAs (bB (sR (sL (sR (sR (sR (sR (sR (sR b_file_Read)))))))))) (rBd (bB (sR (sL (sR (sR (sR (sR (sR (sR b_file_Read))))))))))))) (sR (sR (sR (sR (sR (sR (sR b_file_Read))))))))))))))
theorem hb_file_Read_full : Tryz.f29.body = some b_file_Read_full := by kernel_rfl
theorem hb_file_Read_slots : slotsB Tryz.f29.ntmps b_file_Read_full = true := by kernel_rfl
theorem hb_file_Read_at : getP (pth 29) tb.fs = some Tryz.f29 := by rw [tb_fs]; exact tab_get Tryz.func29
theorem hb_file_Read_res : Tryz.f29.results.toList = [.cell 12 ty_suint8, .cell 13 ty_api_Errno] := rfl
def r_e8_0 : List CO := [
  O 4 (.mv (.cst (.b false))),
 O 5 (.mv (.cst (iv 0)))]
def r_e8_1 : List CO := [
  mV 6 1,
 O 7 (.lt (B .lss ty_int) (tm 6) (.cst (iv 0))),
 mV 8 7,
 G 9 8 false (.mv (tm 1)),
 G 10 8 false (.quo (B .quo ty_int) (tm 9) (.cst (iv 8))),
 G 11 8 false (.mv (tm 0)),
 G 12 8 false (.len false (tm 11)),
 G 13 8 false (.ge (B .geq ty_int) (tm 10) (tm 12)),
 O 14 (.pick (tm 8) (.cst (.b true)) (tm 13))]
def r_e8_2 : List CO := [
  O 4 (.mv (.cst (.b false))),
 O 5 (.mv (.cst (iv 2)))]
def r_e8_3 : List CO := [
  mV 15 0,
 mV 16 1,
 O 17 (.quo (B .quo ty_int) (tm 16) (.cst (iv 8))),
 O 18 (.iaS 1 (tm 15) (tm 17)),
 lD 19 18,
 mV 20 1,
 O 21 (.rem (B .rem ty_int) (tm 20) (.cst (iv 8))),
 O 22 (.slow (B .shr ty_uint8) (tm 19) (tm 21)),
 O 23 (.and (B .and ty_uint8) (tm 22) (.cst (.y 1))),
 O 24 (.eq (B .eql ty_uint8) (tm 23) (.cst (.y 1))),
 mV 4 24,
 O 5 (.mv (.cst (iv 0)))]
theorem o_cr_file_Write_0 : Kq cr_file_Write_0 (.reg r_g4_0) := kr
def k_cr_file_Write_1_2 : CC := (.seq (.reg r_g4_2) .ret)
def k_cr_file_Write_1_1 : CC := (.cond (tm 25) k_cr_file_Write_1_2 .skip)
theorem o_cr_file_Write_1 : Kq k_cr_file_Write_1_2 (.seq (.reg r_g4_2) .ret) ∧
  Kq k_cr_file_Write_1_1 (.cond (tm 25) k_cr_file_Write_1_2 .skip) ∧
  Kq cr_file_Write_1 (.seq (.reg r_g4_1) k_cr_file_Write_1_1) := ⟨kr, kr, kr⟩
def k_cr_file_Write_2_3 : CC := (.seq (.reg r_g4_5) .ret)
def k_cr_file_Write_2_2 : CC := (.cond (tm 45) k_cr_file_Write_2_3 .skip)
def k_cr_file_Write_2_1 : CC := (.seq (.reg r_g4_4) k_cr_file_Write_2_2)
theorem o_cr_file_Write_2 : Kq k_cr_file_Write_2_3 (.seq (.reg r_g4_5) .ret) ∧
  Kq k_cr_file_Write_2_2 (.cond (tm 45) k_cr_file_Write_2_3 .skip) ∧
  Kq k_cr_file_Write_2_1 (.seq (.reg r_g4_4) k_cr_file_Write_2_2) ∧
  Kq cr_file_Write_2 (.seq (.reg r_g4_3) k_cr_file_Write_2_1) := ⟨kr, kr, kr, kr⟩
theorem o_cr_file_Write_3 : Kq cr_file_Write_3 (.reg r_g4_6) := kr
def k_cr_file_Write_4_2 : CC := (.seq (.reg r_g4_8) .ret)
def k_cr_file_Write_4_1 : CC := (.cond (tm 60) k_cr_file_Write_4_2 .skip)
theorem o_cr_file_Write_4 : Kq k_cr_file_Write_4_2 (.seq (.reg r_g4_8) .ret) ∧
  Kq k_cr_file_Write_4_1 (.cond (tm 60) k_cr_file_Write_4_2 .skip) ∧
  Kq cr_file_Write_4 (.seq (.reg r_g4_7) k_cr_file_Write_4_1) := ⟨kr, kr, kr⟩
def k_cr_file_Write_5_5 : CC := (.seq (.reg r_g4_12) .ret)
def k_cr_file_Write_5_4 : CC := (.cond (tm 80) k_cr_file_Write_5_5 .skip)
def k_cr_file_Write_5_3 : CC := (.seq (.reg r_g4_11) k_cr_file_Write_5_4)
def k_cr_file_Write_5_2 : CC := (.seq (.drawn r_g4_10 [ (0, 0) , (1, 0) , (5, 0) ]) k_cr_file_Write_5_3)
def k_cr_file_Write_5_1 : CC := (.cond (tm 71) k_cr_file_Write_5_2 .skip)
theorem o_cr_file_Write_5 : Kq k_cr_file_Write_5_5 (.seq (.reg r_g4_12) .ret) ∧
  Kq k_cr_file_Write_5_4 (.cond (tm 80) k_cr_file_Write_5_5 .skip) ∧
  Kq k_cr_file_Write_5_3 (.seq (.reg r_g4_11) k_cr_file_Write_5_4) ∧
  Kq k_cr_file_Write_5_2 (.seq (.drawn r_g4_10 [ (0, 0) , (1, 0) , (5, 0) ]) k_cr_file_Write_5_3) ∧
  Kq k_cr_file_Write_5_1 (.cond (tm 71) k_cr_file_Write_5_2 .skip) ∧
  Kq cr_file_Write_5 (.seq (.drawn r_g4_9 [ (0, 0) , (1, 0) , (4, 0) , (8, 0) ]) k_cr_file_Write_5_1) := ⟨kr, kr, kr, kr, kr, kr⟩
theorem o_cr_file_Write_6 : Kq cr_file_Write_6 (.reg r_g4_13) := kr
def k_cr_file_Write_8_5 : CC := (.seq (.reg r_g4_17) .ret)
def k_cr_file_Write_8_4 : CC := (.cond (tm 95) k_cr_file_Write_8_5 .skip)
def k_cr_file_Write_8_3 : CC := (.seq (.reg r_g4_16) k_cr_file_Write_8_4)
def k_cr_file_Write_8_13 : CC := (.seq (.reg r_g4_22) .ret)
def k_cr_file_Write_8_12 : CC := (.cond (tm 109) k_cr_file_Write_8_13 .skip)
def k_cr_file_Write_8_11 : CC := (.seq (.reg r_g4_21) k_cr_file_Write_8_12)
def k_cr_file_Write_8_10 : CC := (.seq (.reg r_g4_20) k_cr_file_Write_8_11)
def k_cr_file_Write_8_9 : CC := (.cond (tm 101) k_cr_file_Write_8_10 .skip)
def k_cr_file_Write_8_8 : CC := (.seq (.reg r_g4_19) k_cr_file_Write_8_9)
def k_cr_file_Write_8_18 : CC := (.seq (.reg r_g4_26) .ret)
def k_cr_file_Write_8_17 : CC := (.cond (tm 127) k_cr_file_Write_8_18 .skip)
def k_cr_file_Write_8_16 : CC := (.seq (.reg r_g4_25) k_cr_file_Write_8_17)
def k_cr_file_Write_8_15 : CC := (.seq (.reg r_g4_24) k_cr_file_Write_8_16)
def k_cr_file_Write_8_14 : CC := (.seq (.drawn r_g4_23 [ (2, 0) , (4, 0) , (5, 0) , (6, 0) , (8, 0) , (9, 0) ]) k_cr_file_Write_8_15)
def k_cr_file_Write_8_7 : CC := (.seq k_cr_file_Write_8_8 k_cr_file_Write_8_14)
def k_cr_file_Write_8_6 : CC := (.seq (.reg r_g4_18) k_cr_file_Write_8_7)
def k_cr_file_Write_8_2 : CC := (.seq k_cr_file_Write_8_3 k_cr_file_Write_8_6)
def k_cr_file_Write_8_1 : CC := (.seq (.reg r_g4_15) k_cr_file_Write_8_2)
theorem o_cr_file_Write_8 : Kq k_cr_file_Write_8_5 (.seq (.reg r_g4_17) .ret) ∧
  Kq k_cr_file_Write_8_4 (.cond (tm 95) k_cr_file_Write_8_5 .skip) ∧
  Kq k_cr_file_Write_8_3 (.seq (.reg r_g4_16) k_cr_file_Write_8_4) ∧
  Kq k_cr_file_Write_8_13 (.seq (.reg r_g4_22) .ret) ∧
  Kq k_cr_file_Write_8_12 (.cond (tm 109) k_cr_file_Write_8_13 .skip) ∧
  Kq k_cr_file_Write_8_11 (.seq (.reg r_g4_21) k_cr_file_Write_8_12) ∧
  Kq k_cr_file_Write_8_10 (.seq (.reg r_g4_20) k_cr_file_Write_8_11) ∧
  Kq k_cr_file_Write_8_9 (.cond (tm 101) k_cr_file_Write_8_10 .skip) ∧
  Kq k_cr_file_Write_8_8 (.seq (.reg r_g4_19) k_cr_file_Write_8_9) ∧
  Kq k_cr_file_Write_8_18 (.seq (.reg r_g4_26) .ret) ∧
  Kq k_cr_file_Write_8_17 (.cond (tm 127) k_cr_file_Write_8_18 .skip) ∧
  Kq k_cr_file_Write_8_16 (.seq (.reg r_g4_25) k_cr_file_Write_8_17) ∧
  Kq k_cr_file_Write_8_15 (.seq (.reg r_g4_24) k_cr_file_Write_8_16) ∧
  Kq k_cr_file_Write_8_7 (.seq k_cr_file_Write_8_8 k_cr_file_Write_8_14) ∧
  Kq k_cr_file_Write_8_6 (.seq (.reg r_g4_18) k_cr_file_Write_8_7) ∧
  Kq k_cr_file_Write_8_2 (.seq k_cr_file_Write_8_3 k_cr_file_Write_8_6) ∧
  Kq k_cr_file_Write_8_1 (.seq (.reg r_g4_15) k_cr_file_Write_8_2) ∧
  Kq cr_file_Write_8 (.block 1 k_cr_file_Write_8_1) := ⟨kr, kr, kr, kr, kr, kr, kr, kr, kr, kr, kr, kr, kr, kr, kr, kr, kr, kr⟩
theorem o_cr_file_Write_8_14 : ∀ Q fr m, GX Tryz.prog tb k_cr_file_Write_8_14 Q fr m = GX Tryz.prog tb (.seq (.drawn r_g4_23 [ (2, 0) , (4, 0) , (5, 0) , (6, 0) , (8, 0) , (9, 0) ]) k_cr_file_Write_8_15) Q fr m := kr
theorem o_cr_file_Write_9 : Kq cr_file_Write_9 (.seq (.reg r_g4_27) .ret) := kr
theorem o_cr_file_Read_0 : Kq cr_file_Read_0 (.reg r_g1_0) := kr
def k_cr_file_Read_1_3 : CC := (.seq (.reg r_g1_2) .ret)
def k_cr_file_Read_1_6 : CC := (.seq (.reg r_g1_4) .ret)
def k_cr_file_Read_1_5 : CC := (.cond (tm 26) k_cr_file_Read_1_6 .skip)
def k_cr_file_Read_1_4 : CC := (.seq (.reg r_g1_3) k_cr_file_Read_1_5)
def k_cr_file_Read_1_2 : CC := (.cond (tm 19) k_cr_file_Read_1_3 k_cr_file_Read_1_4)
def k_cr_file_Read_1_1 : CC := (.seq (.reg r_g1_1) k_cr_file_Read_1_2)
theorem o_cr_file_Read_1 : Kq k_cr_file_Read_1_3 (.seq (.reg r_g1_2) .ret) ∧
  Kq k_cr_file_Read_1_6 (.seq (.reg r_g1_4) .ret) ∧
  Kq k_cr_file_Read_1_5 (.cond (tm 26) k_cr_file_Read_1_6 .skip) ∧
  Kq k_cr_file_Read_1_4 (.seq (.reg r_g1_3) k_cr_file_Read_1_5) ∧
  Kq k_cr_file_Read_1_2 (.cond (tm 19) k_cr_file_Read_1_3 k_cr_file_Read_1_4) ∧
  Kq k_cr_file_Read_1_1 (.seq (.reg r_g1_1) k_cr_file_Read_1_2) ∧
  Kq cr_file_Read_1 (.block 0 k_cr_file_Read_1_1) := ⟨kr, kr, kr, kr, kr, kr, kr⟩
theorem o_cr_file_Read_2 : Kq cr_file_Read_2 (.reg r_g1_5) := kr
def k_cr_file_Read_3_2 : CC := (.seq (.drawn r_g1_7 [ (0, 0) , (0, 2) ]) .ret)
def k_cr_file_Read_3_1 : CC := (.cond (tm 38) k_cr_file_Read_3_2 .skip)
theorem o_cr_file_Read_3 : Kq k_cr_file_Read_3_2 (.seq (.drawn r_g1_7 [ (0, 0) , (0, 2) ]) .ret) ∧
  Kq k_cr_file_Read_3_1 (.cond (tm 38) k_cr_file_Read_3_2 .skip) ∧
  Kq cr_file_Read_3 (.seq (.reg r_g1_6) k_cr_file_Read_3_1) := ⟨kr, kr, kr⟩
theorem o_cr_file_Read_4 : Kq cr_file_Read_4 (.drawn r_g1_8 [ (0, 0) , (5, 0) , (6, 0) ]) := kr
theorem o_cr_file_Read_5 : Kq cr_file_Read_5 (.reg r_g1_9) := kr
theorem o_cr_file_Read_6 : Kq cr_file_Read_6 (.reg r_g1_10) := kr
def k_cr_file_Read_8_5 : CC := (.seq (.reg r_g1_14) .ret)
def k_cr_file_Read_8_4 : CC := (.cond (tm 64) k_cr_file_Read_8_5 .skip)
def k_cr_file_Read_8_3 : CC := (.seq (.reg r_g1_13) k_cr_file_Read_8_4)
def k_cr_file_Read_8_8 : CC := (.cond (tm 67) (.exit 2) .skip)
def k_cr_file_Read_8_7 : CC := (.seq (.reg r_g1_15) k_cr_file_Read_8_8)
def k_cr_file_Read_8_13 : CC := (.seq (.reg r_g1_18) .ret)
def k_cr_file_Read_8_12 : CC := (.cond (tm 75) k_cr_file_Read_8_13 .skip)
def k_cr_file_Read_8_11 : CC := (.seq (.reg r_g1_17) k_cr_file_Read_8_12)
def k_cr_file_Read_8_14 : CC := (.drawn r_g1_19 [ (0, 0) , (2, 0) , (3, 0) , (6, 0) , (8, 0) , (9, 0) ])
def k_cr_file_Read_8_10 : CC := (.seq k_cr_file_Read_8_11 k_cr_file_Read_8_14)
def k_cr_file_Read_8_9 : CC := (.seq (.reg r_g1_16) k_cr_file_Read_8_10)
def k_cr_file_Read_8_6 : CC := (.seq k_cr_file_Read_8_7 k_cr_file_Read_8_9)
def k_cr_file_Read_8_2 : CC := (.seq k_cr_file_Read_8_3 k_cr_file_Read_8_6)
def k_cr_file_Read_8_1 : CC := (.seq (.reg r_g1_12) k_cr_file_Read_8_2)
theorem o_cr_file_Read_8 : Kq k_cr_file_Read_8_5 (.seq (.reg r_g1_14) .ret) ∧
  Kq k_cr_file_Read_8_4 (.cond (tm 64) k_cr_file_Read_8_5 .skip) ∧
  Kq k_cr_file_Read_8_3 (.seq (.reg r_g1_13) k_cr_file_Read_8_4) ∧
  Kq k_cr_file_Read_8_8 (.cond (tm 67) (.exit 2) .skip) ∧
  Kq k_cr_file_Read_8_7 (.seq (.reg r_g1_15) k_cr_file_Read_8_8) ∧
  Kq k_cr_file_Read_8_13 (.seq (.reg r_g1_18) .ret) ∧
  Kq k_cr_file_Read_8_12 (.cond (tm 75) k_cr_file_Read_8_13 .skip) ∧
  Kq k_cr_file_Read_8_11 (.seq (.reg r_g1_17) k_cr_file_Read_8_12) ∧
  Kq k_cr_file_Read_8_14 (.drawn r_g1_19 [ (0, 0) , (2, 0) , (3, 0) , (6, 0) , (8, 0) , (9, 0) ]) ∧
  Kq k_cr_file_Read_8_10 (.seq k_cr_file_Read_8_11 k_cr_file_Read_8_14) ∧
  Kq k_cr_file_Read_8_9 (.seq (.reg r_g1_16) k_cr_file_Read_8_10) ∧
  Kq k_cr_file_Read_8_6 (.seq k_cr_file_Read_8_7 k_cr_file_Read_8_9) ∧
  Kq k_cr_file_Read_8_2 (.seq k_cr_file_Read_8_3 k_cr_file_Read_8_6) ∧
  Kq k_cr_file_Read_8_1 (.seq (.reg r_g1_12) k_cr_file_Read_8_2) ∧
  Kq cr_file_Read_8 (.block 2 k_cr_file_Read_8_1) := ⟨kr, kr, kr, kr, kr, kr, kr, kr, kr, kr, kr, kr, kr, kr, kr⟩
theorem o_cr_file_Read_9 : Kq cr_file_Read_9 (.seq (.reg r_g1_20) .ret) := kr
def k_e8_4 : CC := (.seq (.reg r_e8_2) .ret)
def k_e8_3 : CC := (.cond (tm 14) k_e8_4 .skip)
def k_e8_2 : CC := (.seq (.reg r_e8_1) k_e8_3)
def k_e8_5 : CC := (.seq (.reg r_e8_3) .ret)
def k_e8_1 : CC := (.seq k_e8_2 k_e8_5)
def c_e8 : CC := (.seq (.reg r_e8_0) k_e8_1)
theorem o_e8 : Kq k_e8_4 (.seq (.reg r_e8_2) .ret) ∧
  Kq k_e8_3 (.cond (tm 14) k_e8_4 .skip) ∧
  Kq k_e8_2 (.seq (.reg r_e8_1) k_e8_3) ∧
  Kq k_e8_5 (.seq (.reg r_e8_3) .ret) ∧
  Kq k_e8_1 (.seq k_e8_2 k_e8_5) ∧
  Kq c_e8 (.seq (.reg r_e8_0) k_e8_1) := ⟨kr, kr, kr, kr, kr, kr⟩
theorem at_e8 : FnAt Tryz.prog tb fn_e8 c_e8 25 [.tmp 4, .tmp 5] := fnAt_of tb_fs Tryz.func216 rfl (by kernel_rfl) (by kernel_rfl) rfl rfl
end
end Go.Proofs.YtooooiidpaecmaaGreat
