import Derived.Test.YtooooiidpaecmaaGreatAmRu
import Derived.Test.YtooooiidpaecmaaGreatAmMv
import Derived.Test.YtooooiidpaecmaaGreatAmRf
import Derived.Test.YtooooiidpaecmaaGreatRows
/- What is known ahead of a run: the fixed runs, sorted keys, sorted rows, the plan, and what lies in memory behind the making of a device. -/
namespace Go.Proofs.YtooooiidpaecmaaGreat
open Go Go.Am
noncomputable def smallV : AV := .agg [iv 64, iv 90, iv 6, iv 30, iv 2, iv 32, iv 1, iv 33, iv 1, iv 34, iv 3, iv 37]
noncomputable def tb0 : Tb := withVal (withVal (withSort (withTrue (libTb Tryz.prog 116 3 [163, 203, 225] [63]) [8, 23]) 79) 10 smallV) 24 smallV
noncomputable def cls : List Cl := [⟨89, [smallV], iv 0⟩, ⟨57, [smallV], .tuple [iv 68096, iv 0]⟩, ⟨54, [smallV, iv 2], .tuple [iv 35, iv 0, iv 0]⟩, ⟨54, [smallV, iv 3], .tuple [iv 35, iv 32, iv 0]⟩]
noncomputable def tbA : Tb := withCl tb0 cls
noncomputable def tb : Tb := withRun Tryz.prog tbA [9, 25]
set_option maxRecDepth 100000 in
theorem tb_fs : tb.fs = tabOf Tryz.prog := rfl
noncomputable abbrev B (o : BinOp) (t : TypeId) := binS Tryz.prog o t
noncomputable abbrev C (n : Nat) (f : FuncId) (a : List RO) : CO := .call (some (pth n)) none (.cst (.func f [])) a
noncomputable abbrev G (n k : Nat) (b : Bool) (o : OP) : CO := .op (some (pth n)) (some (pth k, b)) o
noncomputable abbrev O (n : Nat) (o : OP) : CO := .op (some (pth n)) none o
abbrev Kq (a b : CC) : Prop := ∀ Q fr m, GX Tryz.prog tb a Q fr m = GX Tryz.prog tb b Q fr m
theorem kr {a : CC} : Kq a a := fun _ _ _ => rfl
theorem wA : type_of% (And.intro @cells_map <| And.intro @cells_func <| And.intro @o_fn <| And.intro @o_look <| And.intro @o_mlen <| And.intro @o_mupd <| And.intro @o_mdel <| And.intro @o_mkmap <| And.intro @o_clrs <| And.intro @o_mksl <| And.intro @o_b2s <| And.intro @o_mv <| And.intro @o_pick <| And.intro @o_alloc <| And.intro @o_box <| And.intro @o_build <| And.intro @o_bslice <| And.intro @o_load <| And.intro @o_loadN <| And.intro @o_store <| And.intro @o_nil <| And.intro @o_add <| And.intro @o_sub <| And.intro @o_mul <| And.intro @o_quo <| And.intro @o_rem <| And.intro @o_lt <| And.intro @o_le <| And.intro @o_gt <| And.intro @o_ge <| And.intro @o_eq <| And.intro @o_ne <| And.intro @o_eqp <| And.intro @o_un <| And.intro @o_sls <| And.intro @o_take <| And.intro @o_drop <| And.intro @o_fa <| And.intro @o_iaS <| And.intro @o_ext <| And.intro @o_len <| And.intro @o_app <| And.intro @o_toU <| And.intro @o_frU <| And.intro @o_usd <| And.intro @o_ust <| And.intro @o_min <| And.intro @o_max <| And.intro @v_elB <| And.intro @v_elPtr <| And.intro @v_elTup <| And.intro @v_elAgg <| And.intro @v_ob <| And.intro @v_rto <| @v_nil) := And.intro @cells_map <| And.intro @cells_func <| And.intro @o_fn <| And.intro @o_look <| And.intro @o_mlen <| And.intro @o_mupd <| And.intro @o_mdel <| And.intro @o_mkmap <| And.intro @o_clrs <| And.intro @o_mksl <| And.intro @o_b2s <| And.intro @o_mv <| And.intro @o_pick <| And.intro @o_alloc <| And.intro @o_box <| And.intro @o_build <| And.intro @o_bslice <| And.intro @o_load <| And.intro @o_loadN <| And.intro @o_store <| And.intro @o_nil <| And.intro @o_add <| And.intro @o_sub <| And.intro @o_mul <| And.intro @o_quo <| And.intro @o_rem <| And.intro @o_lt <| And.intro @o_le <| And.intro @o_gt <| And.intro @o_ge <| And.intro @o_eq <| And.intro @o_ne <| And.intro @o_eqp <| And.intro @o_un <| And.intro @o_sls <| And.intro @o_take <| And.intro @o_drop <| And.intro @o_fa <| And.intro @o_iaS <| And.intro @o_ext <| And.intro @o_len <| And.intro @o_app <| And.intro @o_toU <| And.intro @o_frU <| And.intro @o_usd <| And.intro @o_ust <| And.intro @o_min <| And.intro @o_max <| And.intro @v_elB <| And.intro @v_elPtr <| And.intro @v_elTup <| And.intro @v_elAgg <| And.intro @v_ob <| And.intro @v_rto <| @v_nil
theorem wB : type_of% (And.intro @v_eqp_n <| And.intro @v_eqp_nn <| And.intro @v_eqp_same <| And.intro @v_not <| And.intro @v_fa <| And.intro @v_min <| And.intro @v_max <| And.intro @b_lt <| And.intro @b_le <| And.intro @b_gt <| And.intro @b_ge <| And.intro @b_eq <| And.intro @b_ne <| And.intro @bs_eq <| And.intro @bs_ne <| And.intro @len_tv <| And.intro @len_sl <| And.intro @len_nils <| And.intro @cells_iv <| And.intro @cells_tv <| And.intro @cells_agg <| And.intro @cells_ptr <| And.intro @cells_b <| And.intro @cells_nilp <| And.intro @pv_nil <| And.intro @pv_cons <| And.intro @fillA_nil <| And.intro @fillA_cons <| And.intro @repl_1 <| And.intro @repl_2 <| And.intro @ev_tm <| And.intro @ev_cst <| And.intro @evs_cons <| And.intro @evs_nil <| And.intro @evo_some <| And.intro @evo_none <| And.intro @putD_none <| And.intro @putD_some <| And.intro @fill_cons <| And.intro @fill_nil <| And.intro @want_b <| And.intro @want_undef <| And.intro @bc_true <| And.intro @bc_false <| And.intro @nbeq <| And.intro @nble <| And.intro @one_0 <| And.intro @one_1 <| And.intro @one_2 <| And.intro @List.length_cons.{0} <| And.intro @List.length_nil.{0} <| And.intro @Nat.zero_add <| And.intro @Nat.add_zero <| And.intro @decide_true <| @decide_false) := And.intro @v_eqp_n <| And.intro @v_eqp_nn <| And.intro @v_eqp_same <| And.intro @v_not <| And.intro @v_fa <| And.intro @v_min <| And.intro @v_max <| And.intro @b_lt <| And.intro @b_le <| And.intro @b_gt <| And.intro @b_ge <| And.intro @b_eq <| And.intro @b_ne <| And.intro @bs_eq <| And.intro @bs_ne <| And.intro @len_tv <| And.intro @len_sl <| And.intro @len_nils <| And.intro @cells_iv <| And.intro @cells_tv <| And.intro @cells_agg <| And.intro @cells_ptr <| And.intro @cells_b <| And.intro @cells_nilp <| And.intro @pv_nil <| And.intro @pv_cons <| And.intro @fillA_nil <| And.intro @fillA_cons <| And.intro @repl_1 <| And.intro @repl_2 <| And.intro @ev_tm <| And.intro @ev_cst <| And.intro @evs_cons <| And.intro @evs_nil <| And.intro @evo_some <| And.intro @evo_none <| And.intro @putD_none <| And.intro @putD_some <| And.intro @fill_cons <| And.intro @fill_nil <| And.intro @want_b <| And.intro @want_undef <| And.intro @bc_true <| And.intro @bc_false <| And.intro @nbeq <| And.intro @nble <| And.intro @one_0 <| And.intro @one_1 <| And.intro @one_2 <| And.intro @List.length_cons.{0} <| And.intro @List.length_nil.{0} <| And.intro @Nat.zero_add <| And.intro @Nat.add_zero <| And.intro @decide_true <| @decide_false
theorem wC : type_of% (And.intro @Bool.true_and <| And.intro @Bool.and_true <| And.intro @Bool.and_self <| And.intro @Bool.false_and <| And.intro @Bool.and_false <| And.intro @Bool.or_false <| And.intro @Bool.false_or <| And.intro @Bool.or_true <| And.intro @Bool.true_or <| And.intro @Bool.not_true <| And.intro @Bool.not_false <| And.intro @List.take_succ_cons.{0} <| And.intro @List.take_zero.{0} <| And.intro @List.drop_succ_cons.{0} <| And.intro @List.drop_zero.{0} <| And.intro @List.drop_nil.{0} <| And.intro @List.take_nil.{0} <| And.intro @List.nil_append.{0} <| And.intro @List.cons_append.{0} <| And.intro @List.append_nil.{0} <| And.intro @GO_nil <| And.intro @GO_op <| And.intro @GO_opG <| And.intro @GO_call <| And.intro @GO_callG <| And.intro @GN_some <| And.intro @GG_true <| And.intro @GG_false <| And.intro @GF_func <| And.intro @GF_bnd <| And.intro @o_bfn <| And.intro @GF_yield <| And.intro @GFG_true <| And.intro @GFG_false <| And.intro @CK_app <| And.intro @GT_nil <| And.intro @GT_op <| And.intro @GT_opG <| And.intro @GT_call <| And.intro @TF_func <| And.intro @GT_callG <| And.intro @TN_some <| And.intro @TG_true <| And.intro @TG_false <| And.intro @TFG_true <| And.intro @TFG_false <| And.intro @TK_app <| And.intro @GX_skip <| And.intro @GX_reg <| And.intro @GX_drawn <| And.intro @GX_seq <| And.intro @GX_cond <| And.intro @GX_block <| And.intro @GX_exit <| @GX_ret) := And.intro @Bool.true_and <| And.intro @Bool.and_true <| And.intro @Bool.and_self <| And.intro @Bool.false_and <| And.intro @Bool.and_false <| And.intro @Bool.or_false <| And.intro @Bool.false_or <| And.intro @Bool.or_true <| And.intro @Bool.true_or <| And.intro @Bool.not_true <| And.intro @Bool.not_false <| And.intro @List.take_succ_cons.{0} <| And.intro @List.take_zero.{0} <| And.intro @List.drop_succ_cons.{0} <| And.intro @List.drop_zero.{0} <| And.intro @List.drop_nil.{0} <| And.intro @List.take_nil.{0} <| And.intro @List.nil_append.{0} <| And.intro @List.cons_append.{0} <| And.intro @List.append_nil.{0} <| And.intro @GO_nil <| And.intro @GO_op <| And.intro @GO_opG <| And.intro @GO_call <| And.intro @GO_callG <| And.intro @GN_some <| And.intro @GG_true <| And.intro @GG_false <| And.intro @GF_func <| And.intro @GF_bnd <| And.intro @o_bfn <| And.intro @GF_yield <| And.intro @GFG_true <| And.intro @GFG_false <| And.intro @CK_app <| And.intro @GT_nil <| And.intro @GT_op <| And.intro @GT_opG <| And.intro @GT_call <| And.intro @TF_func <| And.intro @GT_callG <| And.intro @TN_some <| And.intro @TG_true <| And.intro @TG_false <| And.intro @TFG_true <| And.intro @TFG_false <| And.intro @TK_app <| And.intro @GX_skip <| And.intro @GX_reg <| And.intro @GX_drawn <| And.intro @GX_seq <| And.intro @GX_cond <| And.intro @GX_block <| And.intro @GX_exit <| @GX_ret
theorem wD : type_of% (And.intro @GX_goto <| And.intro @RK_app <| And.intro @DK_app <| And.intro @SK_normal <| And.intro @SK_ret <| And.intro @SK_exit <| And.intro @SK_goto <| And.intro @GC_true <| And.intro @GC_false <| And.intro @BK_normal <| And.intro @BK_ret <| And.intro @BK_goto <| And.intro @BK_exit <| And.intro @BE_true <| And.intro @BE_false <| And.intro @LK_ret <| And.intro @LK_exit <| And.intro @LK_goto <| And.intro @FK_ret0 <| And.intro @FK_nor0 <| And.intro @FK_ret1 <| And.intro @FK_ret2 <| And.intro @FK_ret3 <| And.intro @PK_normal <| And.intro @PK_ret <| And.intro @PK_exit <| And.intro @JK_normal <| And.intro @JK_ret <| And.intro @JK_exit <| And.intro @lastT_1 <| And.intro @lastT_c <| And.intro @again0_at <| And.intro @List.all_cons.{0} <| And.intro @List.all_nil.{0} <| And.intro @want_none <| And.intro @want_sm <| And.intro @aq_iv <| And.intro @aq_tv <| And.intro @aq_ptr <| And.intro @aq_b <| And.intro @aq_map <| And.intro @aq_nilp <| And.intro @aq_undef <| And.intro @sl_aq <| And.intro @cells_slc <| And.intro @cells_nil' <| And.intro @cells_yc <| And.intro @nc0 <| And.intro @ilt <| And.intro @ile <| And.intro @Option.some.injEq.{0} <| And.intro @true_and <| And.intro @and_true <| @and_self) := And.intro @GX_goto <| And.intro @RK_app <| And.intro @DK_app <| And.intro @SK_normal <| And.intro @SK_ret <| And.intro @SK_exit <| And.intro @SK_goto <| And.intro @GC_true <| And.intro @GC_false <| And.intro @BK_normal <| And.intro @BK_ret <| And.intro @BK_goto <| And.intro @BK_exit <| And.intro @BE_true <| And.intro @BE_false <| And.intro @LK_ret <| And.intro @LK_exit <| And.intro @LK_goto <| And.intro @FK_ret0 <| And.intro @FK_nor0 <| And.intro @FK_ret1 <| And.intro @FK_ret2 <| And.intro @FK_ret3 <| And.intro @PK_normal <| And.intro @PK_ret <| And.intro @PK_exit <| And.intro @JK_normal <| And.intro @JK_ret <| And.intro @JK_exit <| And.intro @lastT_1 <| And.intro @lastT_c <| And.intro @again0_at <| And.intro @List.all_cons.{0} <| And.intro @List.all_nil.{0} <| And.intro @want_none <| And.intro @want_sm <| And.intro @aq_iv <| And.intro @aq_tv <| And.intro @aq_ptr <| And.intro @aq_b <| And.intro @aq_map <| And.intro @aq_nilp <| And.intro @aq_undef <| And.intro @sl_aq <| And.intro @cells_slc <| And.intro @cells_nil' <| And.intro @cells_yc <| And.intro @nc0 <| And.intro @ilt <| And.intro @ile <| And.intro @Option.some.injEq.{0} <| And.intro @true_and <| And.intro @and_true <| @and_self
noncomputable section
abbrev fn_f2 : FuncId := 4
abbrev fn_l13_wakes : FuncId := 8
abbrev fn_l13_fresh : FuncId := 9
abbrev fn_l13_small : FuncId := 10
abbrev fn_b2 : FuncId := 11
abbrev fn_d3 : FuncId := 12
abbrev fn_c9 : FuncId := 13
abbrev fn_d1 : FuncId := 16
abbrev fn_d4 : FuncId := 18
abbrev fn_d2 : FuncId := 20
abbrev fn_f3 : FuncId := 43
abbrev fn_c3 : FuncId := 44
abbrev fn_d5 : FuncId := 45
abbrev fn_a0 : FuncId := 46
abbrev fn_d7 : FuncId := 47
abbrev fn_d0 : FuncId := 48
abbrev fn_e9 : FuncId := 49
abbrev fn_b3 : FuncId := 51
abbrev fn_plan_Place : FuncId := 54
abbrev fn_e2 : FuncId := 55
abbrev fn_d6 : FuncId := 56
abbrev fn_plan_MaxSize : FuncId := 57
abbrev fn_e3 : FuncId := 59
abbrev fn_c2 : FuncId := 73
abbrev fn_f4 : FuncId := 93
abbrev fn_c8 : FuncId := 94
abbrev fn_c4 : FuncId := 95
abbrev fn_c5 : FuncId := 96
abbrev fn_e5 : FuncId := 97
abbrev fn_a5 : FuncId := 98
abbrev fn_e6 : FuncId := 99
abbrev fn_a3 : FuncId := 100
abbrev fn_b5 : FuncId := 101
abbrev fn_b0 : FuncId := 103
abbrev fn_a9 : FuncId := 104
abbrev fn_b1 : FuncId := 105
abbrev fn_a8 : FuncId := 107
abbrev fn_a7 : FuncId := 108
abbrev fn_e4 : FuncId := 109
abbrev fn_c7 : FuncId := 110
abbrev fn_Sorted : FuncId := 116
abbrev fn_a6 : FuncId := 120
abbrev fn_b7 : FuncId := 122
abbrev fn_b4 : FuncId := 125
abbrev fn_c6 : FuncId := 145
abbrev fn_e7 : FuncId := 146
abbrev fn_a1 : FuncId := 147
abbrev fn_a4 : FuncId := 148
abbrev fn_d8 : FuncId := 149
abbrev fn_e1 : FuncId := 153
abbrev fn_b6 : FuncId := 167
abbrev fn_Ca_Get : FuncId := 169
abbrev fn_b9 : FuncId := 170
abbrev fn_c0 : FuncId := 171
abbrev fn_e8 : FuncId := 191
abbrev fn_a2 : FuncId := 192
abbrev fn_d9 : FuncId := 193
abbrev fn_e0 : FuncId := 194
abbrev fn_Keys_1 : FuncId := 203
abbrev ty_int : TypeId := 3
abbrev ty_bool : TypeId := 4
abbrev ty_uint8 : TypeId := 5
abbrev ty_string : TypeId := 9
abbrev ty_sint : TypeId := 22
abbrev ty_pgroup_Group : TypeId := 24
abbrev ty_palloc_Alloc : TypeId := 25
abbrev ty_pinode_Table : TypeId := 26
abbrev ty_api_Plan : TypeId := 30
abbrev ty_pgroup_Op : TypeId := 32
abbrev ty_api_Errno : TypeId := 33
abbrev ty_2_sint : TypeId := 44
abbrev ty_api_Inode : TypeId := 53
abbrev ty_suint8 : TypeId := 59
abbrev ty_pwal_Log : TypeId := 78
abbrev ty_map_int_suint8 : TypeId := 93
abbrev ty_group_blocks : TypeId := 94
abbrev ty_group_Op : TypeId := 99
abbrev ty_inode_slot : TypeId := 104
abbrev ty_map_int_int : TypeId := 109
abbrev ty_func_int_int_int_api_Errno : TypeId := 110
abbrev ty_pint : TypeId := 111
abbrev ty_alloc_bitmap : TypeId := 115
abbrev ty_struct : TypeId := 134
abbrev ty_codec_writer : TypeId := 184
abbrev ty_codec_reader : TypeId := 190
abbrev ty_api_Write : TypeId := 199
def r_f2_0 : List CO := [
  O 4 (.mv (.cst (.b false)))]
def r_f2_1 : List CO := [
  C 33 fn_l13_wakes [],
 O 34 (.un .not (tm 33))]
def r_f2_2 : List CO := [
  O 4 (.mv (.cst (.b false)))]
def r_f2_3 : List CO := [
  C 35 fn_l13_small [],
 O 5 (.alloc ty_api_Plan 12 [(iv 0), (iv 0), (iv 0), (iv 0), (iv 0), (iv 0), (iv 0), (iv 0), (iv 0), (iv 0), (iv 0), (iv 0)]),
 .op none none (.store 12 (tm 5) (tm 35))]
def r_f2_4 : List CO := [
  O 37 (.loadN 12 (tm 5)),
 C 38 fn_l13_fresh [(tm 37)],
 O 36 (.mv (tm 38)),
 O 39 (.ext 0 (tm 36)),
 O 40 (.ext 1 (tm 36)),
 O 41 (.ext 2 (tm 36)),
 O 6 (.mv (tm 39)),
 O 7 (.mv (tm 40)),
 O 8 (.mv (tm 41))]
def r_f2_5 : List CO := [
  O 43 (.mv (tm 6)),
 C 44 fn_b2 [(tm 43)],
 O 42 (.mv (tm 44)),
 O 45 (.ext 0 (tm 42)),
 O 46 (.ext 1 (tm 42)),
 O 9 (.mv (tm 45)),
 O 10 (.mv (tm 46))]
def r_f2_6 : List CO := [
  O 11 (.alloc ty_2_sint 2 [nils, nils])]
def r_f2_7 : List CO := [
  O 12 (.alloc ty_2_sint 2 [nils, nils])]
def r_f2_8 : List CO := [
  O 47 (.fa 1 (tm 5)),
 O 48 (.load (tm 47)),
 O 49 (.mksl ty_int 1 8 [(iv 0)] (tm 48) (tm 48)),
 O 13 (.mv (tm 49))]
def r_f2_9 : List CO := [
  O 14 (.mv (.cst (iv 0)))]
def r_f2_10 : List CO := [
  O 50 (.mv (tm 14)),
 O 51 (.mv (tm 0)),
 O 52 (.len false (tm 51)),
 O 53 (.mv (tm 1)),
 O 54 (.len false (tm 53)),
 O 55 (.add (B .add ty_int) (tm 52) (tm 54)),
 O 56 (.lt (B .lss ty_int) (tm 50) (tm 55)),
 O 57 (.mv (tm 56)),
 G 58 57 true (.mv (tm 14)),
 G 59 57 true (.lt (B .lss ty_int) (tm 58) (.cst (iv 20))),
 O 60 (.pick (tm 57) (tm 59) (.cst (.b false)))]
def r_f2_12 : List CO := [
  O 15 (.mv (.cst (iv 0)))]
def r_f2_13 : List CO := [
  O 16 (.mv (.cst (iv 0)))]
def r_f2_14 : List CO := [
  O 63 (.mv (tm 14)),
 O 64 (.mv (tm 0)),
 O 65 (.len false (tm 64)),
 O 66 (.lt (B .lss ty_int) (tm 63) (tm 65))]
def r_f2_15 : List CO := [
  O 67 (.mv (tm 0)),
 O 68 (.mv (tm 14)),
 O 69 (.iaS 1 (tm 67) (tm 68)),
 O 70 (.load (tm 69)),
 O 16 (.mv (tm 70))]
def r_f2_16 : List CO := [
  O 15 (.mv (.cst (iv 1)))]
def r_f2_17 : List CO := [
  O 71 (.mv (tm 1)),
 O 72 (.mv (tm 14)),
 O 73 (.mv (tm 0)),
 O 74 (.len false (tm 73)),
 O 75 (.sub (B .sub ty_int) (tm 72) (tm 74)),
 O 76 (.iaS 1 (tm 71) (tm 75)),
 O 77 (.load (tm 76)),
 O 16 (.mv (tm 77))]
def r_f2_18 : List CO := [
  O 79 (.mv (tm 8)),
 O 80 (.mv (tm 9)),
 O 81 (.mv (tm 15)),
 O 82 (.add (B .add ty_int) (.cst (iv 2)) (tm 81)),
 O 83 (.mv (tm 16)),
 C 84 fn_d1 [(tm 79), (tm 80), (tm 82), (tm 83)],
 O 78 (.mv (tm 84)),
 O 85 (.ext 0 (tm 78)),
 O 86 (.ext 1 (tm 78)),
 O 17 (.mv (tm 85)),
 O 18 (.mv (tm 86))]
def r_f2_19 : List CO := [
  O 88 (.mv (tm 8)),
 O 89 (.mv (tm 9)),
 O 90 (.mv (tm 15)),
 O 91 (.add (B .add ty_int) (.cst (iv 2)) (tm 90)),
 O 92 (.mv (tm 16)),
 C 93 fn_d3 [(tm 88), (tm 89), (tm 91), (tm 92)],
 O 87 (.mv (tm 93)),
 O 94 (.ext 0 (tm 87)),
 O 95 (.ext 1 (tm 87)),
 O 96 (.ext 2 (tm 87)),
 O 19 (.mv (tm 94)),
 O 20 (.mv (tm 95)),
 O 21 (.mv (tm 96))]
def r_f2_20 : List CO := [
  O 97 (.mv (tm 18)),
 O 98 (.ne (B .neq ty_api_Errno) (tm 97) (.cst (iv 0))),
 O 99 (.mv (tm 98)),
 G 100 99 false (.mv (tm 21)),
 G 101 99 false (.eq (B .eql ty_api_Errno) (tm 100) (.cst (iv 10))),
 O 102 (.pick (tm 99) (.cst (.b true)) (tm 101)),
 O 103 (.mv (tm 102)),
 G 104 103 false (.mv (tm 21)),
 G 105 103 false (.eq (B .eql ty_api_Errno) (tm 104) (.cst (iv 2))),
 O 106 (.pick (tm 103) (.cst (.b true)) (tm 105))]
def r_f2_21 : List CO := [
  O 107 (.mv (tm 21)),
 O 108 (.ne (B .neq ty_api_Errno) (tm 107) (.cst (iv 0))),
 O 109 (.mv (tm 108)),
 G 110 109 false (.mv (tm 20)),
 G 111 109 false (.mv (tm 17)),
 G 112 109 false (.eq (B .eql ty_int) (tm 111) (.cst (iv 0))),
 G 113 109 false (.ne (B .neq ty_bool) (tm 110) (tm 112)),
 O 114 (.pick (tm 109) (.cst (.b true)) (tm 113)),
 O 115 (.mv (tm 114)),
 G 116 115 false (.mv (tm 20)),
 G 117 115 false (.un .not (tm 116)),
 G 118 115 false (.mv (tm 117)),
 G 119 118 true (.mv (tm 19)),
 G 120 118 true (.mv (tm 17)),
 G 121 118 true (.ne (B .neq ty_int) (tm 119) (tm 120)),
 G 122 115 false (.pick (tm 118) (tm 121) (.cst (.b false))),
 O 123 (.pick (tm 115) (.cst (.b true)) (tm 122)),
 O 124 (.mv (tm 123)),
 G 125 124 false (.mv (tm 19)),
 G 126 124 false (.fa 11 (tm 5)),
 G 127 124 false (.load (tm 126)),
 G 128 124 false (.lt (B .lss ty_int) (tm 125) (tm 127)),
 O 129 (.pick (tm 124) (.cst (.b true)) (tm 128)),
 O 130 (.mv (tm 129)),
 G 131 130 false (.mv (tm 19)),
 G 132 130 false (.fa 1 (tm 5)),
 G 133 130 false (.load (tm 132)),
 G 134 130 false (.ge (B .geq ty_int) (tm 131) (tm 133)),
 O 135 (.pick (tm 130) (.cst (.b true)) (tm 134))]
def r_f2_22 : List CO := [
  O 4 (.mv (.cst (.b false)))]
def r_f2_23 : List CO := [
  O 136 (.mv (tm 20))]
def r_f2_24 : List CO := [
  O 137 (.mv (tm 15)),
 O 138 (.mv (tm 15)),
 O 139 (.iaA 2 1 (tm 11) (tm 138)),
 O 140 (.load (tm 139)),
 O 141 (.mv (tm 19)),
 O 142 (.bslice ty_int 1 1 [(iv 0)] [(0, 1, (tm 141))]),
 O 143 (.app ty_int 1 8 [(iv 0)] (tm 140) (tm 142)),
 O 144 (.iaA 2 1 (tm 11) (tm 137)),
 .op none none (.store 1 (tm 144) (tm 143))]
def r_f2_25 : List CO := [
  O 145 (.mv (tm 15)),
 O 146 (.mv (tm 15)),
 O 147 (.iaA 2 1 (tm 12) (tm 146)),
 O 148 (.load (tm 147)),
 O 149 (.mv (tm 16)),
 O 150 (.bslice ty_int 1 1 [(iv 0)] [(0, 1, (tm 149))]),
 O 151 (.app ty_int 1 8 [(iv 0)] (tm 148) (tm 150)),
 O 152 (.iaA 2 1 (tm 12) (tm 145)),
 .op none none (.store 1 (tm 152) (tm 151))]
def r_f2_26 : List CO := [
  O 153 (.mv (tm 13)),
 O 154 (.mv (tm 19)),
 O 155 (.iaS 1 (tm 153) (tm 154)),
 O 156 (.load (tm 155)),
 O 157 (.add (B .add ty_int) (tm 156) (.cst (iv 1))),
 O 158 (.iaS 1 (tm 153) (tm 154)),
 .op none none (.store 1 (tm 158) (tm 157))]
def r_f2_11 : List CO := [
  O 61 (.mv (tm 14)),
 O 62 (.add (B .add ty_int) (tm 61) (.cst (iv 1))),
 O 14 (.mv (tm 62))]
def r_f2_27 : List CO := [
  O 22 (.mv (.cst (iv 0)))]
def r_f2_28 : List CO := [
  O 159 (.mv (tm 22)),
 O 160 (.lt (B .lss ty_int) (tm 159) (.cst (iv 2)))]
def r_f2_30 : List CO := [
  O 23 (.mv (.cst (iv 0)))]
def r_f2_31 : List CO := [
  O 163 (.mv (tm 23)),
 O 164 (.mv (tm 22)),
 O 165 (.iaA 2 1 (tm 12) (tm 164)),
 O 166 (.load (tm 165)),
 O 167 (.len false (tm 166)),
 O 168 (.lt (B .lss ty_int) (tm 163) (tm 167))]
def r_f2_33 : List CO := [
  O 172 (.mv (tm 8)),
 O 173 (.mv (tm 9)),
 O 174 (.mv (tm 22)),
 O 175 (.add (B .add ty_int) (.cst (iv 2)) (tm 174)),
 O 176 (.mv (tm 22)),
 O 177 (.iaA 2 1 (tm 12) (tm 176)),
 O 178 (.load (tm 177)),
 O 179 (.mv (tm 23)),
 O 180 (.iaS 1 (tm 178) (tm 179)),
 O 181 (.load (tm 180)),
 C 182 fn_d1 [(tm 172), (tm 173), (tm 175), (tm 181)],
 O 171 (.mv (tm 182)),
 O 183 (.ext 0 (tm 171)),
 O 184 (.ext 1 (tm 171)),
 O 24 (.mv (tm 183)),
 O 25 (.mv (tm 184))]
def r_f2_34 : List CO := [
  O 185 (.mv (tm 25)),
 O 186 (.ne (B .neq ty_api_Errno) (tm 185) (.cst (iv 0))),
 O 187 (.mv (tm 186)),
 G 188 187 false (.mv (tm 24)),
 G 189 187 false (.mv (tm 22)),
 G 190 187 false (.iaA 2 1 (tm 11) (tm 189)),
 G 191 187 false (.load (tm 190)),
 G 192 187 false (.mv (tm 23)),
 G 193 187 false (.iaS 1 (tm 191) (tm 192)),
 G 194 187 false (.load (tm 193)),
 G 195 187 false (.ne (B .neq ty_int) (tm 188) (tm 194)),
 O 196 (.pick (tm 187) (.cst (.b true)) (tm 195))]
def r_f2_35 : List CO := [
  O 4 (.mv (.cst (.b false)))]
def r_f2_32 : List CO := [
  O 169 (.mv (tm 23)),
 O 170 (.add (B .add ty_int) (tm 169) (.cst (iv 1))),
 O 23 (.mv (tm 170))]
def r_f2_36 : List CO := [
  O 198 (.mv (tm 8)),
 O 199 (.mv (tm 9)),
 O 200 (.mv (tm 22)),
 O 201 (.add (B .add ty_int) (.cst (iv 2)) (tm 200)),
 C 202 fn_c9 [(tm 198), (tm 199), (tm 201)],
 O 197 (.mv (tm 202)),
 O 203 (.ext 0 (tm 197)),
 O 204 (.ext 1 (tm 197)),
 O 205 (.ext 2 (tm 197)),
 O 26 (.mv (tm 203)),
 O 27 (.mv (tm 204)),
 O 28 (.mv (tm 205))]
def r_f2_37 : List CO := [
  O 206 (.mv (tm 28)),
 O 207 (.ne (B .neq ty_api_Errno) (tm 206) (.cst (iv 0)))]
def r_f2_38 : List CO := [
  O 4 (.mv (.cst (.b false)))]
def r_f2_39 : List CO := [
  O 29 (.mv (.cst (iv 0)))]
def r_f2_40 : List CO := [
  O 30 (.mv (.cst (iv 0)))]
def r_f2_41 : List CO := [
  O 208 (.mv (tm 30)),
 O 209 (.mv (tm 26)),
 O 210 (.len false (tm 209)),
 O 211 (.lt (B .lss ty_int) (tm 208) (tm 210))]
def r_f2_43 : List CO := [
  O 214 (.mv (tm 26)),
 O 215 (.mv (tm 30)),
 O 216 (.iaS 1 (tm 214) (tm 215)),
 O 217 (.load (tm 216)),
 O 218 (.ne (B .neq ty_int) (tm 217) (.cst (iv 0)))]
def r_f2_44 : List CO := [
  O 219 (.mv (tm 29)),
 O 220 (.add (B .add ty_int) (tm 219) (.cst (iv 1))),
 O 29 (.mv (tm 220))]
def r_f2_42 : List CO := [
  O 212 (.mv (tm 30)),
 O 213 (.add (B .add ty_int) (tm 212) (.cst (iv 1))),
 O 30 (.mv (tm 213))]
def r_f2_45 : List CO := [
  O 221 (.mv (tm 29)),
 O 222 (.mv (tm 22)),
 O 223 (.iaA 2 1 (tm 11) (tm 222)),
 O 224 (.load (tm 223)),
 O 225 (.len false (tm 224)),
 O 226 (.ne (B .neq ty_int) (tm 221) (tm 225))]
def r_f2_46 : List CO := [
  O 4 (.mv (.cst (.b false)))]
def r_f2_47 : List CO := [
  O 31 (.mv (.cst (iv 0)))]
def r_f2_48 : List CO := [
  O 227 (.mv (tm 31)),
 O 228 (.mv (tm 27)),
 O 229 (.len false (tm 228)),
 O 230 (.lt (B .lss ty_int) (tm 227) (tm 229))]
def r_f2_50 : List CO := [
  O 233 (.mv (tm 27)),
 O 234 (.mv (tm 31)),
 O 235 (.iaS 1 (tm 233) (tm 234)),
 O 236 (.load (tm 235)),
 O 237 (.fa 11 (tm 5)),
 O 238 (.load (tm 237)),
 O 239 (.lt (B .lss ty_int) (tm 236) (tm 238)),
 O 240 (.mv (tm 239)),
 G 241 240 false (.mv (tm 27)),
 G 242 240 false (.mv (tm 31)),
 G 243 240 false (.iaS 1 (tm 241) (tm 242)),
 G 244 240 false (.load (tm 243)),
 G 245 240 false (.fa 1 (tm 5)),
 G 246 240 false (.load (tm 245)),
 G 247 240 false (.ge (B .geq ty_int) (tm 244) (tm 246)),
 O 248 (.pick (tm 240) (.cst (.b true)) (tm 247))]
def r_f2_51 : List CO := [
  O 4 (.mv (.cst (.b false)))]
def r_f2_52 : List CO := [
  O 249 (.mv (tm 13)),
 O 250 (.mv (tm 27)),
 O 251 (.mv (tm 31)),
 O 252 (.iaS 1 (tm 250) (tm 251)),
 O 253 (.load (tm 252)),
 O 254 (.iaS 1 (tm 249) (tm 253)),
 O 255 (.load (tm 254)),
 O 256 (.add (B .add ty_int) (tm 255) (.cst (iv 1))),
 O 257 (.iaS 1 (tm 249) (tm 253)),
 .op none none (.store 1 (tm 257) (tm 256))]
def r_f2_49 : List CO := [
  O 231 (.mv (tm 31)),
 O 232 (.add (B .add ty_int) (tm 231) (.cst (iv 1))),
 O 31 (.mv (tm 232))]
def r_f2_29 : List CO := [
  O 161 (.mv (tm 22)),
 O 162 (.add (B .add ty_int) (tm 161) (.cst (iv 1))),
 O 22 (.mv (tm 162))]
def r_f2_53 : List CO := [
  O 32 (.mv (.cst (iv 0)))]
def r_f2_54 : List CO := [
  O 258 (.mv (tm 32)),
 O 259 (.fa 1 (tm 5)),
 O 260 (.load (tm 259)),
 O 261 (.lt (B .lss ty_int) (tm 258) (tm 260))]
def r_f2_56 : List CO := [
  O 264 (.mv (tm 13)),
 O 265 (.mv (tm 32)),
 O 266 (.iaS 1 (tm 264) (tm 265)),
 O 267 (.load (tm 266)),
 O 268 (.gt (B .gtr ty_int) (tm 267) (.cst (iv 1)))]
def r_f2_57 : List CO := [
  O 4 (.mv (.cst (.b false)))]
def r_f2_55 : List CO := [
  O 262 (.mv (tm 32)),
 O 263 (.add (B .add ty_int) (tm 262) (.cst (iv 1))),
 O 32 (.mv (tm 263))]
def r_f2_58 : List CO := [
  O 4 (.mv (.cst (.b true)))]
def r_b2_0 : List CO := [
  O 2 (.mv (.cst nilp)),
 O 3 (.mv (.cst (iv 0)))]
def r_b2_1 : List CO := [
  O 5 (.mv (tm 0)),
 O 6 (.eqp false (B .eql ty_pgroup_Group) (tm 5) (.cst nilp)),
 O 4 (.mv (tm 6))]
def r_b2_2 : List CO := [
  O 2 (.mv (.cst nilp)),
 O 3 (.mv (.cst (iv 1)))]
def r_b2_3 : List CO := [
  O 8 (.mv (tm 0)),
 O 9 (.nil (tm 8)),
 O 10 (.fa 17 (tm 9)),
 O 11 (.load (tm 10)),
 O 12 (.eqp true (B .neq ty_pgroup_Op) (tm 11) (.cst nilp)),
 O 7 (.mv (tm 12))]
def r_b2_4 : List CO := [
  O 2 (.mv (.cst nilp)),
 O 3 (.mv (.cst (iv 17)))]
def r_b2_5 : List CO := [
  O 13 (.mv (tm 0)),
 O 14 (.mv (tm 0)),
 O 15 (.mkmap none),
 O 16 (.mkmap none),
 O 17 (.mkmap none),
 O 18 (.build [nilp, nilm, nilm, nilm] [(0, 1, (tm 14)), (1, 1, (tm 15)), (2, 1, (tm 16)), (3, 1, (tm 17))]),
 O 19 (.box ty_group_Op (tm 18)),
 O 20 (.nil (tm 13)),
 O 21 (.fa 17 (tm 20)),
 .op none none (.store 1 (tm 21) (tm 19))]
def r_b2_6 : List CO := [
  O 22 (.mv (tm 0)),
 O 23 (.nil (tm 22)),
 O 24 (.fa 17 (tm 23)),
 O 25 (.load (tm 24)),
 O 2 (.mv (tm 25)),
 O 3 (.mv (.cst (iv 0)))]
def r_d3_0 : List CO := [
  O 8 (.mv (.cst (iv 0))),
 O 9 (.mv (.cst (.b false))),
 O 10 (.mv (.cst (iv 0)))]
def r_d3_1 : List CO := [
  O 15 (.mv (tm 0)),
 O 16 (.eqp false (B .eql ty_pinode_Table) (tm 15) (.cst nilp))]
def r_d3_2 : List CO := [
  O 8 (.mv (.cst (iv 0))),
 O 9 (.mv (.cst (.b false))),
 O 10 (.mv (.cst (iv 1)))]
def r_d3_3 : List CO := [
  O 18 (.mv (tm 0)),
 O 19 (.nil (tm 18)),
 O 20 (.fa 1 (tm 19)),
 O 21 (.loadN 12 (tm 20)),
 O 22 (.mv (tm 3)),
 C 23 fn_f3 [(tm 21), (tm 22)],
 O 17 (.mv (tm 23)),
 O 24 (.ext 0 (tm 17)),
 O 25 (.ext 1 (tm 17)),
 O 11 (.mv (tm 24)),
 O 10 (.mv (tm 25))]
def r_d3_4 : List CO := [
  O 26 (.mv (tm 10)),
 O 27 (.ne (B .neq ty_api_Errno) (tm 26) (.cst (iv 0)))]
def r_d3_5 : List CO := [
  O 28 (.mv (tm 10)),
 O 8 (.mv (.cst (iv 0))),
 O 9 (.mv (.cst (.b false))),
 O 10 (.mv (tm 28))]
def r_d3_6 : List CO := [
  O 29 (.mv (tm 2)),
 O 30 (.build [(iv 0), (iv 0), (iv 0)] [(0, 1, (tm 29))]),
 O 12 (.alloc ty_inode_slot 3 [(iv 0), (iv 0), (iv 0)]),
 .op none none (.store 3 (tm 12) (tm 30))]
def r_d3_7 : List CO := [
  O 31 (.mv (tm 11)),
 O 32 (.len false (tm 31)),
 O 33 (.mv (.cst (iv 0)))]
def r_d3_8 : List CO := [
  O 34 (.lt (B .lss ty_int) (tm 33) (tm 32))]
def r_d3_9 : List CO := [
  O 35 (.mv (tm 33)),
 O 36 (.iaS 1 (tm 31) (tm 33)),
 O 37 (.load (tm 36)),
 O 13 (.mv (tm 35)),
 O 14 (.mv (tm 37))]
def r_d3_10 : List CO := [
  O 38 (.mv (tm 14)),
 O 39 (.fa 2 (tm 12)),
 .op none none (.store 1 (tm 39) (tm 38))]
def r_d3_11 : List CO := [
  O 40 (.mv (tm 9)),
 O 41 (.mv (tm 40)),
 G 42 41 true (.mv (tm 13)),
 G 43 41 true (.gt (B .gtr ty_int) (tm 42) (.cst (iv 0))),
 O 44 (.pick (tm 41) (tm 43) (.cst (.b false)))]
def r_d3_12 : List CO := [
  O 45 (.mv (tm 1)),
 O 46 (.fa 1 (tm 12)),
 O 47 (.load (tm 46)),
 O 48 (.mv (tm 0)),
 O 49 (.nil (tm 48)),
 O 50 (.fa 1 (tm 49)),
 O 51 (.fa 0 (tm 50)),
 O 52 (.load (tm 51)),
 O 53 (.mksl ty_uint8 1 1 [(.y 0)] (tm 52) (tm 52)),
 C 54 fn_c3 [(tm 45), (tm 47), (tm 53)],
 O 10 (.mv (tm 54))]
def r_d3_13 : List CO := [
  O 55 (.mv (tm 10)),
 O 56 (.ne (B .neq ty_api_Errno) (tm 55) (.cst (iv 0)))]
def r_d3_14 : List CO := [
  O 57 (.mv (tm 10)),
 O 8 (.mv (.cst (iv 0))),
 O 9 (.mv (.cst (.b false))),
 O 10 (.mv (tm 57))]
def r_d3_15 : List CO := [
  O 59 (.mv (tm 0)),
 O 60 (.mv (tm 1)),
 O 61 (.loadN 3 (tm 12)),
 C 62 fn_d5 [(tm 59), (tm 60), (tm 61)],
 O 58 (.mv (tm 62)),
 O 63 (.ext 0 (tm 58)),
 O 64 (.ext 1 (tm 58)),
 O 8 (.mv (tm 63)),
 O 10 (.mv (tm 64))]
def r_d3_16 : List CO := [
  O 65 (.mv (tm 10)),
 O 66 (.ne (B .neq ty_api_Errno) (tm 65) (.cst (iv 0)))]
def r_d3_17 : List CO := [
  O 67 (.mv (tm 10)),
 O 8 (.mv (.cst (iv 0))),
 O 9 (.mv (.cst (.b false))),
 O 10 (.mv (tm 67))]
def r_d3_18 : List CO := [
  O 68 (.mv (tm 8)),
 O 69 (.eq (B .eql ty_int) (tm 68) (.cst (iv 0))),
 O 9 (.mv (tm 69))]
def r_d3_19 : List CO := [
  O 70 (.mv (tm 9))]
def r_d3_20 : List CO := [
  O 72 (.mv (tm 0)),
 O 73 (.nil (tm 72)),
 O 74 (.fa 0 (tm 73)),
 O 75 (.load (tm 74)),
 O 76 (.mv (tm 1)),
 C 77 fn_a0 [(tm 75), (tm 76)],
 O 71 (.mv (tm 77)),
 O 78 (.ext 0 (tm 71)),
 O 79 (.ext 1 (tm 71)),
 O 8 (.mv (tm 78)),
 O 10 (.mv (tm 79))]
def r_d3_21 : List CO := [
  O 80 (.mv (tm 10)),
 O 81 (.ne (B .neq ty_api_Errno) (tm 80) (.cst (iv 0)))]
def r_d3_22 : List CO := [
  O 82 (.mv (tm 10)),
 O 8 (.mv (.cst (iv 0))),
 O 9 (.mv (.cst (.b false))),
 O 10 (.mv (tm 82))]
def r_d3_23 : List CO := [
  O 83 (.mv (tm 0)),
 O 84 (.mv (tm 1)),
 O 85 (.loadN 3 (tm 12)),
 O 86 (.mv (tm 8)),
 C 87 fn_d7 [(tm 83), (tm 84), (tm 85), (tm 86)],
 O 10 (.mv (tm 87))]
def r_d3_24 : List CO := [
  O 88 (.mv (tm 10)),
 O 89 (.ne (B .neq ty_api_Errno) (tm 88) (.cst (iv 0)))]
def r_d3_25 : List CO := [
  O 90 (.mv (tm 10)),
 O 8 (.mv (.cst (iv 0))),
 O 9 (.mv (.cst (.b false))),
 O 10 (.mv (tm 90))]
def r_d3_26 : List CO := [
  O 91 (.mv (tm 8)),
 O 92 (.fa 1 (tm 12)),
 .op none none (.store 1 (tm 92) (tm 91))]
def r_d3_27 : List CO := [
  O 93 (.add (B .add ty_int) (tm 33) (.cst (iv 1))),
 O 33 (.mv (tm 93))]
def r_d3_28 : List CO := [
  O 94 (.mv (tm 8)),
 O 95 (.mv (tm 9)),
 O 8 (.mv (tm 94)),
 O 9 (.mv (tm 95)),
 O 10 (.mv (.cst (iv 0)))]
def r_c9_0 : List CO := [
  O 3 (.box ty_pinode_Table (tm 0)),
 O 4 (.box ty_pgroup_Op (tm 1)),
 O 5 (.box ty_int (tm 2)),
 O 6 (.mv (.cst nils)),
 O 7 (.mv (.cst nils)),
 O 8 (.mv (.cst (iv 0)))]
def r_c9_1 : List CO := [
  O 19 (.load (tm 3)),
 O 20 (.eqp false (B .eql ty_pinode_Table) (tm 19) (.cst nilp))]
def r_c9_2 : List CO := [
  O 6 (.mv (.cst nils)),
 O 7 (.mv (.cst nils)),
 O 8 (.mv (.cst (iv 1)))]
def r_c9_3 : List CO := [
  O 22 (.load (tm 3)),
 O 23 (.load (tm 4)),
 O 24 (.load (tm 5)),
 C 25 fn_d2 [(tm 22), (tm 23), (tm 24)],
 O 21 (.mv (tm 25)),
 O 26 (.ext 0 (tm 21)),
 O 27 (.ext 1 (tm 21)),
 O 9 (.alloc ty_api_Inode 13 [(iv 0), (iv 0), (iv 0), (iv 0), (iv 0), (iv 0), (iv 0), (iv 0), (iv 0), (iv 0), (iv 0), (iv 0), (iv 0)]),
 .op none none (.store 13 (tm 9) (tm 26)),
 O 8 (.mv (tm 27))]
def r_c9_4 : List CO := [
  O 28 (.mv (tm 8)),
 O 29 (.ne (B .neq ty_api_Errno) (tm 28) (.cst (iv 0)))]
def r_c9_5 : List CO := [
  O 30 (.mv (tm 8)),
 O 6 (.mv (.cst nils)),
 O 7 (.mv (.cst nils)),
 O 8 (.mv (tm 30))]
def r_c9_6 : List CO := [
  O 31 (.mkmap none),
 O 10 (.alloc ty_map_int_int 1 [nilm]),
 .op none none (.store 1 (tm 10) (tm 31))]
def r_c9_7 : List CO := [
  O 11 (.alloc ty_int 1 [(iv 0)]),
 .op none none (.store 1 (tm 11) (.cst (iv (-1))))]
def r_c9_8 : List CO := [
  O 12 (.alloc ty_sint 1 [nils])]
def r_c9_9 : List CO := [
  O 13 (.alloc ty_func_int_int_int_api_Errno 1 [nilf])]
def r_c9_10 : List CO := [
  O 32 (.fn fn_d0 [(tm 10), (tm 11), (tm 12), (tm 3), (tm 4), (tm 5), (tm 13)]),
 .op none none (.store 1 (tm 13) (tm 32))]
def r_c9_11 : List CO := [
  O 33 (.mv (.cst (iv 0)))]
def r_c9_12 : List CO := [
  O 34 (.lt (B .lss ty_int) (tm 33) (.cst (iv 10)))]
def r_c9_13 : List CO := [
  O 35 (.mv (tm 33)),
 O 14 (.mv (tm 35))]
def r_c9_14 : List CO := [
  O 36 (.mv (tm 14)),
 O 15 (.mv (tm 36)),
 O 16 (.mv (.cst (iv 0)))]
def r_c9_15 : List CO := [
  O 37 (.mv (tm 14))]
def r_c9_16 : List CO := [
  O 39 (.eq (B .eql ty_int) (tm 37) (.cst (iv 8))),
 O 38 (.mv (tm 39))]
def r_c9_17 : List CO := [
  O 16 (.mv (.cst (iv 1)))]
def r_c9_18 : List CO := [
  O 41 (.eq (B .eql ty_int) (tm 37) (.cst (iv 9))),
 O 40 (.mv (tm 41))]
def r_c9_19 : List CO := [
  O 42 (.load (tm 3)),
 O 43 (.nil (tm 42)),
 O 44 (.fa 13 (tm 43)),
 O 45 (.load (tm 44)),
 O 46 (.add (B .add ty_int) (.cst (iv 8)) (tm 45)),
 O 15 (.mv (tm 46)),
 O 16 (.mv (.cst (iv 2)))]
def r_c9_20 : List CO := [
  O 47 (.load (tm 13)),
 O 48 (.mv (tm 14)),
 C 49 fn_e9 [(tm 9), (tm 48)],
 O 50 (.nil (tm 49)),
 O 51 (.load (tm 50)),
 O 52 (.mv (tm 15)),
 O 53 (.mv (tm 16)),
 .call (some (pth 54)) none (tm 47) [(tm 51), (tm 52), (tm 53)],
 O 17 (.mv (tm 54))]
def r_c9_21 : List CO := [
  O 55 (.mv (tm 17)),
 O 56 (.ne (B .neq ty_api_Errno) (tm 55) (.cst (iv 0)))]
def r_c9_22 : List CO := [
  O 57 (.mv (tm 17)),
 O 6 (.mv (.cst nils)),
 O 7 (.mv (.cst nils)),
 O 8 (.mv (tm 57))]
def r_c9_23 : List CO := [
  O 58 (.add (B .add ty_int) (tm 33) (.cst (iv 1))),
 O 33 (.mv (tm 58))]
def r_c9_24 : List CO := [
  O 59 (.load (tm 11)),
 O 60 (.add (B .add ty_int) (tm 59) (.cst (iv 1))),
 O 61 (.mv (.cst (iv 0)))]
def r_c9_25 : List CO := [
  O 62 (.lt (B .lss ty_int) (tm 61) (tm 60))]
def r_c9_26 : List CO := [
  O 63 (.mv (tm 61)),
 O 18 (.mv (tm 63))]
def r_c9_27 : List CO := [
  O 64 (.mv (tm 6)),
 O 65 (.load (tm 10)),
 O 66 (.mv (tm 18)),
 O 67 (.look (some .i64) (iv 0) false (tm 65) (tm 66)),
 O 68 (.bslice ty_int 1 1 [(iv 0)] [(0, 1, (tm 67))]),
 O 69 (.app ty_int 1 8 [(iv 0)] (tm 64) (tm 68)),
 O 6 (.mv (tm 69))]
def r_c9_28 : List CO := [
  O 70 (.add (B .add ty_int) (tm 61) (.cst (iv 1))),
 O 61 (.mv (tm 70))]
def r_c9_29 : List CO := [
  O 71 (.mv (tm 6)),
 O 72 (.load (tm 12)),
 O 6 (.mv (tm 71)),
 O 7 (.mv (tm 72)),
 O 8 (.mv (.cst (iv 0)))]
def r_d1_0 : List CO := [
  O 8 (.mv (.cst (iv 0))),
 O 9 (.mv (.cst (iv 0)))]
def r_d1_1 : List CO := [
  O 14 (.mv (tm 0)),
 O 15 (.eqp false (B .eql ty_pinode_Table) (tm 14) (.cst nilp))]
def r_d1_2 : List CO := [
  O 8 (.mv (.cst (iv 0))),
 O 9 (.mv (.cst (iv 1)))]
def r_d1_3 : List CO := [
  O 17 (.mv (tm 0)),
 O 18 (.nil (tm 17)),
 O 19 (.fa 1 (tm 18)),
 O 20 (.loadN 12 (tm 19)),
 O 21 (.mv (tm 3)),
 C 22 fn_f3 [(tm 20), (tm 21)],
 O 16 (.mv (tm 22)),
 O 23 (.ext 0 (tm 16)),
 O 24 (.ext 1 (tm 16)),
 O 10 (.mv (tm 23)),
 O 11 (.mv (tm 24))]
def r_d1_4 : List CO := [
  O 25 (.mv (tm 11)),
 O 26 (.ne (B .neq ty_api_Errno) (tm 25) (.cst (iv 0)))]
def r_d1_5 : List CO := [
  O 27 (.mv (tm 11)),
 O 8 (.mv (.cst (iv 0))),
 O 9 (.mv (tm 27))]
def r_d1_6 : List CO := [
  O 28 (.mv (tm 2)),
 O 29 (.build [(iv 0), (iv 0), (iv 0)] [(0, 1, (tm 28))]),
 O 12 (.alloc ty_inode_slot 3 [(iv 0), (iv 0), (iv 0)]),
 .op none none (.store 3 (tm 12) (tm 29))]
def r_d1_7 : List CO := [
  O 13 (.mv (.cst (iv 0)))]
def r_d1_8 : List CO := [
  O 30 (.mv (tm 10)),
 O 31 (.len false (tm 30)),
 O 32 (.mv (.cst (iv 0)))]
def r_d1_9 : List CO := [
  O 33 (.lt (B .lss ty_int) (tm 32) (tm 31))]
def r_d1_10 : List CO := [
  O 34 (.iaS 1 (tm 30) (tm 32)),
 O 35 (.load (tm 34)),
 O 36 (.fa 2 (tm 12)),
 .op none none (.store 1 (tm 36) (tm 35))]
def r_d1_11 : List CO := [
  O 38 (.mv (tm 0)),
 O 39 (.mv (tm 1)),
 O 40 (.loadN 3 (tm 12)),
 C 41 fn_d5 [(tm 38), (tm 39), (tm 40)],
 O 37 (.mv (tm 41)),
 O 42 (.ext 0 (tm 37)),
 O 43 (.ext 1 (tm 37)),
 O 13 (.mv (tm 42)),
 O 11 (.mv (tm 43))]
def r_d1_12 : List CO := [
  O 44 (.mv (tm 11)),
 O 45 (.ne (B .neq ty_api_Errno) (tm 44) (.cst (iv 0)))]
def r_d1_13 : List CO := [
  O 46 (.mv (tm 11)),
 O 8 (.mv (.cst (iv 0))),
 O 9 (.mv (tm 46))]
def r_d1_14 : List CO := [
  O 47 (.mv (tm 13)),
 O 48 (.eq (B .eql ty_int) (tm 47) (.cst (iv 0)))]
def r_d1_15 : List CO := [
  O 49 (.mv (tm 13)),
 O 50 (.fa 1 (tm 12)),
 .op none none (.store 1 (tm 50) (tm 49))]
def r_d1_16 : List CO := [
  O 51 (.add (B .add ty_int) (tm 32) (.cst (iv 1))),
 O 32 (.mv (tm 51))]
def r_d1_17 : List CO := [
  O 52 (.mv (tm 13)),
 O 8 (.mv (tm 52)),
 O 9 (.mv (.cst (iv 0)))]
def r_d4_0 : List CO := [
  O 7 (.box ty_api_Inode (tm 3)),
 O 8 (.mv (.cst (iv 0)))]
def r_d4_1 : List CO := [
  O 17 (.mv (tm 0)),
 O 18 (.eqp false (B .eql ty_pinode_Table) (tm 17) (.cst nilp))]
def r_d4_2 : List CO := [
  O 8 (.mv (.cst (iv 1)))]
def r_d4_3 : List CO := [
  O 20 (.mv (tm 0)),
 O 21 (.nil (tm 20)),
 O 22 (.fa 1 (tm 21)),
 O 23 (.loadN 12 (tm 22)),
 O 24 (.mv (tm 2)),
 C 25 fn_plan_Place [(tm 23), (tm 24)],
 O 19 (.mv (tm 25)),
 O 26 (.ext 0 (tm 19)),
 O 27 (.ext 1 (tm 19)),
 O 28 (.ext 2 (tm 19)),
 O 9 (.mv (tm 26)),
 O 10 (.mv (tm 27)),
 O 11 (.mv (tm 28))]
def r_d4_4 : List CO := [
  O 29 (.mv (tm 11)),
 O 30 (.ne (B .neq ty_api_Errno) (tm 29) (.cst (iv 0)))]
def r_d4_5 : List CO := [
  O 31 (.mv (tm 11)),
 O 8 (.mv (tm 31))]
def r_d4_6 : List CO := [
  O 33 (.loadN 13 (tm 7)),
 C 34 fn_e2 [(tm 33)],
 O 32 (.mv (tm 34)),
 O 35 (.ext 0 (tm 32)),
 O 36 (.ext 1 (tm 32)),
 O 12 (.mv (tm 35)),
 O 13 (.mv (tm 36))]
def r_d4_7 : List CO := [
  O 37 (.mv (tm 13)),
 O 38 (.ne (B .neq ty_api_Errno) (tm 37) (.cst (iv 0)))]
def r_d4_8 : List CO := [
  O 39 (.mv (tm 13)),
 O 8 (.mv (tm 39))]
def r_d4_9 : List CO := [
  O 41 (.mv (tm 0)),
 O 42 (.mv (tm 1)),
 O 43 (.mv (tm 2)),
 C 44 fn_d6 [(tm 41), (tm 42), (tm 43)],
 O 40 (.mv (tm 44)),
 O 45 (.ext 0 (tm 40)),
 O 46 (.ext 1 (tm 40)),
 O 47 (.ext 2 (tm 40)),
 O 48 (.ext 3 (tm 40)),
 O 14 (.mv (tm 45)),
 O 15 (.mv (tm 46)),
 O 16 (.mv (tm 47)),
 O 13 (.mv (tm 48))]
def r_d4_10 : List CO := [
  O 49 (.mv (tm 13)),
 O 50 (.ne (B .neq ty_api_Errno) (tm 49) (.cst (iv 0)))]
def r_d4_11 : List CO := [
  O 51 (.mv (tm 13)),
 O 8 (.mv (tm 51))]
def r_d4_12 : List CO := [
  O 52 (.mv (tm 16)),
 O 53 (.mv (tm 15)),
 O 54 (.sl 1 false (tm 52) (some (tm 53)) none none),
 O 55 (.mv (tm 12)),
 O 56 (.copy 1 (tm 54) (tm 55))]
def r_d4_13 : List CO := [
  O 57 (.mv (tm 1)),
 O 58 (.mv (tm 14)),
 O 59 (.mv (tm 16)),
 C 60 fn_c3 [(tm 57), (tm 58), (tm 59)],
 O 8 (.mv (tm 60))]
def r_d2_0 : List CO := [
  O 6 (.alloc ty_api_Inode 13 [(iv 0), (iv 0), (iv 0), (iv 0), (iv 0), (iv 0), (iv 0), (iv 0), (iv 0), (iv 0), (iv 0), (iv 0), (iv 0)]),
 O 7 (.mv (.cst (iv 0)))]
def r_d2_1 : List CO := [
  O 13 (.mv (tm 0)),
 O 14 (.eqp false (B .eql ty_pinode_Table) (tm 13) (.cst nilp))]
def r_d2_2 : List CO := [
  O 15 (.build [(iv 0), (iv 0), (iv 0), (iv 0), (iv 0), (iv 0), (iv 0), (iv 0), (iv 0), (iv 0), (iv 0), (iv 0), (iv 0)] []),
 .op none none (.store 13 (tm 6) (tm 15)),
 O 7 (.mv (.cst (iv 1)))]
def r_d2_3 : List CO := [
  O 17 (.mv (tm 0)),
 O 18 (.mv (tm 1)),
 O 19 (.mv (tm 2)),
 C 20 fn_d6 [(tm 17), (tm 18), (tm 19)],
 O 16 (.mv (tm 20)),
 O 21 (.ext 0 (tm 16)),
 O 22 (.ext 1 (tm 16)),
 O 23 (.ext 2 (tm 16)),
 O 24 (.ext 3 (tm 16)),
 O 8 (.mv (tm 21)),
 O 9 (.mv (tm 22)),
 O 10 (.mv (tm 23)),
 O 11 (.mv (tm 24))]
def r_d2_4 : List CO := [
  O 25 (.mv (tm 11)),
 O 26 (.ne (B .neq ty_api_Errno) (tm 25) (.cst (iv 0)))]
def r_d2_5 : List CO := [
  O 27 (.build [(iv 0), (iv 0), (iv 0), (iv 0), (iv 0), (iv 0), (iv 0), (iv 0), (iv 0), (iv 0), (iv 0), (iv 0), (iv 0)] []),
 O 28 (.mv (tm 11)),
 .op none none (.store 13 (tm 6) (tm 27)),
 O 7 (.mv (tm 28))]
def r_d2_6 : List CO := [
  O 30 (.mv (tm 10)),
 O 31 (.mv (tm 9)),
 O 32 (.mv (tm 9)),
 O 33 (.add (B .add ty_int) (tm 32) (.cst (iv 32))),
 O 34 (.sl 1 false (tm 30) (some (tm 31)) (some (tm 33)) none),
 C 35 fn_e3 [(tm 34)],
 O 29 (.mv (tm 35)),
 O 36 (.ext 0 (tm 29)),
 O 37 (.ext 1 (tm 29)),
 O 12 (.alloc ty_api_Inode 13 [(iv 0), (iv 0), (iv 0), (iv 0), (iv 0), (iv 0), (iv 0), (iv 0), (iv 0), (iv 0), (iv 0), (iv 0), (iv 0)]),
 .op none none (.store 13 (tm 12) (tm 36)),
 O 11 (.mv (tm 37))]
def r_d2_7 : List CO := [
  O 38 (.mv (tm 11)),
 O 39 (.ne (B .neq ty_api_Errno) (tm 38) (.cst (iv 0)))]
def r_d2_8 : List CO := [
  O 40 (.build [(iv 0), (iv 0), (iv 0), (iv 0), (iv 0), (iv 0), (iv 0), (iv 0), (iv 0), (iv 0), (iv 0), (iv 0), (iv 0)] []),
 .op none none (.store 13 (tm 6) (tm 40)),
 O 7 (.mv (.cst (iv 9)))]
def r_d2_9 : List CO := [
  O 41 (.loadN 13 (tm 12)),
 .op none none (.store 13 (tm 6) (tm 41)),
 O 7 (.mv (.cst (iv 0)))]
def r_f3_0 : List CO := [
  O 2 (.box ty_api_Plan (tm 0)),
 O 4 (.mv (.cst nils)),
 O 5 (.mv (.cst (iv 0)))]
def r_f3_1 : List CO := [
  O 11 (.loadN 12 (tm 2)),
 C 12 fn_plan_MaxSize [(tm 11)],
 O 10 (.mv (tm 12)),
 O 13 (.ext 0 (tm 10)),
 O 14 (.ext 1 (tm 10)),
 O 6 (.mv (tm 13)),
 O 7 (.mv (tm 14))]
def r_f3_2 : List CO := [
  O 15 (.mv (tm 7)),
 O 16 (.ne (B .neq ty_api_Errno) (tm 15) (.cst (iv 0)))]
def r_f3_3 : List CO := [
  O 17 (.mv (tm 7)),
 O 4 (.mv (.cst nils)),
 O 5 (.mv (tm 17))]
def r_f3_4 : List CO := [
  O 18 (.mv (tm 1)),
 O 19 (.mv (tm 6)),
 O 20 (.sub (B .sub ty_int) (tm 19) (.cst (iv 1))),
 O 21 (.fa 0 (tm 2)),
 O 22 (.load (tm 21)),
 O 23 (.quo (B .quo ty_int) (tm 20) (tm 22)),
 C 24 fn_f4 [(tm 18), (.cst (iv 0)), (tm 23)],
 O 25 (.un .not (tm 24))]
def r_f3_5 : List CO := [
  O 4 (.mv (.cst nils)),
 O 5 (.mv (.cst (iv 2)))]
def r_f3_6 : List CO := [
  O 26 (.fa 0 (tm 2)),
 O 27 (.load (tm 26)),
 O 28 (.quo (B .quo ty_int) (tm 27) (.cst (iv 2))),
 O 8 (.mv (tm 28))]
def r_f3_7 : List CO := [
  O 29 (.mv (tm 1)),
 O 30 (.sub (B .sub ty_int) (tm 29) (.cst (iv 8))),
 O 9 (.mv (tm 30))]
def r_f3_10 : List CO := [
  O 42 (.mv (tm 9)),
 O 43 (.lt (B .lss ty_int) (tm 42) (.cst (iv 0))),
 O 41 (.mv (tm 43))]
def r_f3_11 : List CO := [
  O 44 (.mv (tm 1)),
 O 45 (.bslice ty_int 1 1 [(iv 0)] [(0, 1, (tm 44))]),
 O 4 (.mv (tm 45)),
 O 5 (.mv (.cst (iv 0)))]
def r_f3_12 : List CO := [
  O 47 (.mv (tm 9)),
 O 48 (.mv (tm 8)),
 O 49 (.lt (B .lss ty_int) (tm 47) (tm 48)),
 O 46 (.mv (tm 49))]
def r_f3_13 : List CO := [
  O 50 (.mv (tm 9)),
 O 51 (.bslice ty_int 2 2 [(iv 0)] [(0, 1, (.cst (iv 8))), (1, 1, (tm 50))]),
 O 4 (.mv (tm 51)),
 O 5 (.mv (.cst (iv 0)))]
def r_f3_8 : List CO := [
  O 31 (.mv (tm 9)),
 O 32 (.mv (tm 8)),
 O 33 (.sub (B .sub ty_int) (tm 31) (tm 32)),
 O 9 (.mv (tm 33))]
def r_f3_9 : List CO := [
  O 34 (.mv (tm 9)),
 O 35 (.mv (tm 8)),
 O 36 (.quo (B .quo ty_int) (tm 34) (tm 35)),
 O 37 (.mv (tm 9)),
 O 38 (.mv (tm 8)),
 O 39 (.rem (B .rem ty_int) (tm 37) (tm 38)),
 O 40 (.bslice ty_int 3 3 [(iv 0)] [(0, 1, (.cst (iv 9))), (1, 1, (tm 36)), (2, 1, (tm 39))]),
 O 4 (.mv (tm 40)),
 O 5 (.mv (.cst (iv 0)))]
def r_c3_0 : List CO := [
  O 6 (.mv (.cst (iv 0)))]
def r_c3_1 : List CO := [
  O 7 (.mv (tm 0)),
 O 8 (.mv (tm 1)),
 O 9 (.mv (tm 2)),
 C 10 fn_c8 [(tm 7), (.cst (.func fn_c4 [])), (.cst (.func fn_c5 [])), (tm 8), (tm 9)],
 O 6 (.mv (tm 10))]
def r_d5_0 : List CO := [
  O 5 (.box ty_inode_slot (tm 2)),
 O 6 (.mv (.cst (iv 0))),
 O 7 (.mv (.cst (iv 0)))]
def r_d5_1 : List CO := [
  O 12 (.fa 1 (tm 5)),
 O 13 (.load (tm 12)),
 O 14 (.eq (B .eql ty_int) (tm 13) (.cst (iv 0)))]
def r_d5_2 : List CO := [
  O 16 (.mv (tm 0)),
 O 17 (.mv (tm 1)),
 O 18 (.fa 0 (tm 5)),
 O 19 (.load (tm 18)),
 C 20 fn_d2 [(tm 16), (tm 17), (tm 19)],
 O 15 (.mv (tm 20)),
 O 21 (.ext 0 (tm 15)),
 O 22 (.ext 1 (tm 15)),
 O 8 (.alloc ty_api_Inode 13 [(iv 0), (iv 0), (iv 0), (iv 0), (iv 0), (iv 0), (iv 0), (iv 0), (iv 0), (iv 0), (iv 0), (iv 0), (iv 0)]),
 .op none none (.store 13 (tm 8) (tm 21)),
 O 9 (.mv (tm 22))]
def r_d5_3 : List CO := [
  O 23 (.fa 2 (tm 5)),
 O 24 (.load (tm 23)),
 C 25 fn_e9 [(tm 8), (tm 24)],
 O 26 (.nil (tm 25)),
 O 27 (.load (tm 26)),
 O 28 (.mv (tm 9)),
 O 6 (.mv (tm 27)),
 O 7 (.mv (tm 28))]
def r_d5_4 : List CO := [
  O 30 (.mv (tm 1)),
 O 31 (.fa 1 (tm 5)),
 O 32 (.load (tm 31)),
 C 33 fn_c2 [(tm 30), (tm 32)],
 O 29 (.mv (tm 33)),
 O 34 (.ext 0 (tm 29)),
 O 35 (.ext 1 (tm 29)),
 O 10 (.mv (tm 34)),
 O 11 (.mv (tm 35))]
def r_d5_5 : List CO := [
  O 36 (.mv (tm 11)),
 O 37 (.ne (B .neq ty_api_Errno) (tm 36) (.cst (iv 0)))]
def r_d5_6 : List CO := [
  O 38 (.mv (tm 11)),
 O 6 (.mv (.cst (iv 0))),
 O 7 (.mv (tm 38))]
def r_d5_7 : List CO := [
  O 39 (.mv (tm 10)),
 O 40 (.fa 2 (tm 5)),
 O 41 (.load (tm 40)),
 O 42 (.mul (B .mul ty_int) (.cst (iv 2)) (tm 41)),
 C 43 fn_e5 [(tm 39), (tm 42), (.cst (iv 2))],
 O 44 (.ext 0 (tm 43)),
 O 45 (.ext 1 (tm 43)),
 O 6 (.mv (tm 44)),
 O 7 (.mv (tm 45))]
def r_a0_0 : List CO := [
  O 4 (.mv (.cst (iv 0))),
 O 5 (.mv (.cst (iv 0)))]
def r_a0_1 : List CO := [
  O 6 (.mv (tm 0)),
 O 7 (.eqp false (B .eql ty_palloc_Alloc) (tm 6) (.cst nilp))]
def r_a0_2 : List CO := [
  O 4 (.mv (.cst (iv 0))),
 O 5 (.mv (.cst (iv 1)))]
def r_a0_3 : List CO := [
  O 8 (.mv (tm 0)),
 O 9 (.nil (tm 8)),
 O 10 (.fa 13 (tm 9)),
 O 11 (.loadN 2 (tm 10)),
 O 12 (.mv (tm 1)),
 O 13 (.mv (tm 0)),
 O 14 (.nil (tm 13)),
 O 15 (.fa 1 (tm 14)),
 O 16 (.fa 11 (tm 15)),
 O 17 (.load (tm 16)),
 O 18 (.mv (tm 0)),
 O 19 (.nil (tm 18)),
 O 20 (.fa 1 (tm 19)),
 O 21 (.fa 1 (tm 20)),
 O 22 (.load (tm 21)),
 O 23 (.mv (tm 0)),
 O 24 (.nil (tm 23)),
 O 25 (.fa 0 (tm 24)),
 O 26 (.load (tm 25)),
 O 27 (.bfn fn_b3 [(tm 26)]),
 C 28 fn_a5 [(tm 11), (tm 12), (tm 17), (tm 22), (tm 27)],
 O 29 (.ext 0 (tm 28)),
 O 30 (.ext 1 (tm 28)),
 O 4 (.mv (tm 29)),
 O 5 (.mv (tm 30))]
def r_d7_0 : List CO := [
  O 6 (.box ty_inode_slot (tm 2)),
 O 8 (.mv (.cst (iv 0)))]
def r_d7_1 : List CO := [
  O 13 (.fa 1 (tm 6)),
 O 14 (.load (tm 13)),
 O 15 (.eq (B .eql ty_int) (tm 14) (.cst (iv 0)))]
def r_d7_2 : List CO := [
  O 17 (.mv (tm 0)),
 O 18 (.mv (tm 1)),
 O 19 (.fa 0 (tm 6)),
 O 20 (.load (tm 19)),
 C 21 fn_d2 [(tm 17), (tm 18), (tm 20)],
 O 16 (.mv (tm 21)),
 O 22 (.ext 0 (tm 16)),
 O 23 (.ext 1 (tm 16)),
 O 9 (.alloc ty_api_Inode 13 [(iv 0), (iv 0), (iv 0), (iv 0), (iv 0), (iv 0), (iv 0), (iv 0), (iv 0), (iv 0), (iv 0), (iv 0), (iv 0)]),
 .op none none (.store 13 (tm 9) (tm 22)),
 O 10 (.mv (tm 23))]
def r_d7_3 : List CO := [
  O 24 (.mv (tm 10)),
 O 25 (.ne (B .neq ty_api_Errno) (tm 24) (.cst (iv 0)))]
def r_d7_4 : List CO := [
  O 26 (.mv (tm 10)),
 O 8 (.mv (tm 26))]
def r_d7_5 : List CO := [
  O 27 (.fa 2 (tm 6)),
 O 28 (.load (tm 27)),
 C 29 fn_e9 [(tm 9), (tm 28)],
 O 30 (.mv (tm 3)),
 O 31 (.nil (tm 29)),
 .op none none (.store 1 (tm 31) (tm 30))]
def r_d7_6 : List CO := [
  O 32 (.mv (tm 0)),
 O 33 (.mv (tm 1)),
 O 34 (.fa 0 (tm 6)),
 O 35 (.load (tm 34)),
 O 36 (.loadN 13 (tm 9)),
 C 37 fn_d4 [(tm 32), (tm 33), (tm 35), (tm 36)],
 O 8 (.mv (tm 37))]
def r_d7_7 : List CO := [
  O 39 (.mv (tm 1)),
 O 40 (.fa 1 (tm 6)),
 O 41 (.load (tm 40)),
 C 42 fn_c2 [(tm 39), (tm 41)],
 O 38 (.mv (tm 42)),
 O 43 (.ext 0 (tm 38)),
 O 44 (.ext 1 (tm 38)),
 O 11 (.mv (tm 43)),
 O 12 (.mv (tm 44))]
def r_d7_8 : List CO := [
  O 45 (.mv (tm 12)),
 O 46 (.ne (B .neq ty_api_Errno) (tm 45) (.cst (iv 0)))]
def r_d7_9 : List CO := [
  O 47 (.mv (tm 12)),
 O 8 (.mv (tm 47))]
def r_d7_10 : List CO := [
  O 49 (.mv (tm 11)),
 O 50 (.fa 2 (tm 6)),
 O 51 (.load (tm 50)),
 O 52 (.mul (B .mul ty_int) (.cst (iv 2)) (tm 51)),
 O 53 (.mv (tm 3)),
 C 54 fn_e6 [(tm 49), (tm 52), (.cst (iv 2)), (tm 53)],
 O 48 (.mv (tm 54)),
 O 55 (.ext 0 (tm 48)),
 O 56 (.ext 1 (tm 48)),
 O 11 (.mv (tm 55)),
 O 12 (.mv (tm 56))]
def r_d7_11 : List CO := [
  O 57 (.mv (tm 12)),
 O 58 (.ne (B .neq ty_api_Errno) (tm 57) (.cst (iv 0)))]
def r_d7_12 : List CO := [
  O 59 (.mv (tm 12)),
 O 8 (.mv (tm 59))]
def r_d7_13 : List CO := [
  O 60 (.mv (tm 1)),
 O 61 (.fa 1 (tm 6)),
 O 62 (.load (tm 61)),
 O 63 (.mv (tm 11)),
 C 64 fn_c3 [(tm 60), (tm 62), (tm 63)],
 O 8 (.mv (tm 64))]
def r_d0_0 : List CO := [
  O 13 (.mv (.cst (iv 0)))]
def r_d0_1 : List CO := [
  O 19 (.mv (tm 0)),
 O 20 (.eq (B .eql ty_int) (tm 19) (.cst (iv 0)))]
def r_d0_2 : List CO := [
  O 13 (.mv (.cst (iv 0)))]
def r_d0_3 : List CO := [
  O 21 (.mv (tm 2)),
 O 22 (.eq (B .eql ty_int) (tm 21) (.cst (iv 0)))]
def r_d0_4 : List CO := [
  O 23 (.load (tm 3)),
 O 24 (.mv (tm 1)),
 O 25 (.mv (tm 0)),
 .op none none (.mupd (some .i64) (tm 23) (tm 24) (tm 25))]
def r_d0_5 : List CO := [
  O 26 (.load (tm 4)),
 O 27 (.mv (tm 1)),
 O 28 (.max (tm 26) (tm 27)),
 .op none none (.store 1 (tm 4) (tm 28))]
def r_d0_6 : List CO := [
  O 13 (.mv (.cst (iv 0)))]
def r_d0_7 : List CO := [
  O 29 (.load (tm 5)),
 O 30 (.mv (tm 0)),
 O 31 (.bslice ty_int 1 1 [(iv 0)] [(0, 1, (tm 30))]),
 O 32 (.app ty_int 1 8 [(iv 0)] (tm 29) (tm 31)),
 .op none none (.store 1 (tm 5) (tm 32))]
def r_d0_8 : List CO := [
  O 33 (.load (tm 6)),
 O 34 (.nil (tm 33)),
 O 35 (.fa 13 (tm 34)),
 O 36 (.load (tm 35)),
 O 37 (.mv (.cst (iv 0)))]
def r_d0_9 : List CO := [
  O 38 (.lt (B .lss ty_int) (tm 37) (tm 36))]
def r_d0_10 : List CO := [
  O 39 (.mv (tm 37)),
 O 14 (.mv (tm 39))]
def r_d0_11 : List CO := [
  O 41 (.load (tm 6)),
 O 42 (.load (tm 7)),
 O 43 (.load (tm 8)),
 O 44 (.mv (tm 0)),
 O 45 (.mv (tm 14)),
 O 46 (.build [(iv 0), (iv 0), (iv 0)] [(0, 1, (tm 43)), (1, 1, (tm 44)), (2, 1, (tm 45))]),
 C 47 fn_d5 [(tm 41), (tm 42), (tm 46)],
 O 40 (.mv (tm 47)),
 O 48 (.ext 0 (tm 40)),
 O 49 (.ext 1 (tm 40)),
 O 15 (.mv (tm 48)),
 O 16 (.mv (tm 49))]
def r_d0_12 : List CO := [
  O 50 (.mv (tm 16)),
 O 51 (.ne (B .neq ty_api_Errno) (tm 50) (.cst (iv 0)))]
def r_d0_13 : List CO := [
  O 52 (.mv (tm 16)),
 O 13 (.mv (tm 52))]
def r_d0_14 : List CO := [
  O 53 (.mv (tm 1)),
 O 54 (.mv (tm 14)),
 O 55 (.add (B .add ty_int) (tm 53) (tm 54)),
 O 17 (.mv (tm 55))]
def r_d0_15 : List CO := [
  O 56 (.mv (tm 2)),
 O 57 (.eq (B .eql ty_int) (tm 56) (.cst (iv 2)))]
def r_d0_16 : List CO := [
  O 58 (.mv (tm 1)),
 O 59 (.mv (tm 14)),
 O 60 (.load (tm 6)),
 O 61 (.nil (tm 60)),
 O 62 (.fa 13 (tm 61)),
 O 63 (.load (tm 62)),
 O 64 (.mul (B .mul ty_int) (tm 59) (tm 63)),
 O 65 (.add (B .add ty_int) (tm 58) (tm 64)),
 O 17 (.mv (tm 65))]
def r_d0_17 : List CO := [
  O 66 (.load (tm 9)),
 O 67 (.mv (tm 15)),
 O 68 (.mv (tm 17)),
 O 69 (.mv (tm 2)),
 O 70 (.sub (B .sub ty_int) (tm 69) (.cst (iv 1))),
 .call (some (pth 71)) none (tm 66) [(tm 67), (tm 68), (tm 70)],
 O 18 (.mv (tm 71))]
def r_d0_18 : List CO := [
  O 72 (.mv (tm 18)),
 O 73 (.ne (B .neq ty_api_Errno) (tm 72) (.cst (iv 0)))]
def r_d0_19 : List CO := [
  O 74 (.mv (tm 18)),
 O 13 (.mv (tm 74))]
def r_d0_20 : List CO := [
  O 75 (.add (B .add ty_int) (tm 37) (.cst (iv 1))),
 O 37 (.mv (tm 75))]
def r_d0_21 : List CO := [
  O 13 (.mv (.cst (iv 0)))]
def r_e9_0 : List CO := [
  O 4 (.mv (.cst nilp))]
def r_e9_1 : List CO := [
  O 5 (.mv (tm 1))]
def r_e9_2 : List CO := [
  O 7 (.eq (B .eql ty_int) (tm 5) (.cst (iv 8))),
 O 6 (.mv (tm 7))]
def r_e9_3 : List CO := [
  O 8 (.mv (tm 0)),
 O 9 (.nil (tm 8)),
 O 10 (.fa 11 (tm 9)),
 O 4 (.mv (tm 10))]
def r_e9_4 : List CO := [
  O 12 (.eq (B .eql ty_int) (tm 5) (.cst (iv 9))),
 O 11 (.mv (tm 12))]
def r_e9_5 : List CO := [
  O 13 (.mv (tm 0)),
 O 14 (.nil (tm 13)),
 O 15 (.fa 12 (tm 14)),
 O 4 (.mv (tm 15))]
def r_e9_6 : List CO := [
  O 16 (.mv (tm 0)),
 O 17 (.mv (tm 1)),
 O 18 (.nil (tm 16)),
 O 19 (.fa 3 (tm 18)),
 O 20 (.iaA 8 1 (tm 19) (tm 17)),
 O 4 (.mv (tm 20))]
def r_b3_0 : List CO := [
  O 4 (.mv (.cst (.b false)))]
def r_b3_1 : List CO := [
  O 9 (.mv (tm 0)),
 O 10 (.eqp false (B .eql ty_pgroup_Group) (tm 9) (.cst nilp))]
def r_b3_2 : List CO := [
  O 4 (.mv (.cst (.b false)))]
def r_b3_3 : List CO := [
  O 12 (.mv (tm 0)),
 O 13 (.nil (tm 12)),
 O 14 (.fa 16 (tm 13)),
 O 15 (.load (tm 14)),
 O 16 (.mv (tm 1)),
 O 17 (.look (some .i64) (.agg []) true (tm 15) (tm 16)),
 O 11 (.mv (tm 17)),
 O 18 (.ext 0 (tm 11)),
 O 19 (.ext 1 (tm 11)),
 O 5 (.alloc ty_struct 0 []),
 .op none none (.store 0 (tm 5) (tm 18)),
 O 6 (.mv (tm 19))]
def r_b3_4 : List CO := [
  O 21 (.mv (tm 0)),
 O 22 (.mv (tm 1)),
 C 23 fn_b5 [(tm 21), (tm 22)],
 O 20 (.mv (tm 23)),
 O 24 (.ext 0 (tm 20)),
 O 25 (.ext 1 (tm 20)),
 O 7 (.mv (tm 24)),
 O 8 (.mv (tm 25))]
def r_b3_5 : List CO := [
  O 26 (.mv (tm 0)),
 O 27 (.nil (tm 26)),
 O 28 (.fa 17 (tm 27)),
 O 29 (.load (tm 28)),
 O 30 (.eqp true (B .neq ty_pgroup_Op) (tm 29) (.cst nilp)),
 O 31 (.mv (tm 30)),
 G 32 31 true (.mv (tm 6)),
 G 33 31 true (.un .not (tm 32)),
 O 34 (.pick (tm 31) (tm 33) (.cst (.b false)))]
def r_b3_6 : List CO := [
  O 36 (.mv (tm 0)),
 O 37 (.nil (tm 36)),
 O 38 (.fa 17 (tm 37)),
 O 39 (.load (tm 38)),
 O 40 (.nil (tm 39)),
 O 41 (.fa 3 (tm 40)),
 O 42 (.load (tm 41)),
 O 43 (.mv (tm 1)),
 O 44 (.look (some .i64) (.agg []) true (tm 42) (tm 43)),
 O 35 (.mv (tm 44)),
 O 45 (.ext 0 (tm 35)),
 O 46 (.ext 1 (tm 35)),
 O 6 (.mv (tm 46))]
def r_b3_7 : List CO := [
  O 47 (.mv (tm 6)),
 O 48 (.mv (tm 47)),
 G 49 48 false (.mv (tm 8)),
 O 50 (.pick (tm 48) (.cst (.b true)) (tm 49)),
 O 4 (.mv (tm 50))]
def r_e2_0 : List CO := [
  O 1 (.box ty_api_Inode (tm 0)),
 O 2 (.mv (.cst nils)),
 O 3 (.mv (.cst (iv 0)))]
def r_e2_1 : List CO := [
  O 5 (.fa 0 (tm 1)),
 O 6 (.load (tm 5)),
 O 7 (.lt (B .lss ty_int) (tm 6) (.cst (iv 0))),
 O 8 (.mv (tm 7)),
 G 9 8 false (.fa 0 (tm 1)),
 G 10 8 false (.load (tm 9)),
 G 11 8 false (.gt (B .gtr ty_int) (tm 10) (.cst (iv 2))),
 O 12 (.pick (tm 8) (.cst (.b true)) (tm 11)),
 O 13 (.mv (tm 12)),
 G 14 13 false (.fa 0 (tm 1)),
 G 15 13 false (.load (tm 14)),
 G 16 13 false (.eq (B .eql ty_int) (tm 15) (.cst (iv 0))),
 G 17 13 false (.mv (tm 16)),
 G 18 17 true (.loadN 13 (tm 1)),
 G 19 17 true (.build [(iv 0), (iv 0), (iv 0), (iv 0), (iv 0), (iv 0), (iv 0), (iv 0), (iv 0), (iv 0), (iv 0), (iv 0), (iv 0)] []),
 G 20 17 true (.ne (B .neq ty_api_Inode) (tm 18) (tm 19)),
 G 21 13 false (.pick (tm 17) (tm 20) (.cst (.b false))),
 O 22 (.pick (tm 13) (.cst (.b true)) (tm 21))]
def r_e2_2 : List CO := [
  O 2 (.mv (.cst nils)),
 O 3 (.mv (.cst (iv 4)))]
def r_e2_3 : List CO := [
  O 23 (.build [nils, (iv 0)] []),
 O 24 (.box ty_codec_writer (tm 23)),
 O 4 (.mv (tm 24))]
def r_e2_4 : List CO := [
  O 25 (.mv (tm 4)),
 O 26 (.fa 0 (tm 1)),
 O 27 (.load (tm 26)),
 O 28 (.bslice ty_int 2 2 [(iv 0)] [(0, 1, (tm 27)), (1, 1, (.cst (iv 0)))]),
 C 29 fn_b0 [(tm 25), (.cst (iv 1)), (tm 28)]]
def r_e2_5 : List CO := [
  O 30 (.mv (tm 4)),
 O 31 (.fa 1 (tm 1)),
 O 32 (.load (tm 31)),
 C 33 fn_a9 [(tm 30), (.cst (iv 2)), (tm 32)]]
def r_e2_6 : List CO := [
  O 34 (.mv (tm 4)),
 O 35 (.fa 2 (tm 1)),
 O 36 (.load (tm 35)),
 C 37 fn_a9 [(tm 34), (.cst (iv 4)), (tm 36)]]
def r_e2_7 : List CO := [
  O 38 (.mv (tm 4)),
 O 39 (.fa 3 (tm 1)),
 O 40 (.sla 8 1 (tm 39) none none none),
 C 41 fn_b0 [(tm 38), (.cst (iv 2)), (tm 40)]]
def r_e2_8 : List CO := [
  O 42 (.mv (tm 4)),
 O 43 (.fa 11 (tm 1)),
 O 44 (.load (tm 43)),
 O 45 (.fa 12 (tm 1)),
 O 46 (.load (tm 45)),
 O 47 (.bslice ty_int 2 2 [(iv 0)] [(0, 1, (tm 44)), (1, 1, (tm 46))]),
 C 48 fn_b0 [(tm 42), (.cst (iv 2)), (tm 47)]]
def r_e2_9 : List CO := [
  O 49 (.mv (tm 4)),
 C 50 fn_b1 [(tm 49), (.cst (iv 32))],
 O 51 (.ext 0 (tm 50)),
 O 52 (.ext 1 (tm 50)),
 O 2 (.mv (tm 51)),
 O 3 (.mv (tm 52))]
def r_d6_0 : List CO := [
  O 6 (.mv (.cst (iv 0))),
 O 7 (.mv (.cst (iv 0))),
 O 8 (.mv (.cst nils)),
 O 9 (.mv (.cst (iv 0)))]
def r_d6_1 : List CO := [
  O 11 (.mv (tm 0)),
 O 12 (.nil (tm 11)),
 O 13 (.fa 1 (tm 12)),
 O 14 (.loadN 12 (tm 13)),
 O 15 (.mv (tm 2)),
 C 16 fn_plan_Place [(tm 14), (tm 15)],
 O 10 (.mv (tm 16)),
 O 17 (.ext 0 (tm 10)),
 O 18 (.ext 1 (tm 10)),
 O 19 (.ext 2 (tm 10)),
 O 6 (.mv (tm 17)),
 O 7 (.mv (tm 18)),
 O 9 (.mv (tm 19))]
def r_d6_2 : List CO := [
  O 20 (.mv (tm 9)),
 O 21 (.eq (B .eql ty_api_Errno) (tm 20) (.cst (iv 0)))]
def r_d6_3 : List CO := [
  O 23 (.mv (tm 1)),
 O 24 (.mv (tm 6)),
 C 25 fn_c2 [(tm 23), (tm 24)],
 O 22 (.mv (tm 25)),
 O 26 (.ext 0 (tm 22)),
 O 27 (.ext 1 (tm 22)),
 O 8 (.mv (tm 26)),
 O 9 (.mv (tm 27))]
def r_d6_4 : List CO := [
  O 28 (.mv (tm 6)),
 O 29 (.mv (tm 7)),
 O 30 (.mv (tm 8)),
 O 31 (.mv (tm 9)),
 O 6 (.mv (tm 28)),
 O 7 (.mv (tm 29)),
 O 8 (.mv (tm 30)),
 O 9 (.mv (tm 31))]
def r_e3_0 : List CO := [
  O 2 (.alloc ty_api_Inode 13 [(iv 0), (iv 0), (iv 0), (iv 0), (iv 0), (iv 0), (iv 0), (iv 0), (iv 0), (iv 0), (iv 0), (iv 0), (iv 0)]),
 O 3 (.mv (.cst (iv 0)))]
def r_e3_1 : List CO := [
  O 10 (.mv (tm 0)),
 O 11 (.len false (tm 10)),
 O 12 (.ne (B .neq ty_int) (tm 11) (.cst (iv 32)))]
def r_e3_2 : List CO := [
  O 13 (.build [(iv 0), (iv 0), (iv 0), (iv 0), (iv 0), (iv 0), (iv 0), (iv 0), (iv 0), (iv 0), (iv 0), (iv 0), (iv 0)] []),
 .op none none (.store 13 (tm 2) (tm 13)),
 O 3 (.mv (.cst (iv 4)))]
def r_e3_3 : List CO := [
  O 4 (.alloc ty_api_Inode 13 [(iv 0), (iv 0), (iv 0), (iv 0), (iv 0), (iv 0), (iv 0), (iv 0), (iv 0), (iv 0), (iv 0), (iv 0), (iv 0)])]
def r_e3_4 : List CO := [
  O 5 (.alloc ty_int 1 [(iv 0)])]
def r_e3_5 : List CO := [
  O 14 (.mv (tm 0)),
 O 15 (.build [nils, (iv 0)] [(0, 1, (tm 14)), (1, 1, (.cst (iv 0)))]),
 O 16 (.box ty_codec_reader (tm 15)),
 O 6 (.mv (tm 16))]
def r_e3_6 : List CO := [
  O 17 (.mv (tm 6)),
 O 18 (.fa 0 (tm 4)),
 O 19 (.bslice ty_pint 2 2 [nilp] [(0, 1, (tm 18)), (1, 1, (tm 5))]),
 C 20 fn_a8 [(tm 17), (.cst (iv 1)), (tm 19)]]
def r_e3_7 : List CO := [
  O 21 (.mv (tm 6)),
 O 22 (.fa 1 (tm 4)),
 O 23 (.bslice ty_pint 1 1 [nilp] [(0, 1, (tm 22))]),
 C 24 fn_a8 [(tm 21), (.cst (iv 2)), (tm 23)]]
def r_e3_8 : List CO := [
  O 25 (.mv (tm 6)),
 O 26 (.fa 2 (tm 4)),
 O 27 (.bslice ty_pint 1 1 [nilp] [(0, 1, (tm 26))]),
 C 28 fn_a8 [(tm 25), (.cst (iv 4)), (tm 27)]]
def r_e3_9 : List CO := [
  O 29 (.mv (.cst (iv 0)))]
def r_e3_10 : List CO := [
  O 30 (.lt (B .lss ty_int) (tm 29) (.cst (iv 8)))]
def r_e3_11 : List CO := [
  O 31 (.mv (tm 29)),
 O 7 (.mv (tm 31))]
def r_e3_12 : List CO := [
  O 32 (.mv (tm 7)),
 O 33 (.mv (tm 6)),
 C 34 fn_a7 [(tm 33), (.cst (iv 2))],
 O 35 (.fa 3 (tm 4)),
 O 36 (.iaA 8 1 (tm 35) (tm 32)),
 .op none none (.store 1 (tm 36) (tm 34))]
def r_e3_13 : List CO := [
  O 37 (.add (B .add ty_int) (tm 29) (.cst (iv 1))),
 O 29 (.mv (tm 37))]
def r_e3_14 : List CO := [
  O 38 (.mv (tm 6)),
 O 39 (.fa 11 (tm 4)),
 O 40 (.fa 12 (tm 4)),
 O 41 (.bslice ty_pint 2 2 [nilp] [(0, 1, (tm 39)), (1, 1, (tm 40))]),
 C 42 fn_a8 [(tm 38), (.cst (iv 2)), (tm 41)]]
def r_e3_15 : List CO := [
  O 44 (.loadN 13 (tm 4)),
 C 45 fn_e2 [(tm 44)],
 O 43 (.mv (tm 45)),
 O 46 (.ext 0 (tm 43)),
 O 47 (.ext 1 (tm 43)),
 O 8 (.mv (tm 46)),
 O 9 (.mv (tm 47))]
def r_e3_16 : List CO := [
  O 48 (.loadN 13 (tm 4)),
 O 49 (.mv (tm 0)),
 O 50 (.mv (tm 8)),
 O 51 (.mv (tm 9)),
 C 52 fn_e4 [(tm 48), (tm 49), (tm 50), (tm 51)],
 O 53 (.ext 0 (tm 52)),
 O 54 (.ext 1 (tm 52)),
 .op none none (.store 13 (tm 2) (tm 53)),
 O 3 (.mv (tm 54))]
def r_c2_0 : List CO := [
  O 4 (.mv (.cst nils)),
 O 5 (.mv (.cst (iv 0)))]
def r_c2_1 : List CO := [
  O 11 (.mv (tm 0)),
 C 12 fn_c7 [(tm 11)],
 O 6 (.mv (tm 12))]
def r_c2_2 : List CO := [
  O 13 (.mv (tm 6)),
 O 14 (.ne (B .neq ty_api_Errno) (tm 13) (.cst (iv 0)))]
def r_c2_3 : List CO := [
  O 15 (.mv (tm 6)),
 O 4 (.mv (.cst nils)),
 O 5 (.mv (tm 15))]
def r_c2_4 : List CO := [
  O 16 (.mv (tm 0)),
 O 17 (.nil (tm 16)),
 O 18 (.fa 1 (tm 17)),
 O 19 (.load (tm 18)),
 O 20 (.mv (tm 0)),
 O 21 (.nil (tm 20)),
 O 22 (.fa 2 (tm 21)),
 O 23 (.load (tm 22)),
 O 24 (.bslice ty_group_blocks 2 2 [nilm] [(0, 1, (tm 19)), (1, 1, (tm 23))]),
 O 25 (.len false (tm 24)),
 O 26 (.mv (.cst (iv 0)))]
def r_c2_5 : List CO := [
  O 27 (.lt (B .lss ty_int) (tm 26) (tm 25))]
def r_c2_6 : List CO := [
  O 28 (.iaS 1 (tm 24) (tm 26)),
 O 29 (.load (tm 28)),
 O 8 (.mv (tm 29))]
def r_c2_7 : List CO := [
  O 31 (.mv (tm 8)),
 O 32 (.mv (tm 1)),
 O 33 (.look (some .i64) nils true (tm 31) (tm 32)),
 O 30 (.mv (tm 33)),
 O 34 (.ext 0 (tm 30)),
 O 35 (.ext 1 (tm 30)),
 O 9 (.mv (tm 34)),
 O 10 (.mv (tm 35))]
def r_c2_8 : List CO := [
  O 36 (.mv (tm 10))]
def r_c2_9 : List CO := [
  O 37 (.mv (tm 9)),
 C 38 fn_a6 [(tm 37)],
 O 4 (.mv (tm 38)),
 O 5 (.mv (.cst (iv 0)))]
def r_c2_10 : List CO := [
  O 39 (.add (B .add ty_int) (tm 26) (.cst (iv 1))),
 O 26 (.mv (tm 39))]
def r_c2_11 : List CO := [
  O 40 (.mv (tm 0)),
 O 41 (.nil (tm 40)),
 O 42 (.fa 0 (tm 41)),
 O 43 (.load (tm 42)),
 O 44 (.mv (tm 1)),
 C 45 fn_b4 [(tm 43), (tm 44)],
 O 46 (.ext 0 (tm 45)),
 O 47 (.ext 1 (tm 45)),
 O 4 (.mv (tm 46)),
 O 5 (.mv (tm 47))]
def r_f4_0 : List CO := [
  O 6 (.mv (.cst (.b false)))]
def r_f4_1 : List CO := [
  O 7 (.mv (tm 0)),
 O 8 (.mv (tm 1)),
 O 9 (.ge (B .geq ty_int) (tm 7) (tm 8)),
 O 10 (.mv (tm 9)),
 G 11 10 true (.mv (tm 0)),
 G 12 10 true (.mv (tm 2)),
 G 13 10 true (.le (B .leq ty_int) (tm 11) (tm 12)),
 O 14 (.pick (tm 10) (tm 13) (.cst (.b false))),
 O 6 (.mv (tm 14))]
def r_c8_0 : List CO := [
  O 10 (.mv (.cst (iv 0)))]
def r_c8_1 : List CO := [
  O 12 (.mv (tm 0)),
 C 13 fn_c7 [(tm 12)],
 O 11 (.mv (tm 13))]
def r_c8_2 : List CO := [
  O 15 (.mv (tm 11)),
 O 16 (.ne (B .neq ty_api_Errno) (tm 15) (.cst (iv 0))),
 O 14 (.mv (tm 16))]
def r_c8_3 : List CO := [
  O 17 (.mv (tm 11)),
 O 10 (.mv (tm 17))]
def r_c8_4 : List CO := [
  O 19 (.mv (tm 3)),
 O 20 (.mv (tm 2)),
 O 21 (.mv (tm 0)),
 O 22 (.nil (tm 21)),
 O 23 (.fa 0 (tm 22)),
 O 24 (.load (tm 23)),
 O 25 (.nil (tm 24)),
 O 26 (.fa 3 (tm 25)),
 O 27 (.loadN 12 (tm 26)),
 .call (some (pth 28)) none (tm 20) [(tm 27)],
 O 29 (.lt (B .lss ty_int) (tm 19) (tm 28)),
 O 30 (.mv (tm 29)),
 G 31 30 false (.mv (tm 3)),
 G 32 30 false (.mv (tm 0)),
 G 33 30 false (.nil (tm 32)),
 G 34 30 false (.fa 0 (tm 33)),
 G 35 30 false (.load (tm 34)),
 G 36 30 false (.nil (tm 35)),
 G 37 30 false (.fa 3 (tm 36)),
 G 38 30 false (.fa 1 (tm 37)),
 G 39 30 false (.load (tm 38)),
 G 40 30 false (.ge (B .geq ty_int) (tm 31) (tm 39)),
 O 41 (.pick (tm 30) (.cst (.b true)) (tm 40)),
 O 18 (.mv (tm 41))]
def r_c8_5 : List CO := [
  O 10 (.mv (.cst (iv 2)))]
def r_c8_6 : List CO := [
  O 43 (.mv (tm 4)),
 O 44 (.len false (tm 43)),
 O 45 (.mv (tm 0)),
 O 46 (.nil (tm 45)),
 O 47 (.fa 0 (tm 46)),
 O 48 (.load (tm 47)),
 O 49 (.nil (tm 48)),
 O 50 (.fa 3 (tm 49)),
 O 51 (.fa 0 (tm 50)),
 O 52 (.load (tm 51)),
 O 53 (.ne (B .neq ty_int) (tm 44) (tm 52)),
 O 42 (.mv (tm 53))]
def r_c8_7 : List CO := [
  O 10 (.mv (.cst (iv 1)))]
def r_c8_8 : List CO := [
  O 54 (.mv (tm 0)),
 O 55 (.mv (tm 3)),
 C 56 fn_c6 [(tm 54), (tm 55)]]
def r_c8_9 : List CO := [
  O 57 (.mv (tm 1)),
 O 58 (.mv (tm 0)),
 .call (some (pth 59)) none (tm 57) [(tm 58)],
 O 60 (.mv (tm 3)),
 O 61 (.mv (tm 4)),
 C 62 fn_a6 [(tm 61)],
 .op none none (.mupd (some .i64) (tm 59) (tm 60) (tm 62))]
def r_c8_10 : List CO := [
  O 10 (.mv (.cst (iv 0)))]
def r_c4_0 : List CO := [
  O 2 (.mv (.cst nilm))]
def r_c4_1 : List CO := [
  O 3 (.mv (tm 0)),
 O 4 (.nil (tm 3)),
 O 5 (.fa 1 (tm 4)),
 O 6 (.load (tm 5)),
 O 2 (.mv (tm 6))]
def r_c5_0 : List CO := [
  O 1 (.box ty_api_Plan (tm 0)),
 O 2 (.mv (.cst (iv 0)))]
def r_c5_1 : List CO := [
  O 3 (.fa 5 (tm 1)),
 O 4 (.load (tm 3)),
 O 2 (.mv (tm 4))]
def r_e5_0 : List CO := [
  O 6 (.mv (.cst (iv 0))),
 O 7 (.mv (.cst (iv 0)))]
def r_e5_1 : List CO := [
  O 14 (.mv (tm 0)),
 O 15 (.mv (tm 1)),
 O 16 (.mv (tm 2)),
 C 17 fn_e7 [(tm 14), (tm 15), (tm 16)],
 O 13 (.mv (tm 17)),
 O 18 (.ext 0 (tm 13)),
 O 19 (.ext 1 (tm 13)),
 O 8 (.mv (tm 18)),
 O 9 (.mv (tm 19))]
def r_e5_2 : List CO := [
  O 10 (.alloc ty_int 1 [(iv 0)]),
 .op none none (.store 1 (tm 10) (.cst (iv 0)))]
def r_e5_3 : List CO := [
  O 20 (.mv (tm 8)),
 C 21 fn_a1 [(tm 20)]]
def r_e5_4 : List CO := [
  O 12 (.mv (tm 23))]
def r_e5_5 : List CO := [
  O 24 (.load (tm 10)),
 O 25 (.slow (B .shl ty_int) (tm 24) (.cst (.p (.int .u64 (8))))),
 O 26 (.mv (tm 12)),
 O 27 (.convI .i64 (tm 26)),
 O 28 (.slow (B .or ty_int) (tm 25) (tm 27)),
 .op none none (.store 1 (tm 10) (tm 28))]
def r_e5_6 : List CO := [
  O 29 (.load (tm 10)),
 O 30 (.mv (tm 9)),
 O 6 (.mv (tm 29)),
 O 7 (.mv (tm 30))]
def r_a5_0 : List CO := [
  O 5 (.box ty_alloc_bitmap (tm 0)),
 O 10 (.mv (.cst (iv 0))),
 O 11 (.mv (.cst (iv 0)))]
def r_a5_1 : List CO := [
  O 14 (.mv (tm 2)),
 O 12 (.mv (tm 14)),
 O 13 (.mv (.cst (iv 0)))]
def r_a5_2 : List CO := [
  O 16 (.loadN 2 (tm 5)),
 O 17 (.mv (tm 1)),
 O 18 (.mv (tm 12)),
 O 19 (.mv (tm 3)),
 C 20 fn_a3 [(tm 16), (tm 17), (tm 18), (tm 19)],
 O 15 (.mv (tm 20)),
 O 21 (.ext 0 (tm 15)),
 O 22 (.ext 1 (tm 15)),
 O 12 (.mv (tm 21)),
 O 13 (.mv (tm 22))]
def r_a5_3 : List CO := [
  O 24 (.mv (tm 13)),
 O 25 (.ne (B .neq ty_api_Errno) (tm 24) (.cst (iv 0))),
 O 23 (.mv (tm 25))]
def r_a5_4 : List CO := [
  O 26 (.mv (tm 13)),
 O 10 (.mv (.cst (iv 0))),
 O 11 (.mv (tm 26))]
def r_a5_5 : List CO := [
  O 28 (.mv (tm 12)),
 O 29 (.mv (tm 3)),
 O 30 (.ge (B .geq ty_int) (tm 28) (tm 29)),
 O 27 (.mv (tm 30))]
def r_a5_6 : List CO := [
  O 10 (.mv (.cst (iv 0))),
 O 11 (.mv (.cst (iv 10)))]
def r_a5_7 : List CO := [
  O 32 (.mv (tm 4)),
 O 33 (.mv (tm 12)),
 .call (some (pth 34)) none (tm 32) [(tm 33)],
 O 31 (.mv (tm 34))]
def r_a5_8 : List CO := [
  O 35 (.mv (tm 12)),
 O 36 (.add (B .add ty_int) (tm 35) (.cst (iv 1))),
 O 12 (.mv (tm 36))]
def r_a5_9 : List CO := [
  O 37 (.loadN 2 (tm 5)),
 O 38 (.mv (tm 1)),
 O 39 (.mv (tm 12)),
 C 40 fn_a4 [(tm 37), (tm 38), (tm 39), (.cst (.b true))],
 O 13 (.mv (tm 40))]
def r_a5_10 : List CO := [
  O 41 (.mv (tm 13)),
 O 42 (.ne (B .neq ty_api_Errno) (tm 41) (.cst (iv 0)))]
def r_a5_11 : List CO := [
  O 43 (.mv (tm 13)),
 O 10 (.mv (.cst (iv 0))),
 O 11 (.mv (tm 43))]
def r_a5_12 : List CO := [
  O 44 (.mv (tm 12)),
 O 10 (.mv (tm 44)),
 O 11 (.mv (.cst (iv 0)))]
noncomputable def b_Bm_take : Code := scopeOf (Tryz.prog.funcs[98]?)
noncomputable def cb_Bm_take : CC := (.seq (.reg r_a5_1) (.seq .skip (.seq (.reg r_a5_2) (.seq (.block 0 (.seq (.reg r_a5_3) (.cond (tm 23) (.seq (.reg r_a5_4) .ret) (.seq (.reg r_a5_5) (.cond (tm 27) (.seq (.reg r_a5_6) .ret) (.seq (.reg r_a5_7) (.cond (tm 31) (.seq (.reg r_a5_8) (.goto 0)) .skip))))))) (.seq (.seq (.reg r_a5_9) (.seq (.reg r_a5_10) (.cond (tm 42) (.seq (.reg r_a5_11) .ret) .skip))) (.seq (.reg r_a5_12) .ret))))))
theorem hb_Bm_take : comp Tryz.prog b_Bm_take = cb_Bm_take := by kernel_rfl
noncomputable def cr_Bm_take_0 : CC := (.seq .skip (.seq (.reg r_a5_2) (.seq (.block 0 (.seq (.reg r_a5_3) (.cond (tm 23) (.seq (.reg r_a5_4) .ret) (.seq (.reg r_a5_5) (.cond (tm 27) (.seq (.reg r_a5_6) .ret) (.seq (.reg r_a5_7) (.cond (tm 31) (.seq (.reg r_a5_8) (.goto 0)) .skip))))))) (.seq (.seq (.reg r_a5_9) (.seq (.reg r_a5_10) (.cond (tm 42) (.seq (.reg r_a5_11) .ret) .skip))) (.seq (.reg r_a5_12) .ret)))))
theorem hl_Bm_take_0 : findLabel b_Bm_take 0 = some (restOf b_Bm_take 0) := by kernel_rfl
theorem hc_Bm_take_0 : comp Tryz.prog (restOf b_Bm_take 0) = cr_Bm_take_0 := by kernel_rfl
def r_e6_0 : List CO := [
  O 8 (.mv (.cst nils)),
 O 9 (.mv (.cst (iv 0)))]
def r_e6_1 : List CO := [
  O 15 (.mv (tm 0)),
 O 16 (.mv (tm 1)),
 O 17 (.mv (tm 2)),
 C 18 fn_e7 [(tm 15), (tm 16), (tm 17)],
 O 14 (.mv (tm 18)),
 O 19 (.ext 0 (tm 14)),
 O 20 (.ext 1 (tm 14)),
 O 10 (.mv (tm 19)),
 O 11 (.mv (tm 20))]
def r_e6_2 : List CO := [
  O 21 (.mv (tm 11)),
 O 22 (.ne (B .neq ty_api_Errno) (tm 21) (.cst (iv 0)))]
def r_e6_3 : List CO := [
  O 23 (.mv (tm 11)),
 O 8 (.mv (.cst nils)),
 O 9 (.mv (tm 23))]
def r_e6_4 : List CO := [
  O 24 (.mv (tm 3)),
 O 25 (.lt (B .lss ty_int) (tm 24) (.cst (iv 0))),
 O 26 (.mv (tm 25)),
 G 27 26 false (.mv (tm 3)),
 G 28 26 false (.mv (tm 2)),
 G 29 26 false (.mul (B .mul ty_int) (.cst (iv 8)) (tm 28)),
 G 30 26 false (.slow (B .shr ty_int) (tm 27) (tm 29)),
 G 31 26 false (.ne (B .neq ty_int) (tm 30) (.cst (iv 0))),
 O 32 (.pick (tm 26) (.cst (.b true)) (tm 31))]
def r_e6_5 : List CO := [
  O 8 (.mv (.cst nils)),
 O 9 (.mv (.cst (iv 3)))]
def r_e6_6 : List CO := [
  O 33 (.mv (tm 0)),
 C 34 fn_a6 [(tm 33)],
 O 12 (.mv (tm 34))]
def r_e6_7 : List CO := [
  O 35 (.mv (tm 2)),
 O 36 (.mv (.cst (iv 0)))]
def r_e6_8 : List CO := [
  O 37 (.lt (B .lss ty_int) (tm 36) (tm 35))]
def r_e6_9 : List CO := [
  O 38 (.mv (tm 36)),
 O 13 (.mv (tm 38))]
def r_e6_10 : List CO := [
  O 39 (.mv (tm 12)),
 O 40 (.mv (tm 1)),
 O 41 (.mv (tm 13)),
 O 42 (.add (B .add ty_int) (tm 40) (tm 41)),
 O 43 (.mv (tm 3)),
 O 44 (.mv (tm 13)),
 O 45 (.mul (B .mul ty_int) (.cst (iv 8)) (tm 44)),
 O 46 (.slow (B .shr ty_int) (tm 43) (tm 45)),
 O 47 (.convI .u8 (tm 46)),
 O 48 (.iaS 1 (tm 39) (tm 42)),
 .op none none (.store 1 (tm 48) (tm 47))]
def r_e6_11 : List CO := [
  O 49 (.add (B .add ty_int) (tm 36) (.cst (iv 1))),
 O 36 (.mv (tm 49))]
def r_e6_12 : List CO := [
  O 50 (.mv (tm 12)),
 O 8 (.mv (tm 50)),
 O 9 (.mv (.cst (iv 0)))]
def r_a3_0 : List CO := [
  O 4 (.box ty_alloc_bitmap (tm 0)),
 O 8 (.mv (.cst (iv 0))),
 O 9 (.mv (.cst (iv 0)))]
def r_a3_1 : List CO := [
  O 14 (.mv (tm 2)),
 O 15 (.mv (tm 3)),
 O 16 (.lt (B .lss ty_int) (tm 14) (tm 15))]
def r_a3_2 : List CO := [
  O 18 (.mv (tm 1)),
 O 19 (.fa 0 (tm 4)),
 O 20 (.load (tm 19)),
 O 21 (.mv (tm 2)),
 O 22 (.fa 1 (tm 4)),
 O 23 (.load (tm 22)),
 O 24 (.quo (B .quo ty_int) (tm 21) (tm 23)),
 O 25 (.add (B .add ty_int) (tm 20) (tm 24)),
 C 26 fn_c2 [(tm 18), (tm 25)],
 O 17 (.mv (tm 26)),
 O 27 (.ext 0 (tm 17)),
 O 28 (.ext 1 (tm 17)),
 O 10 (.mv (tm 27)),
 O 11 (.mv (tm 28))]
def r_a3_3 : List CO := [
  O 29 (.mv (tm 11)),
 O 30 (.ne (B .neq ty_api_Errno) (tm 29) (.cst (iv 0)))]
def r_a3_4 : List CO := [
  O 31 (.mv (tm 11)),
 O 8 (.mv (.cst (iv 0))),
 O 9 (.mv (tm 31))]
def r_a3_5 : List CO := [
  O 32 (.mv (tm 2)),
 O 33 (.fa 1 (tm 4)),
 O 34 (.load (tm 33)),
 O 35 (.quo (B .quo ty_int) (tm 32) (tm 34)),
 O 36 (.fa 1 (tm 4)),
 O 37 (.load (tm 36)),
 O 38 (.mul (B .mul ty_int) (tm 35) (tm 37)),
 O 12 (.mv (tm 38))]
def r_a3_6 : List CO := [
  O 40 (.mv (tm 10)),
 O 41 (.mv (tm 2)),
 O 42 (.mv (tm 12)),
 O 43 (.sub (B .sub ty_int) (tm 41) (tm 42)),
 O 44 (.mv (tm 3)),
 O 45 (.mv (tm 12)),
 O 46 (.sub (B .sub ty_int) (tm 44) (tm 45)),
 O 47 (.fa 1 (tm 4)),
 O 48 (.load (tm 47)),
 O 49 (.min (tm 46) (tm 48)),
 C 50 fn_d8 [(tm 40), (tm 43), (tm 49)],
 O 39 (.mv (tm 50)),
 O 51 (.ext 0 (tm 39)),
 O 52 (.ext 1 (tm 39)),
 O 13 (.mv (tm 51)),
 O 11 (.mv (tm 52))]
def r_a3_7 : List CO := [
  O 53 (.mv (tm 11)),
 O 54 (.eq (B .eql ty_api_Errno) (tm 53) (.cst (iv 0)))]
def r_a3_8 : List CO := [
  O 55 (.mv (tm 12)),
 O 56 (.mv (tm 13)),
 O 57 (.add (B .add ty_int) (tm 55) (tm 56)),
 O 8 (.mv (tm 57)),
 O 9 (.mv (.cst (iv 0)))]
def r_a3_9 : List CO := [
  O 58 (.mv (tm 12)),
 O 59 (.fa 1 (tm 4)),
 O 60 (.load (tm 59)),
 O 61 (.add (B .add ty_int) (tm 58) (tm 60)),
 O 2 (.mv (tm 61))]
def r_a3_10 : List CO := [
  O 62 (.mv (tm 3)),
 O 8 (.mv (tm 62)),
 O 9 (.mv (.cst (iv 0)))]
def r_b5_0 : List CO := [
  O 4 (.mv (.cst nils)),
 O 5 (.mv (.cst (.b false)))]
def r_b5_1 : List CO := [
  O 8 (.mv (tm 0)),
 O 9 (.nil (tm 8)),
 O 10 (.fa 1 (tm 9)),
 O 11 (.load (tm 10)),
 C 12 fn_b7 [(tm 11)],
 O 13 (.len false (tm 12)),
 O 14 (.mv (.cst (iv 0)))]
def r_b5_2 : List CO := [
  O 15 (.lt (B .lss ty_int) (tm 14) (tm 13))]
def r_b5_3 : List CO := [
  O 16 (.iaS 2 (tm 12) (tm 14)),
 O 17 (.loadN 2 (tm 16)),
 O 7 (.alloc ty_api_Write 2 [(iv 0), nils]),
 .op none none (.store 2 (tm 7) (tm 17))]
def r_b5_4 : List CO := [
  O 18 (.fa 0 (tm 7)),
 O 19 (.load (tm 18)),
 O 20 (.mv (tm 1)),
 O 21 (.eq (B .eql ty_int) (tm 19) (tm 20))]
def r_b5_5 : List CO := [
  O 22 (.fa 1 (tm 7)),
 O 23 (.load (tm 22)),
 O 4 (.mv (tm 23)),
 O 5 (.mv (.cst (.b true)))]
def r_b5_6 : List CO := [
  O 24 (.add (B .add ty_int) (tm 14) (.cst (iv 1))),
 O 14 (.mv (tm 24))]
def r_b5_7 : List CO := [
  O 4 (.mv (.cst nils)),
 O 5 (.mv (.cst (.b false)))]
def r_b0_0 : List CO := [
  O 8 (.mv (tm 2)),
 O 9 (.len false (tm 8)),
 O 10 (.mv (.cst (iv 0)))]
def r_b0_1 : List CO := [
  O 11 (.lt (B .lss ty_int) (tm 10) (tm 9))]
def r_b0_2 : List CO := [
  O 12 (.iaS 1 (tm 8) (tm 10)),
 O 13 (.load (tm 12)),
 O 7 (.mv (tm 13))]
def r_b0_3 : List CO := [
  O 14 (.mv (tm 0)),
 O 15 (.mv (tm 1)),
 O 16 (.mv (tm 7)),
 C 17 fn_a9 [(tm 14), (tm 15), (tm 16)]]
def r_b0_4 : List CO := [
  O 18 (.add (B .add ty_int) (tm 10) (.cst (iv 1))),
 O 10 (.mv (tm 18))]
def r_a9_0 : List CO := [
  O 9 (.mv (tm 1)),
 O 10 (.mksl ty_uint8 1 1 [(.y 0)] (tm 9) (tm 9)),
 O 11 (.mv (tm 1)),
 O 12 (.mv (tm 2)),
 C 13 fn_e6 [(tm 10), (.cst (iv 0)), (tm 11), (tm 12)],
 O 8 (.mv (tm 13)),
 O 14 (.ext 0 (tm 8)),
 O 15 (.ext 1 (tm 8)),
 O 6 (.mv (tm 14)),
 O 7 (.mv (tm 15))]
def r_a9_1 : List CO := [
  O 16 (.mv (tm 7)),
 O 17 (.ne (B .neq ty_api_Errno) (tm 16) (.cst (iv 0))),
 O 18 (.mv (tm 17)),
 G 19 18 true (.mv (tm 0)),
 G 20 18 true (.nil (tm 19)),
 G 21 18 true (.fa 1 (tm 20)),
 G 22 18 true (.load (tm 21)),
 G 23 18 true (.eq (B .eql ty_api_Errno) (tm 22) (.cst (iv 0))),
 O 24 (.pick (tm 18) (tm 23) (.cst (.b false)))]
def r_a9_2 : List CO := [
  O 25 (.mv (tm 0)),
 O 26 (.mv (tm 7)),
 O 27 (.nil (tm 25)),
 O 28 (.fa 1 (tm 27)),
 .op none none (.store 1 (tm 28) (tm 26))]
def r_a9_3 : List CO := [
  O 29 (.mv (tm 0)),
 O 30 (.mv (tm 0)),
 O 31 (.nil (tm 30)),
 O 32 (.fa 0 (tm 31)),
 O 33 (.load (tm 32)),
 O 34 (.mv (tm 6)),
 O 35 (.app ty_uint8 1 1 [(.y 0)] (tm 33) (tm 34)),
 O 36 (.nil (tm 29)),
 O 37 (.fa 0 (tm 36)),
 .op none none (.store 1 (tm 37) (tm 35))]
def r_b1_0 : List CO := [
  O 4 (.mv (.cst nils)),
 O 5 (.mv (.cst (iv 0)))]
def r_b1_1 : List CO := [
  O 6 (.mv (tm 0)),
 O 7 (.nil (tm 6)),
 O 8 (.fa 1 (tm 7)),
 O 9 (.load (tm 8)),
 O 10 (.ne (B .neq ty_api_Errno) (tm 9) (.cst (iv 0)))]
def r_b1_2 : List CO := [
  O 11 (.mv (tm 0)),
 O 12 (.nil (tm 11)),
 O 13 (.fa 1 (tm 12)),
 O 14 (.load (tm 13)),
 O 4 (.mv (.cst nils)),
 O 5 (.mv (tm 14))]
def r_b1_3 : List CO := [
  O 15 (.mv (tm 0)),
 O 16 (.nil (tm 15)),
 O 17 (.fa 0 (tm 16)),
 O 18 (.load (tm 17)),
 O 19 (.mv (tm 1)),
 O 20 (.mv (tm 0)),
 O 21 (.nil (tm 20)),
 O 22 (.fa 0 (tm 21)),
 O 23 (.load (tm 22)),
 O 24 (.len false (tm 23)),
 O 25 (.sub (B .sub ty_int) (tm 19) (tm 24)),
 O 26 (.appz ty_uint8 1 1 [(.y 0)] (tm 18) (tm 25)),
 O 4 (.mv (tm 26)),
 O 5 (.mv (.cst (iv 0)))]
def r_a8_0 : List CO := [
  O 8 (.mv (tm 2)),
 O 9 (.len false (tm 8)),
 O 10 (.mv (.cst (iv 0)))]
def r_a8_1 : List CO := [
  O 11 (.lt (B .lss ty_int) (tm 10) (tm 9))]
def r_a8_2 : List CO := [
  O 12 (.iaS 1 (tm 8) (tm 10)),
 O 13 (.load (tm 12)),
 O 7 (.mv (tm 13))]
def r_a8_3 : List CO := [
  O 14 (.mv (tm 7)),
 O 15 (.mv (tm 0)),
 O 16 (.mv (tm 1)),
 C 17 fn_a7 [(tm 15), (tm 16)],
 O 18 (.nil (tm 14)),
 .op none none (.store 1 (tm 18) (tm 17))]
def r_a8_4 : List CO := [
  O 19 (.add (B .add ty_int) (tm 10) (.cst (iv 1))),
 O 10 (.mv (tm 19))]
def r_a7_0 : List CO := [
  O 4 (.mv (.cst (iv 0)))]
def r_a7_1 : List CO := [
  O 8 (.mv (tm 0)),
 O 9 (.nil (tm 8)),
 O 10 (.fa 0 (tm 9)),
 O 11 (.load (tm 10)),
 O 12 (.mv (tm 0)),
 O 13 (.nil (tm 12)),
 O 14 (.fa 1 (tm 13)),
 O 15 (.load (tm 14)),
 O 16 (.mv (tm 1)),
 C 17 fn_e5 [(tm 11), (tm 15), (tm 16)],
 O 7 (.mv (tm 17)),
 O 18 (.ext 0 (tm 7)),
 O 19 (.ext 1 (tm 7)),
 O 5 (.mv (tm 18)),
 O 6 (.mv (tm 19))]
def r_a7_2 : List CO := [
  O 20 (.mv (tm 0)),
 O 21 (.nil (tm 20)),
 O 22 (.fa 1 (tm 21)),
 O 23 (.load (tm 22)),
 O 24 (.mv (tm 1)),
 O 25 (.add (B .add ty_int) (tm 23) (tm 24)),
 O 26 (.nil (tm 20)),
 O 27 (.fa 1 (tm 26)),
 .op none none (.store 1 (tm 27) (tm 25))]
def r_a7_3 : List CO := [
  O 28 (.mv (tm 5)),
 O 4 (.mv (tm 28))]
def r_e4_0 : List CO := [
  O 4 (.box ty_api_Inode (tm 0)),
 O 8 (.alloc ty_api_Inode 13 [(iv 0), (iv 0), (iv 0), (iv 0), (iv 0), (iv 0), (iv 0), (iv 0), (iv 0), (iv 0), (iv 0), (iv 0), (iv 0)]),
 O 9 (.mv (.cst (iv 0)))]
def r_e4_1 : List CO := [
  O 11 (.mv (tm 3)),
 O 12 (.ne (B .neq ty_api_Errno) (tm 11) (.cst (iv 0))),
 O 13 (.mv (tm 12)),
 G 14 13 false (.mv (tm 1)),
 G 15 13 false (.mv (tm 2)),
 .call (some (pth 16)) (some (pth 13, false)) (.cst (.func fn_e1 [])) [(tm 14), (tm 15)],
 G 17 13 false (.un .not (tm 16)),
 O 18 (.pick (tm 13) (.cst (.b true)) (tm 17))]
def r_e4_2 : List CO := [
  O 10 (.alloc ty_api_Inode 13 [(iv 0), (iv 0), (iv 0), (iv 0), (iv 0), (iv 0), (iv 0), (iv 0), (iv 0), (iv 0), (iv 0), (iv 0), (iv 0)])]
def r_e4_3 : List CO := [
  O 19 (.loadN 13 (tm 10)),
 .op none none (.store 13 (tm 8) (tm 19)),
 O 9 (.mv (.cst (iv 4)))]
def r_e4_4 : List CO := [
  O 20 (.loadN 13 (tm 4)),
 .op none none (.store 13 (tm 8) (tm 20)),
 O 9 (.mv (.cst (iv 0)))]
def r_c7_0 : List CO := [
  O 2 (.mv (.cst (iv 0)))]
def r_c7_1 : List CO := [
  O 4 (.mv (tm 0)),
 O 5 (.eqp false (B .eql ty_pgroup_Op) (tm 4) (.cst nilp)),
 O 3 (.mv (tm 5))]
def r_c7_2 : List CO := [
  O 2 (.mv (.cst (iv 1)))]
def r_c7_3 : List CO := [
  O 7 (.mv (tm 0)),
 O 8 (.nil (tm 7)),
 O 9 (.fa 0 (tm 8)),
 O 10 (.load (tm 9)),
 O 11 (.nil (tm 10)),
 O 12 (.fa 17 (tm 11)),
 O 13 (.load (tm 12)),
 O 14 (.mv (tm 0)),
 O 15 (.eqp true (B .neq ty_pgroup_Op) (tm 13) (tm 14)),
 O 6 (.mv (tm 15))]
def r_c7_4 : List CO := [
  O 2 (.mv (.cst (iv 22)))]
def r_c7_5 : List CO := [
  O 2 (.mv (.cst (iv 0)))]
def r_a6_0 : List CO := [
  O 2 (.mv (.cst nils))]
def r_a6_1 : List CO := [
  O 3 (.mv (tm 0)),
 O 4 (.eq (B .eql ty_suint8) (tm 3) (.cst nils))]
def r_a6_2 : List CO := [
  O 2 (.mv (.cst nils))]
def r_a6_3 : List CO := [
  O 5 (.bslice ty_uint8 0 0 [(.y 0)] []),
 O 6 (.mv (tm 0)),
 O 7 (.app ty_uint8 1 1 [(.y 0)] (tm 5) (tm 6)),
 O 2 (.mv (tm 7))]
def r_b7_0 : List CO := [
  O 2 (.mv (.cst nils))]
def r_b7_1 : List CO := [
  O 6 (.mv (tm 0)),
 O 7 (.eqp false (B .eql ty_pwal_Log) (tm 6) (.cst nilp))]
def r_b7_2 : List CO := [
  O 2 (.mv (.cst nils))]
def r_b7_3 : List CO := [
  O 3 (.mv (.cst nils))]
def r_b7_4 : List CO := [
  O 8 (.mv (tm 0)),
 O 9 (.nil (tm 8)),
 O 10 (.fa 16 (tm 9)),
 O 11 (.load (tm 10)),
 C 12 fn_b6 [(tm 11)],
 C 13 fn_Sorted [(tm 12)],
 O 14 (.len false (tm 13)),
 O 15 (.mv (.cst (iv 0)))]
def r_b7_5 : List CO := [
  O 16 (.lt (B .lss ty_int) (tm 15) (tm 14))]
def r_b7_6 : List CO := [
  O 17 (.iaS 1 (tm 13) (tm 15)),
 O 18 (.load (tm 17)),
 O 5 (.mv (tm 18))]
def r_b7_7 : List CO := [
  O 19 (.mv (tm 3)),
 O 20 (.mv (tm 5)),
 O 21 (.mv (tm 0)),
 O 22 (.nil (tm 21)),
 O 23 (.fa 16 (tm 22)),
 O 24 (.load (tm 23)),
 O 25 (.mv (tm 5)),
 O 26 (.look (some .i64) nils false (tm 24) (tm 25)),
 C 27 fn_a6 [(tm 26)],
 O 28 (.build [(iv 0), nils] [(0, 1, (tm 20)), (1, 1, (tm 27))]),
 O 29 (.bslice ty_api_Write 1 2 [(iv 0), nils] [(0, 2, (tm 28))]),
 O 30 (.app ty_api_Write 2 32 [(iv 0), nils] (tm 19) (tm 29)),
 O 3 (.mv (tm 30))]
def r_b7_8 : List CO := [
  O 31 (.add (B .add ty_int) (tm 15) (.cst (iv 1))),
 O 15 (.mv (tm 31))]
def r_b7_9 : List CO := [
  O 32 (.mv (tm 3)),
 O 2 (.mv (tm 32))]
def r_b4_0 : List CO := [
  O 4 (.mv (.cst nils)),
 O 5 (.mv (.cst (iv 0)))]
def r_b4_1 : List CO := [
  O 11 (.mv (tm 0)),
 O 12 (.eqp false (B .eql ty_pgroup_Group) (tm 11) (.cst nilp)),
 O 10 (.mv (tm 12))]
def r_b4_2 : List CO := [
  O 4 (.mv (.cst nils)),
 O 5 (.mv (.cst (iv 1)))]
def r_b4_3 : List CO := [
  O 14 (.mv (tm 1)),
 O 15 (.lt (B .lss ty_int) (tm 14) (.cst (iv 0))),
 O 16 (.mv (tm 15)),
 G 17 16 false (.mv (tm 1)),
 G 18 16 false (.mv (tm 0)),
 G 19 16 false (.nil (tm 18)),
 G 20 16 false (.fa 3 (tm 19)),
 G 21 16 false (.fa 1 (tm 20)),
 G 22 16 false (.load (tm 21)),
 G 23 16 false (.ge (B .geq ty_int) (tm 17) (tm 22)),
 O 24 (.pick (tm 16) (.cst (.b true)) (tm 23)),
 O 13 (.mv (tm 24))]
def r_b4_4 : List CO := [
  O 4 (.mv (.cst nils)),
 O 5 (.mv (.cst (iv 2)))]
def r_b4_5 : List CO := [
  O 26 (.mv (tm 0)),
 O 27 (.nil (tm 26)),
 O 28 (.fa 15 (tm 27)),
 O 29 (.load (tm 28)),
 O 30 (.mv (tm 1)),
 O 31 (.look (some .i64) nils true (tm 29) (tm 30)),
 O 25 (.mv (tm 31)),
 O 32 (.ext 0 (tm 25)),
 O 33 (.ext 1 (tm 25)),
 O 6 (.mv (tm 32)),
 O 7 (.mv (tm 33))]
def r_b4_6 : List CO := [
  O 34 (.mv (tm 7))]
def r_b4_7 : List CO := [
  O 35 (.mv (tm 6)),
 C 36 fn_a6 [(tm 35)],
 O 4 (.mv (tm 36)),
 O 5 (.mv (.cst (iv 0)))]
def r_b4_8 : List CO := [
  O 38 (.mv (tm 0)),
 O 39 (.mv (tm 1)),
 C 40 fn_b5 [(tm 38), (tm 39)],
 O 37 (.mv (tm 40)),
 O 41 (.ext 0 (tm 37)),
 O 42 (.ext 1 (tm 37)),
 O 8 (.mv (tm 41)),
 O 9 (.mv (tm 42))]
def r_b4_9 : List CO := [
  O 43 (.mv (tm 9))]
def r_b4_10 : List CO := [
  O 44 (.mv (tm 8)),
 O 4 (.mv (tm 44)),
 O 5 (.mv (.cst (iv 0)))]
def r_b4_11 : List CO := [
  O 45 (.mv (tm 0)),
 O 46 (.nil (tm 45)),
 O 47 (.fa 2 (tm 46)),
 O 48 (.load (tm 47)),
 O 49 (.mv (tm 1)),
 C 50 fn_Ca_Get [(tm 48), (tm 49)],
 O 51 (.ext 0 (tm 50)),
 O 52 (.ext 1 (tm 50)),
 O 4 (.mv (tm 51)),
 O 5 (.mv (tm 52))]
def r_c6_0 : List CO := [
  O 4 (.mv (tm 0)),
 O 5 (.nil (tm 4)),
 O 6 (.fa 1 (tm 5)),
 O 7 (.load (tm 6)),
 O 8 (.mv (tm 1)),
 .op none none (.mdel (some .i64) (tm 7) (tm 8))]
def r_c6_1 : List CO := [
  O 9 (.mv (tm 0)),
 O 10 (.nil (tm 9)),
 O 11 (.fa 2 (tm 10)),
 O 12 (.load (tm 11)),
 O 13 (.mv (tm 1)),
 .op none none (.mdel (some .i64) (tm 12) (tm 13))]
def r_c6_2 : List CO := [
  O 14 (.mv (tm 0)),
 O 15 (.nil (tm 14)),
 O 16 (.fa 3 (tm 15)),
 O 17 (.load (tm 16)),
 O 18 (.mv (tm 1)),
 .op none none (.mdel (some .i64) (tm 17) (tm 18))]
def r_e7_0 : List CO := [
  O 6 (.mv (.cst nils)),
 O 7 (.mv (.cst (iv 0)))]
def r_e7_1 : List CO := [
  O 10 (.mv (tm 2))]
def r_e7_2 : List CO := [
  O 12 (.eq (B .eql ty_int) (tm 10) (.cst (iv 1))),
 O 11 (.mv (tm 12))]
def r_e7_3 : List CO := [
  O 13 (.eq (B .eql ty_int) (tm 10) (.cst (iv 2))),
 O 11 (.mv (tm 13))]
def r_e7_4 : List CO := [
  O 14 (.eq (B .eql ty_int) (tm 10) (.cst (iv 4))),
 O 11 (.mv (tm 14))]
def r_e7_5 : List CO := [
  O 16 (.mv (tm 0)),
 O 17 (.mv (tm 1)),
 O 18 (.mv (tm 2)),
 C 19 fn_e8 [(tm 16), (tm 17), (tm 18)],
 O 15 (.mv (tm 19)),
 O 20 (.ext 0 (tm 15)),
 O 21 (.ext 1 (tm 15)),
 O 8 (.mv (tm 20)),
 O 9 (.mv (tm 21))]
def r_e7_6 : List CO := [
  O 22 (.mv (tm 9)),
 O 23 (.un .not (tm 22))]
def r_e7_7 : List CO := [
  O 6 (.mv (.cst nils)),
 O 7 (.mv (.cst (iv 2)))]
def r_e7_8 : List CO := [
  O 24 (.mv (tm 8)),
 O 6 (.mv (tm 24)),
 O 7 (.mv (.cst (iv 0)))]
def r_e7_9 : List CO := [
  O 6 (.mv (.cst nils)),
 O 7 (.mv (.cst (iv 1)))]
def r_a1_0 : List CO := [
  O 1 (.box ty_suint8 (tm 0)),
 O 2 (.mv (.cst nilf))]
def r_a1_1 : List CO := [
  O 3 (.fn fn_a2 [(tm 1)]),
 O 2 (.mv (tm 3))]
def r_a4_0 : List CO := [
  O 4 (.box ty_alloc_bitmap (tm 0)),
 O 8 (.mv (.cst (iv 0)))]
def r_a4_1 : List CO := [
  O 12 (.mv (tm 1)),
 O 13 (.fa 0 (tm 4)),
 O 14 (.load (tm 13)),
 O 15 (.mv (tm 2)),
 O 16 (.fa 1 (tm 4)),
 O 17 (.load (tm 16)),
 O 18 (.quo (B .quo ty_int) (tm 15) (tm 17)),
 O 19 (.add (B .add ty_int) (tm 14) (tm 18)),
 C 20 fn_c2 [(tm 12), (tm 19)],
 O 11 (.mv (tm 20)),
 O 21 (.ext 0 (tm 11)),
 O 22 (.ext 1 (tm 11)),
 O 9 (.mv (tm 21)),
 O 10 (.mv (tm 22))]
def r_a4_2 : List CO := [
  O 23 (.mv (tm 10)),
 O 24 (.ne (B .neq ty_api_Errno) (tm 23) (.cst (iv 0)))]
def r_a4_3 : List CO := [
  O 25 (.mv (tm 10)),
 O 8 (.mv (tm 25))]
def r_a4_4 : List CO := [
  O 27 (.mv (tm 9)),
 O 28 (.mv (tm 2)),
 O 29 (.fa 1 (tm 4)),
 O 30 (.load (tm 29)),
 O 31 (.rem (B .rem ty_int) (tm 28) (tm 30)),
 O 32 (.mv (tm 3)),
 C 33 fn_d9 [(tm 27), (tm 31), (tm 32)],
 O 26 (.mv (tm 33)),
 O 34 (.ext 0 (tm 26)),
 O 35 (.ext 1 (tm 26)),
 O 9 (.mv (tm 34))]
def r_a4_5 : List CO := [
  O 36 (.mv (tm 1)),
 O 37 (.fa 0 (tm 4)),
 O 38 (.load (tm 37)),
 O 39 (.mv (tm 2)),
 O 40 (.fa 1 (tm 4)),
 O 41 (.load (tm 40)),
 O 42 (.quo (B .quo ty_int) (tm 39) (tm 41)),
 O 43 (.add (B .add ty_int) (tm 38) (tm 42)),
 O 44 (.mv (tm 9)),
 C 45 fn_c3 [(tm 36), (tm 43), (tm 44)],
 O 8 (.mv (tm 45))]
def r_d8_0 : List CO := [
  O 6 (.mv (.cst (iv 0))),
 O 7 (.mv (.cst (iv 0)))]
def r_d8_1 : List CO := [
  O 9 (.mv (tm 0)),
 O 10 (.mv (tm 1)),
 O 11 (.mv (tm 2)),
 C 12 fn_e0 [(tm 9), (tm 10), (tm 11)],
 O 13 (.un .not (tm 12))]
def r_d8_2 : List CO := [
  O 6 (.mv (.cst (iv 0))),
 O 7 (.mv (.cst (iv 2)))]
def r_d8_3 : List CO := [
  O 14 (.mv (tm 1)),
 O 8 (.mv (tm 14))]
def r_d8_4 : List CO := [
  O 15 (.mv (tm 8)),
 O 16 (.mv (tm 2)),
 O 17 (.ge (B .geq ty_int) (tm 15) (tm 16))]
def r_d8_5 : List CO := [
  O 6 (.mv (.cst (iv 0))),
 O 7 (.mv (.cst (iv 11)))]
def r_d8_6 : List CO := [
  O 18 (.mv (tm 8)),
 O 19 (.rem (B .rem ty_int) (tm 18) (.cst (iv 8))),
 O 20 (.eq (B .eql ty_int) (tm 19) (.cst (iv 0)))]
def r_d8_7 : List CO := [
  O 21 (.mv (tm 0)),
 O 22 (.mv (tm 8)),
 O 23 (.quo (B .quo ty_int) (tm 22) (.cst (iv 8))),
 O 24 (.iaS 1 (tm 21) (tm 23)),
 O 25 (.load (tm 24)),
 O 26 (.mv (tm 8)),
 O 27 (.rem (B .rem ty_int) (tm 26) (.cst (iv 8))),
 O 28 (.slow (B .shr ty_uint8) (tm 25) (tm 27)),
 O 29 (.and (B .and ty_uint8) (tm 28) (.cst (.y 1))),
 O 30 (.eq (B .eql ty_uint8) (tm 29) (.cst (.y 0)))]
def r_d8_8 : List CO := [
  O 31 (.mv (tm 8)),
 O 6 (.mv (tm 31)),
 O 7 (.mv (.cst (iv 0)))]
def r_d8_9 : List CO := [
  O 32 (.mv (tm 8)),
 O 33 (.add (B .add ty_int) (tm 32) (.cst (iv 1))),
 O 8 (.mv (tm 33))]
def r_d8_10 : List CO := [
  O 34 (.mv (tm 0)),
 O 35 (.mv (tm 8)),
 O 36 (.quo (B .quo ty_int) (tm 35) (.cst (iv 8))),
 O 37 (.iaS 1 (tm 34) (tm 36)),
 O 38 (.load (tm 37)),
 O 39 (.ne (B .neq ty_uint8) (tm 38) (.cst (.y 255)))]
def r_d8_11 : List CO := [
  O 40 (.mv (tm 8)),
 O 41 (.add (B .add ty_int) (tm 40) (.cst (iv 8))),
 O 8 (.mv (tm 41))]
noncomputable def b_bits_First : Code := scopeOf (Tryz.prog.funcs[149]?)
noncomputable def cb_bits_First : CC := (.seq (.seq (.reg r_d8_1) (.cond (tm 13) (.seq (.reg r_d8_2) .ret) .skip)) (.seq (.reg r_d8_3) (.seq .skip (.seq (.seq (.reg r_d8_4) (.cond (tm 17) (.seq (.reg r_d8_5) .ret) .skip)) (.seq (.seq (.reg r_d8_6) (.cond (tm 20) (.goto 1) .skip)) (.seq .skip (.seq (.seq (.reg r_d8_7) (.cond (tm 30) (.seq (.reg r_d8_8) .ret) .skip)) (.seq (.reg r_d8_9) (.seq (.goto 0) (.seq .skip (.seq (.seq (.reg r_d8_10) (.cond (tm 39) (.goto 2) .skip)) (.seq (.reg r_d8_11) (.goto 0)))))))))))))
theorem hb_bits_First : comp Tryz.prog b_bits_First = cb_bits_First := by kernel_rfl
noncomputable def cr_bits_First_0 : CC := (.seq .skip (.seq (.seq (.reg r_d8_4) (.cond (tm 17) (.seq (.reg r_d8_5) .ret) .skip)) (.seq (.seq (.reg r_d8_6) (.cond (tm 20) (.goto 1) .skip)) (.seq .skip (.seq (.seq (.reg r_d8_7) (.cond (tm 30) (.seq (.reg r_d8_8) .ret) .skip)) (.seq (.reg r_d8_9) (.seq (.goto 0) (.seq .skip (.seq (.seq (.reg r_d8_10) (.cond (tm 39) (.goto 2) .skip)) (.seq (.reg r_d8_11) (.goto 0)))))))))))
theorem hl_bits_First_0 : findLabel b_bits_First 0 = some (restOf b_bits_First 0) := by kernel_rfl
theorem hc_bits_First_0 : comp Tryz.prog (restOf b_bits_First 0) = cr_bits_First_0 := by kernel_rfl
noncomputable def cr_bits_First_2 : CC := (.seq .skip (.seq (.seq (.reg r_d8_7) (.cond (tm 30) (.seq (.reg r_d8_8) .ret) .skip)) (.seq (.reg r_d8_9) (.seq (.goto 0) (.seq .skip (.seq (.seq (.reg r_d8_10) (.cond (tm 39) (.goto 2) .skip)) (.seq (.reg r_d8_11) (.goto 0))))))))
theorem hl_bits_First_2 : findLabel b_bits_First 2 = some (restOf b_bits_First 2) := by kernel_rfl
theorem hc_bits_First_2 : comp Tryz.prog (restOf b_bits_First 2) = cr_bits_First_2 := by kernel_rfl
noncomputable def cr_bits_First_1 : CC := (.seq .skip (.seq (.seq (.reg r_d8_10) (.cond (tm 39) (.goto 2) .skip)) (.seq (.reg r_d8_11) (.goto 0))))
theorem hl_bits_First_1 : findLabel b_bits_First 1 = some (restOf b_bits_First 1) := by kernel_rfl
theorem hc_bits_First_1 : comp Tryz.prog (restOf b_bits_First 1) = cr_bits_First_1 := by kernel_rfl
def r_e1_0 : List CO := [
  O 4 (.mv (.cst (.b false)))]
def r_e1_1 : List CO := [
  O 5 (.mv (tm 0)),
 O 6 (.b2s (tm 5)),
 O 7 (.mv (tm 1)),
 O 8 (.b2s (tm 7)),
 O 9 (.eq (B .eql ty_string) (tm 6) (tm 8)),
 O 4 (.mv (tm 9))]
def r_b6_0 : List CO := [
  O 1 (.box ty_map_int_suint8 (tm 0)),
 O 2 (.mv (.cst nilf))]
def r_b6_1 : List CO := [
  O 3 (.fn fn_Keys_1 [(tm 1)]),
 O 2 (.mv (tm 3))]
def r_b9_0 : List CO := [
  O 2 (.mv (.cst nilm))]
def r_b9_1 : List CO := [
  O 3 (.mv (tm 0)),
 O 4 (.nil (tm 3)),
 O 5 (.fa 2 (tm 4)),
 O 6 (.load (tm 5)),
 O 2 (.mv (tm 6))]
def r_c0_0 : List CO := [
  O 1 (.box ty_api_Plan (tm 0)),
 O 2 (.mv (.cst (iv 0)))]
def r_c0_1 : List CO := [
  O 3 (.fa 11 (tm 1)),
 O 4 (.load (tm 3)),
 O 2 (.mv (tm 4))]
def r_e8_0 : List CO := [
  O 6 (.mv (.cst nils)),
 O 7 (.mv (.cst (.b false)))]
def r_e8_1 : List CO := [
  O 8 (.mv (tm 1)),
 O 9 (.lt (B .lss ty_int) (tm 8) (.cst (iv 0))),
 O 10 (.mv (tm 9)),
 G 11 10 false (.mv (tm 2)),
 G 12 10 false (.lt (B .lss ty_int) (tm 11) (.cst (iv 0))),
 O 13 (.pick (tm 10) (.cst (.b true)) (tm 12)),
 O 14 (.mv (tm 13)),
 G 15 14 false (.mv (tm 1)),
 G 16 14 false (.mv (tm 0)),
 G 17 14 false (.len false (tm 16)),
 G 18 14 false (.gt (B .gtr ty_int) (tm 15) (tm 17)),
 O 19 (.pick (tm 14) (.cst (.b true)) (tm 18)),
 O 20 (.mv (tm 19)),
 G 21 20 false (.mv (tm 2)),
 G 22 20 false (.mv (tm 0)),
 G 23 20 false (.len false (tm 22)),
 G 24 20 false (.mv (tm 1)),
 G 25 20 false (.sub (B .sub ty_int) (tm 23) (tm 24)),
 G 26 20 false (.gt (B .gtr ty_int) (tm 21) (tm 25)),
 O 27 (.pick (tm 20) (.cst (.b true)) (tm 26))]
def r_e8_2 : List CO := [
  O 6 (.mv (.cst nils)),
 O 7 (.mv (.cst (.b false)))]
def r_e8_3 : List CO := [
  O 28 (.mv (tm 0)),
 O 29 (.mv (tm 1)),
 O 30 (.mv (tm 1)),
 O 31 (.mv (tm 2)),
 O 32 (.add (B .add ty_int) (tm 30) (tm 31)),
 O 33 (.sl 1 false (tm 28) (some (tm 29)) (some (tm 32)) none),
 O 6 (.mv (tm 33)),
 O 7 (.mv (.cst (.b true)))]
def r_a2_0 : List CO := [
  O 4 (.load (tm 1)),
 O 5 (.len false (tm 4)),
 O 6 (.sub (B .sub ty_int) (tm 5) (.cst (iv 1))),
 O 3 (.mv (tm 6))]
def r_a2_1 : List CO := [
  O 7 (.mv (tm 3)),
 O 8 (.ge (B .geq ty_int) (tm 7) (.cst (iv 0)))]
def r_a2_3 : List CO := [
  O 11 (.mv (tm 0)),
 O 12 (.mv (tm 3)),
 O 13 (.load (tm 1)),
 O 14 (.mv (tm 3)),
 O 15 (.iaS 1 (tm 13) (tm 14)),
 O 16 (.load (tm 15)),
 .call (some (pth 17)) none (tm 11) [(tm 12), (tm 16)],
 O 18 (.un .not (tm 17))]
def r_a2_2 : List CO := [
  O 9 (.mv (tm 3)),
 O 10 (.sub (B .sub ty_int) (tm 9) (.cst (iv 1))),
 O 3 (.mv (tm 10))]
def r_d9_0 : List CO := [
  O 6 (.mv (.cst nils)),
 O 7 (.mv (.cst (iv 0)))]
def r_d9_1 : List CO := [
  O 9 (.mv (tm 1)),
 O 10 (.lt (B .lss ty_int) (tm 9) (.cst (iv 0))),
 O 11 (.mv (tm 10)),
 G 12 11 false (.mv (tm 1)),
 G 13 11 false (.quo (B .quo ty_int) (tm 12) (.cst (iv 8))),
 G 14 11 false (.mv (tm 0)),
 G 15 11 false (.len false (tm 14)),
 G 16 11 false (.ge (B .geq ty_int) (tm 13) (tm 15)),
 O 17 (.pick (tm 11) (.cst (.b true)) (tm 16))]
def r_d9_2 : List CO := [
  O 6 (.mv (.cst nils)),
 O 7 (.mv (.cst (iv 2)))]
def r_d9_3 : List CO := [
  O 18 (.mv (tm 0)),
 C 19 fn_a6 [(tm 18)],
 O 8 (.mv (tm 19))]
def r_d9_4 : List CO := [
  O 20 (.mv (tm 2))]
def r_d9_5 : List CO := [
  O 21 (.mv (tm 8)),
 O 22 (.mv (tm 1)),
 O 23 (.quo (B .quo ty_int) (tm 22) (.cst (iv 8))),
 O 24 (.iaS 1 (tm 21) (tm 23)),
 O 25 (.load (tm 24)),
 O 26 (.mv (tm 1)),
 O 27 (.rem (B .rem ty_int) (tm 26) (.cst (iv 8))),
 O 28 (.slow (B .shl ty_uint8) (.cst (.y 1)) (tm 27)),
 O 29 (.slow (B .or ty_uint8) (tm 25) (tm 28)),
 O 30 (.iaS 1 (tm 21) (tm 23)),
 .op none none (.store 1 (tm 30) (tm 29))]
def r_d9_6 : List CO := [
  O 31 (.mv (tm 8)),
 O 32 (.mv (tm 1)),
 O 33 (.quo (B .quo ty_int) (tm 32) (.cst (iv 8))),
 O 34 (.iaS 1 (tm 31) (tm 33)),
 O 35 (.load (tm 34)),
 O 36 (.mv (tm 1)),
 O 37 (.rem (B .rem ty_int) (tm 36) (.cst (iv 8))),
 O 38 (.slow (B .shl ty_uint8) (.cst (.y 1)) (tm 37)),
 O 39 (.slow (B .andNot ty_uint8) (tm 35) (tm 38)),
 O 40 (.iaS 1 (tm 31) (tm 33)),
 .op none none (.store 1 (tm 40) (tm 39))]
def r_d9_7 : List CO := [
  O 41 (.mv (tm 8)),
 O 6 (.mv (tm 41)),
 O 7 (.mv (.cst (iv 0)))]
def r_e0_0 : List CO := [
  O 6 (.mv (.cst (.b false)))]
def r_e0_1 : List CO := [
  O 7 (.mv (tm 1)),
 O 8 (.ge (B .geq ty_int) (tm 7) (.cst (iv 0))),
 O 9 (.mv (tm 8)),
 G 10 9 true (.mv (tm 1)),
 G 11 9 true (.mv (tm 2)),
 G 12 9 true (.le (B .leq ty_int) (tm 10) (tm 11)),
 O 13 (.pick (tm 9) (tm 12) (.cst (.b false))),
 O 14 (.mv (tm 13)),
 G 15 14 true (.mv (tm 2)),
 G 16 14 true (.mv (tm 0)),
 G 17 14 true (.len false (tm 16)),
 G 18 14 true (.mul (B .mul ty_int) (.cst (iv 8)) (tm 17)),
 G 19 14 true (.le (B .leq ty_int) (tm 15) (tm 18)),
 O 20 (.pick (tm 14) (tm 19) (.cst (.b false))),
 O 6 (.mv (tm 20))]
def k_f2_4 : CC := (.seq (.reg r_f2_2) .ret)
def k_f2_3 : CC := (.cond (tm 34) k_f2_4 .skip)
def k_f2_2 : CC := (.seq (.reg r_f2_1) k_f2_3)
def k_f2_17 : CC := (.cond (tm 60) .skip (.exit 0))
def k_f2_16 : CC := (.seq (.reg r_f2_10) k_f2_17)
def k_f2_25 : CC := (.reg r_f2_15)
def k_f2_27 : CC := (.reg r_f2_17)
def k_f2_26 : CC := (.seq (.reg r_f2_16) k_f2_27)
def k_f2_24 : CC := (.cond (tm 66) k_f2_25 k_f2_26)
def k_f2_23 : CC := (.seq (.reg r_f2_14) k_f2_24)
def k_f2_32 : CC := (.cond (tm 106) (.exit 0) .skip)
def k_f2_31 : CC := (.seq (.reg r_f2_20) k_f2_32)
def k_f2_36 : CC := (.seq (.reg r_f2_22) .ret)
def k_f2_35 : CC := (.cond (tm 135) k_f2_36 .skip)
def k_f2_34 : CC := (.seq (.reg r_f2_21) k_f2_35)
def k_f2_41 : CC := (.reg r_f2_26)
def k_f2_40 : CC := (.seq (.reg r_f2_25) k_f2_41)
def k_f2_39 : CC := (.seq (.reg r_f2_24) k_f2_40)
def k_f2_38 : CC := (.cond (tm 136) k_f2_39 .skip)
def k_f2_37 : CC := (.seq (.reg r_f2_23) k_f2_38)
def k_f2_33 : CC := (.seq k_f2_34 k_f2_37)
def k_f2_30 : CC := (.seq k_f2_31 k_f2_33)
def k_f2_29 : CC := (.seq (.reg r_f2_19) k_f2_30)
def k_f2_28 : CC := (.seq (.reg r_f2_18) k_f2_29)
def k_f2_22 : CC := (.seq k_f2_23 k_f2_28)
def k_f2_21 : CC := (.seq (.reg r_f2_13) k_f2_22)
def k_f2_20 : CC := (.seq (.reg r_f2_12) k_f2_21)
def k_f2_19 : CC := (.block 1 k_f2_20)
def k_f2_42 : CC := (.reg r_f2_11)
def k_f2_18 : CC := (.seq k_f2_19 k_f2_42)
def k_f2_15 : CC := (.seq k_f2_16 k_f2_18)
def k_f2_14 : CC := (.loop k_f2_15)
def k_f2_13 : CC := (.block 0 k_f2_14)
def k_f2_12 : CC := (.seq (.reg r_f2_9) k_f2_13)
def k_f2_49 : CC := (.cond (tm 160) .skip (.exit 2))
def k_f2_48 : CC := (.seq (.reg r_f2_28) k_f2_49)
def k_f2_58 : CC := (.cond (tm 168) .skip (.exit 4))
def k_f2_57 : CC := (.seq (.reg r_f2_31) k_f2_58)
def k_f2_64 : CC := (.seq (.reg r_f2_35) .ret)
def k_f2_63 : CC := (.cond (tm 196) k_f2_64 .skip)
def k_f2_62 : CC := (.seq (.reg r_f2_34) k_f2_63)
def k_f2_61 : CC := (.seq (.reg r_f2_33) k_f2_62)
def k_f2_60 : CC := (.block 5 k_f2_61)
def k_f2_65 : CC := (.reg r_f2_32)
def k_f2_59 : CC := (.seq k_f2_60 k_f2_65)
def k_f2_56 : CC := (.seq k_f2_57 k_f2_59)
def k_f2_55 : CC := (.loop k_f2_56)
def k_f2_54 : CC := (.block 4 k_f2_55)
def k_f2_53 : CC := (.seq (.reg r_f2_30) k_f2_54)
def k_f2_70 : CC := (.seq (.reg r_f2_38) .ret)
def k_f2_69 : CC := (.cond (tm 207) k_f2_70 .skip)
def k_f2_68 : CC := (.seq (.reg r_f2_37) k_f2_69)
def k_f2_78 : CC := (.cond (tm 211) .skip (.exit 6))
def k_f2_77 : CC := (.seq (.reg r_f2_41) k_f2_78)
def k_f2_83 : CC := (.reg r_f2_44)
def k_f2_82 : CC := (.cond (tm 218) k_f2_83 .skip)
def k_f2_81 : CC := (.seq (.reg r_f2_43) k_f2_82)
def k_f2_80 : CC := (.block 7 k_f2_81)
def k_f2_84 : CC := (.reg r_f2_42)
def k_f2_79 : CC := (.seq k_f2_80 k_f2_84)
def k_f2_76 : CC := (.seq k_f2_77 k_f2_79)
def k_f2_75 : CC := (.loop k_f2_76)
def k_f2_74 : CC := (.block 6 k_f2_75)
def k_f2_73 : CC := (.seq (.reg r_f2_40) k_f2_74)
def k_f2_88 : CC := (.seq (.reg r_f2_46) .ret)
def k_f2_87 : CC := (.cond (tm 226) k_f2_88 .skip)
def k_f2_86 : CC := (.seq (.reg r_f2_45) k_f2_87)
def k_f2_94 : CC := (.cond (tm 230) .skip (.exit 8))
def k_f2_93 : CC := (.seq (.reg r_f2_48) k_f2_94)
def k_f2_100 : CC := (.seq (.reg r_f2_51) .ret)
def k_f2_99 : CC := (.cond (tm 248) k_f2_100 .skip)
def k_f2_98 : CC := (.seq (.drawn r_f2_50 [ (3, 0) , (5, 0) , (11, 0) , (13, 0) ]) k_f2_99)
def k_f2_101 : CC := (.reg r_f2_52)
def k_f2_97 : CC := (.seq k_f2_98 k_f2_101)
def k_f2_96 : CC := (.block 9 k_f2_97)
def k_f2_102 : CC := (.reg r_f2_49)
def k_f2_95 : CC := (.seq k_f2_96 k_f2_102)
def k_f2_92 : CC := (.seq k_f2_93 k_f2_95)
def k_f2_91 : CC := (.loop k_f2_92)
def k_f2_90 : CC := (.block 8 k_f2_91)
def k_f2_89 : CC := (.seq (.reg r_f2_47) k_f2_90)
def k_f2_85 : CC := (.seq k_f2_86 k_f2_89)
def k_f2_72 : CC := (.seq k_f2_73 k_f2_85)
def k_f2_71 : CC := (.seq (.reg r_f2_39) k_f2_72)
def k_f2_67 : CC := (.seq k_f2_68 k_f2_71)
def k_f2_66 : CC := (.seq (.reg r_f2_36) k_f2_67)
def k_f2_52 : CC := (.seq k_f2_53 k_f2_66)
def k_f2_51 : CC := (.block 3 k_f2_52)
def k_f2_103 : CC := (.reg r_f2_29)
def k_f2_50 : CC := (.seq k_f2_51 k_f2_103)
def k_f2_47 : CC := (.seq k_f2_48 k_f2_50)
def k_f2_46 : CC := (.loop k_f2_47)
def k_f2_45 : CC := (.block 2 k_f2_46)
def k_f2_44 : CC := (.seq (.reg r_f2_27) k_f2_45)
def k_f2_110 : CC := (.cond (tm 261) .skip (.exit 10))
def k_f2_109 : CC := (.seq (.reg r_f2_54) k_f2_110)
def k_f2_115 : CC := (.seq (.reg r_f2_57) .ret)
def k_f2_114 : CC := (.cond (tm 268) k_f2_115 .skip)
def k_f2_113 : CC := (.seq (.reg r_f2_56) k_f2_114)
def k_f2_112 : CC := (.block 11 k_f2_113)
def k_f2_116 : CC := (.reg r_f2_55)
def k_f2_111 : CC := (.seq k_f2_112 k_f2_116)
def k_f2_108 : CC := (.seq k_f2_109 k_f2_111)
def k_f2_107 : CC := (.loop k_f2_108)
def k_f2_106 : CC := (.block 10 k_f2_107)
def k_f2_105 : CC := (.seq (.reg r_f2_53) k_f2_106)
def k_f2_117 : CC := (.seq (.reg r_f2_58) .ret)
def k_f2_104 : CC := (.seq k_f2_105 k_f2_117)
def k_f2_43 : CC := (.seq k_f2_44 k_f2_104)
def k_f2_11 : CC := (.seq k_f2_12 k_f2_43)
def k_f2_10 : CC := (.seq (.reg r_f2_8) k_f2_11)
def k_f2_9 : CC := (.seq (.reg r_f2_7) k_f2_10)
def k_f2_8 : CC := (.seq (.reg r_f2_6) k_f2_9)
def k_f2_7 : CC := (.seq (.reg r_f2_5) k_f2_8)
def k_f2_6 : CC := (.seq (.reg r_f2_4) k_f2_7)
def k_f2_5 : CC := (.seq (.reg r_f2_3) k_f2_6)
def k_f2_1 : CC := (.seq k_f2_2 k_f2_5)
def c_f2 : CC := (.seq (.reg r_f2_0) k_f2_1)
theorem o_f2 : Kq k_f2_4 (.seq (.reg r_f2_2) .ret) ∧
  Kq k_f2_3 (.cond (tm 34) k_f2_4 .skip) ∧
  Kq k_f2_2 (.seq (.reg r_f2_1) k_f2_3) ∧
  Kq k_f2_17 (.cond (tm 60) .skip (.exit 0)) ∧
  Kq k_f2_16 (.seq (.reg r_f2_10) k_f2_17) ∧
  Kq k_f2_25 (.reg r_f2_15) ∧
  Kq k_f2_27 (.reg r_f2_17) ∧
  Kq k_f2_26 (.seq (.reg r_f2_16) k_f2_27) ∧
  Kq k_f2_24 (.cond (tm 66) k_f2_25 k_f2_26) ∧
  Kq k_f2_23 (.seq (.reg r_f2_14) k_f2_24) ∧
  Kq k_f2_32 (.cond (tm 106) (.exit 0) .skip) ∧
  Kq k_f2_31 (.seq (.reg r_f2_20) k_f2_32) ∧
  Kq k_f2_36 (.seq (.reg r_f2_22) .ret) ∧
  Kq k_f2_35 (.cond (tm 135) k_f2_36 .skip) ∧
  Kq k_f2_34 (.seq (.reg r_f2_21) k_f2_35) ∧
  Kq k_f2_41 (.reg r_f2_26) ∧
  Kq k_f2_40 (.seq (.reg r_f2_25) k_f2_41) ∧
  Kq k_f2_39 (.seq (.reg r_f2_24) k_f2_40) ∧
  Kq k_f2_38 (.cond (tm 136) k_f2_39 .skip) ∧
  Kq k_f2_37 (.seq (.reg r_f2_23) k_f2_38) ∧
  Kq k_f2_33 (.seq k_f2_34 k_f2_37) ∧
  Kq k_f2_30 (.seq k_f2_31 k_f2_33) ∧
  Kq k_f2_29 (.seq (.reg r_f2_19) k_f2_30) ∧
  Kq k_f2_22 (.seq k_f2_23 k_f2_28) ∧
  Kq k_f2_21 (.seq (.reg r_f2_13) k_f2_22) ∧
  Kq k_f2_20 (.seq (.reg r_f2_12) k_f2_21) ∧
  Kq k_f2_19 (.block 1 k_f2_20) ∧
  Kq k_f2_42 (.reg r_f2_11) ∧
  Kq k_f2_18 (.seq k_f2_19 k_f2_42) ∧
  Kq k_f2_15 (.seq k_f2_16 k_f2_18) ∧
  Kq k_f2_14 (.loop k_f2_15) ∧
  Kq k_f2_13 (.block 0 k_f2_14) ∧
  Kq k_f2_12 (.seq (.reg r_f2_9) k_f2_13) ∧
  Kq k_f2_49 (.cond (tm 160) .skip (.exit 2)) ∧
  Kq k_f2_48 (.seq (.reg r_f2_28) k_f2_49) ∧
  Kq k_f2_58 (.cond (tm 168) .skip (.exit 4)) ∧
  Kq k_f2_57 (.seq (.reg r_f2_31) k_f2_58) ∧
  Kq k_f2_64 (.seq (.reg r_f2_35) .ret) ∧
  Kq k_f2_63 (.cond (tm 196) k_f2_64 .skip) ∧
  Kq k_f2_62 (.seq (.reg r_f2_34) k_f2_63) ∧
  Kq k_f2_61 (.seq (.reg r_f2_33) k_f2_62) ∧
  Kq k_f2_60 (.block 5 k_f2_61) ∧
  Kq k_f2_65 (.reg r_f2_32) ∧
  Kq k_f2_59 (.seq k_f2_60 k_f2_65) ∧
  Kq k_f2_56 (.seq k_f2_57 k_f2_59) ∧
  Kq k_f2_55 (.loop k_f2_56) ∧
  Kq k_f2_54 (.block 4 k_f2_55) ∧
  Kq k_f2_53 (.seq (.reg r_f2_30) k_f2_54) ∧
  Kq k_f2_70 (.seq (.reg r_f2_38) .ret) ∧
  Kq k_f2_69 (.cond (tm 207) k_f2_70 .skip) ∧
  Kq k_f2_68 (.seq (.reg r_f2_37) k_f2_69) ∧
  Kq k_f2_78 (.cond (tm 211) .skip (.exit 6)) ∧
  Kq k_f2_77 (.seq (.reg r_f2_41) k_f2_78) ∧
  Kq k_f2_83 (.reg r_f2_44) ∧
  Kq k_f2_82 (.cond (tm 218) k_f2_83 .skip) ∧
  Kq k_f2_81 (.seq (.reg r_f2_43) k_f2_82) ∧
  Kq k_f2_80 (.block 7 k_f2_81) ∧
  Kq k_f2_84 (.reg r_f2_42) ∧
  Kq k_f2_79 (.seq k_f2_80 k_f2_84) ∧
  Kq k_f2_76 (.seq k_f2_77 k_f2_79) ∧
  Kq k_f2_75 (.loop k_f2_76) ∧
  Kq k_f2_74 (.block 6 k_f2_75) ∧
  Kq k_f2_73 (.seq (.reg r_f2_40) k_f2_74) ∧
  Kq k_f2_88 (.seq (.reg r_f2_46) .ret) ∧
  Kq k_f2_87 (.cond (tm 226) k_f2_88 .skip) ∧
  Kq k_f2_86 (.seq (.reg r_f2_45) k_f2_87) ∧
  Kq k_f2_94 (.cond (tm 230) .skip (.exit 8)) ∧
  Kq k_f2_93 (.seq (.reg r_f2_48) k_f2_94) ∧
  Kq k_f2_100 (.seq (.reg r_f2_51) .ret) ∧
  Kq k_f2_99 (.cond (tm 248) k_f2_100 .skip) ∧
  Kq k_f2_98 (.seq (.drawn r_f2_50 [ (3, 0) , (5, 0) , (11, 0) , (13, 0) ]) k_f2_99) ∧
  Kq k_f2_101 (.reg r_f2_52) ∧
  Kq k_f2_97 (.seq k_f2_98 k_f2_101) ∧
  Kq k_f2_96 (.block 9 k_f2_97) ∧
  Kq k_f2_102 (.reg r_f2_49) ∧
  Kq k_f2_95 (.seq k_f2_96 k_f2_102) ∧
  Kq k_f2_92 (.seq k_f2_93 k_f2_95) ∧
  Kq k_f2_91 (.loop k_f2_92) ∧
  Kq k_f2_90 (.block 8 k_f2_91) ∧
  Kq k_f2_89 (.seq (.reg r_f2_47) k_f2_90) ∧
  Kq k_f2_85 (.seq k_f2_86 k_f2_89) ∧
  Kq k_f2_72 (.seq k_f2_73 k_f2_85) ∧
  Kq k_f2_71 (.seq (.reg r_f2_39) k_f2_72) ∧
  Kq k_f2_67 (.seq k_f2_68 k_f2_71) ∧
  Kq k_f2_66 (.seq (.reg r_f2_36) k_f2_67) ∧
  Kq k_f2_52 (.seq k_f2_53 k_f2_66) ∧
  Kq k_f2_51 (.block 3 k_f2_52) ∧
  Kq k_f2_103 (.reg r_f2_29) ∧
  Kq k_f2_50 (.seq k_f2_51 k_f2_103) ∧
  Kq k_f2_47 (.seq k_f2_48 k_f2_50) ∧
  Kq k_f2_46 (.loop k_f2_47) ∧
  Kq k_f2_45 (.block 2 k_f2_46) ∧
  Kq k_f2_44 (.seq (.reg r_f2_27) k_f2_45) ∧
  Kq k_f2_110 (.cond (tm 261) .skip (.exit 10)) ∧
  Kq k_f2_109 (.seq (.reg r_f2_54) k_f2_110) ∧
  Kq k_f2_115 (.seq (.reg r_f2_57) .ret) ∧
  Kq k_f2_114 (.cond (tm 268) k_f2_115 .skip) ∧
  Kq k_f2_113 (.seq (.reg r_f2_56) k_f2_114) ∧
  Kq k_f2_112 (.block 11 k_f2_113) ∧
  Kq k_f2_116 (.reg r_f2_55) ∧
  Kq k_f2_111 (.seq k_f2_112 k_f2_116) ∧
  Kq k_f2_108 (.seq k_f2_109 k_f2_111) ∧
  Kq k_f2_107 (.loop k_f2_108) ∧
  Kq k_f2_106 (.block 10 k_f2_107) ∧
  Kq k_f2_105 (.seq (.reg r_f2_53) k_f2_106) ∧
  Kq k_f2_117 (.seq (.reg r_f2_58) .ret) ∧
  Kq k_f2_104 (.seq k_f2_105 k_f2_117) ∧
  Kq k_f2_43 (.seq k_f2_44 k_f2_104) ∧
  Kq k_f2_11 (.seq k_f2_12 k_f2_43) ∧
  Kq k_f2_10 (.seq (.reg r_f2_8) k_f2_11) ∧
  Kq k_f2_9 (.seq (.reg r_f2_7) k_f2_10) ∧
  Kq k_f2_8 (.seq (.reg r_f2_6) k_f2_9) ∧
  Kq k_f2_7 (.seq (.reg r_f2_5) k_f2_8) ∧
  Kq k_f2_6 (.seq (.reg r_f2_4) k_f2_7) ∧
  Kq k_f2_5 (.seq (.reg r_f2_3) k_f2_6) ∧
  Kq k_f2_1 (.seq k_f2_2 k_f2_5) ∧
  Kq c_f2 (.seq (.reg r_f2_0) k_f2_1) := ⟨kr, kr, kr, kr, kr, kr, kr, kr, kr, kr, kr, kr, kr, kr, kr, kr, kr, kr, kr, kr, kr, kr, kr, kr, kr, kr, kr, kr, kr, kr, kr, kr, kr, kr, kr, kr, kr, kr, kr, kr, kr, kr, kr, kr, kr, kr, kr, kr, kr, kr, kr, kr, kr, kr, kr, kr, kr, kr, kr, kr, kr, kr, kr, kr, kr, kr, kr, kr, kr, kr, kr, kr, kr, kr, kr, kr, kr, kr, kr, kr, kr, kr, kr, kr, kr, kr, kr, kr, kr, kr, kr, kr, kr, kr, kr, kr, kr, kr, kr, kr, kr, kr, kr, kr, kr, kr, kr, kr, kr, kr, kr, kr, kr, kr, kr, kr, kr⟩
theorem at_f2 : FnAt Tryz.prog tb fn_f2 c_f2 269 [.tmp 4] := fnAt_of tb_fs Tryz.func4 rfl (by kernel_rfl) (by kernel_rfl) rfl rfl
theorem o_l13_InodeApart_28 : ∀ Q fr m, GX Tryz.prog tb k_f2_28 Q fr m = GX Tryz.prog tb (.seq (.reg r_f2_18) k_f2_29) Q fr m := kr
def k_b2_5 : CC := (.seq (.reg r_b2_2) .ret)
def k_b2_8 : CC := (.seq (.reg r_b2_4) .ret)
def k_b2_7 : CC := (.cond (tm 7) k_b2_8 .skip)
def k_b2_6 : CC := (.seq (.reg r_b2_3) k_b2_7)
def k_b2_4 : CC := (.cond (tm 4) k_b2_5 k_b2_6)
def k_b2_3 : CC := (.seq (.reg r_b2_1) k_b2_4)
def k_b2_2 : CC := (.block 0 k_b2_3)
def k_b2_10 : CC := (.seq (.reg r_b2_6) .ret)
def k_b2_9 : CC := (.seq (.reg r_b2_5) k_b2_10)
def k_b2_1 : CC := (.seq k_b2_2 k_b2_9)
def c_b2 : CC := (.seq (.reg r_b2_0) k_b2_1)
theorem o_b2 : Kq k_b2_5 (.seq (.reg r_b2_2) .ret) ∧
  Kq k_b2_8 (.seq (.reg r_b2_4) .ret) ∧
  Kq k_b2_7 (.cond (tm 7) k_b2_8 .skip) ∧
  Kq k_b2_6 (.seq (.reg r_b2_3) k_b2_7) ∧
  Kq k_b2_4 (.cond (tm 4) k_b2_5 k_b2_6) ∧
  Kq k_b2_3 (.seq (.reg r_b2_1) k_b2_4) ∧
  Kq k_b2_2 (.block 0 k_b2_3) ∧
  Kq k_b2_10 (.seq (.reg r_b2_6) .ret) ∧
  Kq k_b2_9 (.seq (.reg r_b2_5) k_b2_10) ∧
  Kq k_b2_1 (.seq k_b2_2 k_b2_9) ∧
  Kq c_b2 (.seq (.reg r_b2_0) k_b2_1) := ⟨kr, kr, kr, kr, kr, kr, kr, kr, kr, kr, kr⟩
theorem at_b2 : FnAt Tryz.prog tb fn_b2 c_b2 26 [.tmp 2, .tmp 3] := fnAt_of tb_fs Tryz.func11 rfl (by kernel_rfl) (by kernel_rfl) rfl rfl
def k_d3_4 : CC := (.seq (.reg r_d3_2) .ret)
def k_d3_3 : CC := (.cond (tm 16) k_d3_4 .skip)
def k_d3_2 : CC := (.seq (.reg r_d3_1) k_d3_3)
def k_d3_9 : CC := (.seq (.reg r_d3_5) .ret)
def k_d3_8 : CC := (.cond (tm 27) k_d3_9 .skip)
def k_d3_7 : CC := (.seq (.reg r_d3_4) k_d3_8)
def k_d3_17 : CC := (.cond (tm 34) .skip (.exit 0))
def k_d3_28 : CC := (.seq (.reg r_d3_14) .ret)
def k_d3_27 : CC := (.cond (tm 56) k_d3_28 .skip)
def k_d3_26 : CC := (.seq (.reg r_d3_13) k_d3_27)
def k_d3_25 : CC := (.seq (.drawn r_d3_12 [ (2, 0) , (2, 9) , (7, 0) ]) k_d3_26)
def k_d3_24 : CC := (.cond (tm 44) k_d3_25 .skip)
def k_d3_23 : CC := (.seq (.reg r_d3_11) k_d3_24)
def k_d3_33 : CC := (.seq (.reg r_d3_17) .ret)
def k_d3_32 : CC := (.cond (tm 66) k_d3_33 .skip)
def k_d3_31 : CC := (.seq (.reg r_d3_16) k_d3_32)
def k_d3_30 : CC := (.seq (.reg r_d3_15) k_d3_31)
def k_d3_42 : CC := (.seq (.reg r_d3_22) .ret)
def k_d3_41 : CC := (.cond (tm 81) k_d3_42 .skip)
def k_d3_40 : CC := (.seq (.reg r_d3_21) k_d3_41)
def k_d3_39 : CC := (.seq (.reg r_d3_20) k_d3_40)
def k_d3_46 : CC := (.seq (.reg r_d3_25) .ret)
def k_d3_45 : CC := (.cond (tm 89) k_d3_46 .skip)
def k_d3_44 : CC := (.seq (.reg r_d3_24) k_d3_45)
def k_d3_43 : CC := (.seq (.reg r_d3_23) k_d3_44)
def k_d3_38 : CC := (.seq k_d3_39 k_d3_43)
def k_d3_37 : CC := (.cond (tm 70) k_d3_38 .skip)
def k_d3_36 : CC := (.seq (.reg r_d3_19) k_d3_37)
def k_d3_47 : CC := (.reg r_d3_26)
def k_d3_35 : CC := (.seq k_d3_36 k_d3_47)
def k_d3_34 : CC := (.seq (.reg r_d3_18) k_d3_35)
def k_d3_29 : CC := (.seq k_d3_30 k_d3_34)
def k_d3_22 : CC := (.seq k_d3_23 k_d3_29)
def k_d3_21 : CC := (.seq (.reg r_d3_10) k_d3_22)
def k_d3_20 : CC := (.seq (.reg r_d3_9) k_d3_21)
def k_d3_19 : CC := (.block 1 k_d3_20)
def k_d3_48 : CC := (.reg r_d3_27)
def k_d3_18 : CC := (.seq k_d3_19 k_d3_48)
def k_d3_16 : CC := (.seq k_d3_17 k_d3_18)
def k_d3_15 : CC := (.seq (.reg r_d3_8) k_d3_16)
def k_d3_14 : CC := (.loop k_d3_15)
def k_d3_13 : CC := (.block 0 k_d3_14)
def k_d3_12 : CC := (.seq (.reg r_d3_7) k_d3_13)
def k_d3_49 : CC := (.seq (.reg r_d3_28) .ret)
def k_d3_11 : CC := (.seq k_d3_12 k_d3_49)
def k_d3_10 : CC := (.seq (.reg r_d3_6) k_d3_11)
def k_d3_6 : CC := (.seq k_d3_7 k_d3_10)
def k_d3_5 : CC := (.seq (.reg r_d3_3) k_d3_6)
def k_d3_1 : CC := (.seq k_d3_2 k_d3_5)
def c_d3 : CC := (.seq (.reg r_d3_0) k_d3_1)
theorem o_d3 : Kq k_d3_4 (.seq (.reg r_d3_2) .ret) ∧
  Kq k_d3_3 (.cond (tm 16) k_d3_4 .skip) ∧
  Kq k_d3_2 (.seq (.reg r_d3_1) k_d3_3) ∧
  Kq k_d3_9 (.seq (.reg r_d3_5) .ret) ∧
  Kq k_d3_8 (.cond (tm 27) k_d3_9 .skip) ∧
  Kq k_d3_7 (.seq (.reg r_d3_4) k_d3_8) ∧
  Kq k_d3_17 (.cond (tm 34) .skip (.exit 0)) ∧
  Kq k_d3_28 (.seq (.reg r_d3_14) .ret) ∧
  Kq k_d3_27 (.cond (tm 56) k_d3_28 .skip) ∧
  Kq k_d3_26 (.seq (.reg r_d3_13) k_d3_27) ∧
  Kq k_d3_25 (.seq (.drawn r_d3_12 [ (2, 0) , (2, 9) , (7, 0) ]) k_d3_26) ∧
  Kq k_d3_24 (.cond (tm 44) k_d3_25 .skip) ∧
  Kq k_d3_23 (.seq (.reg r_d3_11) k_d3_24) ∧
  Kq k_d3_33 (.seq (.reg r_d3_17) .ret) ∧
  Kq k_d3_32 (.cond (tm 66) k_d3_33 .skip) ∧
  Kq k_d3_31 (.seq (.reg r_d3_16) k_d3_32) ∧
  Kq k_d3_30 (.seq (.reg r_d3_15) k_d3_31) ∧
  Kq k_d3_42 (.seq (.reg r_d3_22) .ret) ∧
  Kq k_d3_41 (.cond (tm 81) k_d3_42 .skip) ∧
  Kq k_d3_40 (.seq (.reg r_d3_21) k_d3_41) ∧
  Kq k_d3_39 (.seq (.reg r_d3_20) k_d3_40) ∧
  Kq k_d3_46 (.seq (.reg r_d3_25) .ret) ∧
  Kq k_d3_45 (.cond (tm 89) k_d3_46 .skip) ∧
  Kq k_d3_44 (.seq (.reg r_d3_24) k_d3_45) ∧
  Kq k_d3_43 (.seq (.reg r_d3_23) k_d3_44) ∧
  Kq k_d3_38 (.seq k_d3_39 k_d3_43) ∧
  Kq k_d3_37 (.cond (tm 70) k_d3_38 .skip) ∧
  Kq k_d3_36 (.seq (.reg r_d3_19) k_d3_37) ∧
  Kq k_d3_47 (.reg r_d3_26) ∧
  Kq k_d3_35 (.seq k_d3_36 k_d3_47) ∧
  Kq k_d3_34 (.seq (.reg r_d3_18) k_d3_35) ∧
  Kq k_d3_22 (.seq k_d3_23 k_d3_29) ∧
  Kq k_d3_21 (.seq (.reg r_d3_10) k_d3_22) ∧
  Kq k_d3_20 (.seq (.reg r_d3_9) k_d3_21) ∧
  Kq k_d3_19 (.block 1 k_d3_20) ∧
  Kq k_d3_48 (.reg r_d3_27) ∧
  Kq k_d3_18 (.seq k_d3_19 k_d3_48) ∧
  Kq k_d3_16 (.seq k_d3_17 k_d3_18) ∧
  Kq k_d3_15 (.seq (.reg r_d3_8) k_d3_16) ∧
  Kq k_d3_14 (.loop k_d3_15) ∧
  Kq k_d3_13 (.block 0 k_d3_14) ∧
  Kq k_d3_12 (.seq (.reg r_d3_7) k_d3_13) ∧
  Kq k_d3_49 (.seq (.reg r_d3_28) .ret) ∧
  Kq k_d3_11 (.seq k_d3_12 k_d3_49) ∧
  Kq k_d3_10 (.seq (.reg r_d3_6) k_d3_11) ∧
  Kq k_d3_6 (.seq k_d3_7 k_d3_10) ∧
  Kq k_d3_5 (.seq (.reg r_d3_3) k_d3_6) ∧
  Kq k_d3_1 (.seq k_d3_2 k_d3_5) ∧
  Kq c_d3 (.seq (.reg r_d3_0) k_d3_1) := ⟨kr, kr, kr, kr, kr, kr, kr, kr, kr, kr, kr, kr, kr, kr, kr, kr, kr, kr, kr, kr, kr, kr, kr, kr, kr, kr, kr, kr, kr, kr, kr, kr, kr, kr, kr, kr, kr, kr, kr, kr, kr, kr, kr, kr, kr, kr, kr, kr, kr⟩
theorem at_d3 : FnAt Tryz.prog tb fn_d3 c_d3 96 [.tmp 8, .tmp 9, .tmp 10] := fnAt_of tb_fs Tryz.func12 rfl (by kernel_rfl) (by kernel_rfl) rfl rfl
theorem o_Ta_Make_29 : ∀ Q fr m, GX Tryz.prog tb k_d3_29 Q fr m = GX Tryz.prog tb (.seq k_d3_30 k_d3_34) Q fr m := kr
def k_c9_4 : CC := (.seq (.reg r_c9_2) .ret)
def k_c9_3 : CC := (.cond (tm 20) k_c9_4 .skip)
def k_c9_2 : CC := (.seq (.reg r_c9_1) k_c9_3)
def k_c9_9 : CC := (.seq (.reg r_c9_5) .ret)
def k_c9_8 : CC := (.cond (tm 29) k_c9_9 .skip)
def k_c9_7 : CC := (.seq (.reg r_c9_4) k_c9_8)
def k_c9_21 : CC := (.cond (tm 34) .skip (.exit 0))
def k_c9_31 : CC := (.reg r_c9_17)
def k_c9_34 : CC := (.reg r_c9_19)
def k_c9_33 : CC := (.cond (tm 40) k_c9_34 .skip)
def k_c9_32 : CC := (.seq (.reg r_c9_18) k_c9_33)
def k_c9_30 : CC := (.cond (tm 38) k_c9_31 k_c9_32)
def k_c9_29 : CC := (.seq (.reg r_c9_16) k_c9_30)
def k_c9_28 : CC := (.block 2 k_c9_29)
def k_c9_27 : CC := (.seq (.reg r_c9_15) k_c9_28)
def k_c9_38 : CC := (.seq (.reg r_c9_22) .ret)
def k_c9_37 : CC := (.cond (tm 56) k_c9_38 .skip)
def k_c9_36 : CC := (.seq (.reg r_c9_21) k_c9_37)
def k_c9_35 : CC := (.seq (.drawn r_c9_20 [ (0, 0) , (0, 3) , (4, 3) ]) k_c9_36)
def k_c9_26 : CC := (.seq k_c9_27 k_c9_35)
def k_c9_25 : CC := (.seq (.reg r_c9_14) k_c9_26)
def k_c9_24 : CC := (.seq (.reg r_c9_13) k_c9_25)
def k_c9_23 : CC := (.block 1 k_c9_24)
def k_c9_39 : CC := (.reg r_c9_23)
def k_c9_22 : CC := (.seq k_c9_23 k_c9_39)
def k_c9_20 : CC := (.seq k_c9_21 k_c9_22)
def k_c9_19 : CC := (.seq (.reg r_c9_12) k_c9_20)
def k_c9_18 : CC := (.loop k_c9_19)
def k_c9_17 : CC := (.block 0 k_c9_18)
def k_c9_16 : CC := (.seq (.reg r_c9_11) k_c9_17)
def k_c9_46 : CC := (.cond (tm 62) .skip (.exit 3))
def k_c9_50 : CC := (.reg r_c9_27)
def k_c9_49 : CC := (.seq (.reg r_c9_26) k_c9_50)
def k_c9_48 : CC := (.block 4 k_c9_49)
def k_c9_51 : CC := (.reg r_c9_28)
def k_c9_47 : CC := (.seq k_c9_48 k_c9_51)
def k_c9_45 : CC := (.seq k_c9_46 k_c9_47)
def k_c9_44 : CC := (.seq (.reg r_c9_25) k_c9_45)
def k_c9_43 : CC := (.loop k_c9_44)
def k_c9_42 : CC := (.block 3 k_c9_43)
def k_c9_41 : CC := (.seq (.reg r_c9_24) k_c9_42)
def k_c9_52 : CC := (.seq (.drawn r_c9_29 [ (1, 0) ]) .ret)
def k_c9_40 : CC := (.seq k_c9_41 k_c9_52)
def k_c9_15 : CC := (.seq k_c9_16 k_c9_40)
def k_c9_14 : CC := (.seq (.reg r_c9_10) k_c9_15)
def k_c9_13 : CC := (.seq (.reg r_c9_9) k_c9_14)
def k_c9_12 : CC := (.seq (.reg r_c9_8) k_c9_13)
def k_c9_11 : CC := (.seq (.reg r_c9_7) k_c9_12)
def k_c9_10 : CC := (.seq (.reg r_c9_6) k_c9_11)
def k_c9_6 : CC := (.seq k_c9_7 k_c9_10)
def k_c9_5 : CC := (.seq (.reg r_c9_3) k_c9_6)
def k_c9_1 : CC := (.seq k_c9_2 k_c9_5)
def c_c9 : CC := (.seq (.reg r_c9_0) k_c9_1)
theorem o_c9 : Kq k_c9_4 (.seq (.reg r_c9_2) .ret) ∧
  Kq k_c9_3 (.cond (tm 20) k_c9_4 .skip) ∧
  Kq k_c9_2 (.seq (.reg r_c9_1) k_c9_3) ∧
  Kq k_c9_9 (.seq (.reg r_c9_5) .ret) ∧
  Kq k_c9_8 (.cond (tm 29) k_c9_9 .skip) ∧
  Kq k_c9_7 (.seq (.reg r_c9_4) k_c9_8) ∧
  Kq k_c9_21 (.cond (tm 34) .skip (.exit 0)) ∧
  Kq k_c9_31 (.reg r_c9_17) ∧
  Kq k_c9_34 (.reg r_c9_19) ∧
  Kq k_c9_33 (.cond (tm 40) k_c9_34 .skip) ∧
  Kq k_c9_32 (.seq (.reg r_c9_18) k_c9_33) ∧
  Kq k_c9_30 (.cond (tm 38) k_c9_31 k_c9_32) ∧
  Kq k_c9_29 (.seq (.reg r_c9_16) k_c9_30) ∧
  Kq k_c9_28 (.block 2 k_c9_29) ∧
  Kq k_c9_27 (.seq (.reg r_c9_15) k_c9_28) ∧
  Kq k_c9_38 (.seq (.reg r_c9_22) .ret) ∧
  Kq k_c9_37 (.cond (tm 56) k_c9_38 .skip) ∧
  Kq k_c9_36 (.seq (.reg r_c9_21) k_c9_37) ∧
  Kq k_c9_35 (.seq (.drawn r_c9_20 [ (0, 0) , (0, 3) , (4, 3) ]) k_c9_36) ∧
  Kq k_c9_26 (.seq k_c9_27 k_c9_35) ∧
  Kq k_c9_25 (.seq (.reg r_c9_14) k_c9_26) ∧
  Kq k_c9_24 (.seq (.reg r_c9_13) k_c9_25) ∧
  Kq k_c9_23 (.block 1 k_c9_24) ∧
  Kq k_c9_39 (.reg r_c9_23) ∧
  Kq k_c9_22 (.seq k_c9_23 k_c9_39) ∧
  Kq k_c9_20 (.seq k_c9_21 k_c9_22) ∧
  Kq k_c9_19 (.seq (.reg r_c9_12) k_c9_20) ∧
  Kq k_c9_18 (.loop k_c9_19) ∧
  Kq k_c9_17 (.block 0 k_c9_18) ∧
  Kq k_c9_16 (.seq (.reg r_c9_11) k_c9_17) ∧
  Kq k_c9_46 (.cond (tm 62) .skip (.exit 3)) ∧
  Kq k_c9_50 (.reg r_c9_27) ∧
  Kq k_c9_49 (.seq (.reg r_c9_26) k_c9_50) ∧
  Kq k_c9_48 (.block 4 k_c9_49) ∧
  Kq k_c9_51 (.reg r_c9_28) ∧
  Kq k_c9_47 (.seq k_c9_48 k_c9_51) ∧
  Kq k_c9_45 (.seq k_c9_46 k_c9_47) ∧
  Kq k_c9_44 (.seq (.reg r_c9_25) k_c9_45) ∧
  Kq k_c9_43 (.loop k_c9_44) ∧
  Kq k_c9_42 (.block 3 k_c9_43) ∧
  Kq k_c9_41 (.seq (.reg r_c9_24) k_c9_42) ∧
  Kq k_c9_52 (.seq (.drawn r_c9_29 [ (1, 0) ]) .ret) ∧
  Kq k_c9_40 (.seq k_c9_41 k_c9_52) ∧
  Kq k_c9_15 (.seq k_c9_16 k_c9_40) ∧
  Kq k_c9_14 (.seq (.reg r_c9_10) k_c9_15) ∧
  Kq k_c9_13 (.seq (.reg r_c9_9) k_c9_14) ∧
  Kq k_c9_12 (.seq (.reg r_c9_8) k_c9_13) ∧
  Kq k_c9_11 (.seq (.reg r_c9_7) k_c9_12) ∧
  Kq k_c9_10 (.seq (.reg r_c9_6) k_c9_11) ∧
  Kq k_c9_6 (.seq k_c9_7 k_c9_10) ∧
  Kq k_c9_5 (.seq (.reg r_c9_3) k_c9_6) ∧
  Kq k_c9_1 (.seq k_c9_2 k_c9_5) ∧
  Kq c_c9 (.seq (.reg r_c9_0) k_c9_1) := ⟨kr, kr, kr, kr, kr, kr, kr, kr, kr, kr, kr, kr, kr, kr, kr, kr, kr, kr, kr, kr, kr, kr, kr, kr, kr, kr, kr, kr, kr, kr, kr, kr, kr, kr, kr, kr, kr, kr, kr, kr, kr, kr, kr, kr, kr, kr, kr, kr, kr, kr, kr, kr, kr⟩
theorem at_c9 : FnAt Tryz.prog tb fn_c9 c_c9 73 [.tmp 6, .tmp 7, .tmp 8] := fnAt_of tb_fs Tryz.func13 rfl (by kernel_rfl) (by kernel_rfl) rfl rfl
def k_d1_4 : CC := (.seq (.reg r_d1_2) .ret)
def k_d1_3 : CC := (.cond (tm 15) k_d1_4 .skip)
def k_d1_2 : CC := (.seq (.reg r_d1_1) k_d1_3)
def k_d1_9 : CC := (.seq (.reg r_d1_5) .ret)
def k_d1_8 : CC := (.cond (tm 26) k_d1_9 .skip)
def k_d1_7 : CC := (.seq (.reg r_d1_4) k_d1_8)
def k_d1_18 : CC := (.cond (tm 33) .skip (.exit 0))
def k_d1_26 : CC := (.seq (.reg r_d1_13) .ret)
def k_d1_25 : CC := (.cond (tm 45) k_d1_26 .skip)
def k_d1_24 : CC := (.seq (.reg r_d1_12) k_d1_25)
def k_d1_23 : CC := (.seq (.reg r_d1_11) k_d1_24)
def k_d1_29 : CC := (.cond (tm 48) (.exit 0) .skip)
def k_d1_28 : CC := (.seq (.reg r_d1_14) k_d1_29)
def k_d1_30 : CC := (.reg r_d1_15)
def k_d1_27 : CC := (.seq k_d1_28 k_d1_30)
def k_d1_22 : CC := (.seq k_d1_23 k_d1_27)
def k_d1_21 : CC := (.seq (.reg r_d1_10) k_d1_22)
def k_d1_20 : CC := (.block 1 k_d1_21)
def k_d1_31 : CC := (.reg r_d1_16)
def k_d1_19 : CC := (.seq k_d1_20 k_d1_31)
def k_d1_17 : CC := (.seq k_d1_18 k_d1_19)
def k_d1_16 : CC := (.seq (.reg r_d1_9) k_d1_17)
def k_d1_15 : CC := (.loop k_d1_16)
def k_d1_14 : CC := (.block 0 k_d1_15)
def k_d1_13 : CC := (.seq (.reg r_d1_8) k_d1_14)
def k_d1_32 : CC := (.seq (.reg r_d1_17) .ret)
def k_d1_12 : CC := (.seq k_d1_13 k_d1_32)
def k_d1_11 : CC := (.seq (.reg r_d1_7) k_d1_12)
def k_d1_10 : CC := (.seq (.reg r_d1_6) k_d1_11)
def k_d1_6 : CC := (.seq k_d1_7 k_d1_10)
def k_d1_5 : CC := (.seq (.reg r_d1_3) k_d1_6)
def k_d1_1 : CC := (.seq k_d1_2 k_d1_5)
def c_d1 : CC := (.seq (.reg r_d1_0) k_d1_1)
theorem o_d1 : Kq k_d1_4 (.seq (.reg r_d1_2) .ret) ∧
  Kq k_d1_3 (.cond (tm 15) k_d1_4 .skip) ∧
  Kq k_d1_2 (.seq (.reg r_d1_1) k_d1_3) ∧
  Kq k_d1_9 (.seq (.reg r_d1_5) .ret) ∧
  Kq k_d1_8 (.cond (tm 26) k_d1_9 .skip) ∧
  Kq k_d1_7 (.seq (.reg r_d1_4) k_d1_8) ∧
  Kq k_d1_18 (.cond (tm 33) .skip (.exit 0)) ∧
  Kq k_d1_26 (.seq (.reg r_d1_13) .ret) ∧
  Kq k_d1_25 (.cond (tm 45) k_d1_26 .skip) ∧
  Kq k_d1_24 (.seq (.reg r_d1_12) k_d1_25) ∧
  Kq k_d1_23 (.seq (.reg r_d1_11) k_d1_24) ∧
  Kq k_d1_29 (.cond (tm 48) (.exit 0) .skip) ∧
  Kq k_d1_28 (.seq (.reg r_d1_14) k_d1_29) ∧
  Kq k_d1_30 (.reg r_d1_15) ∧
  Kq k_d1_27 (.seq k_d1_28 k_d1_30) ∧
  Kq k_d1_22 (.seq k_d1_23 k_d1_27) ∧
  Kq k_d1_21 (.seq (.reg r_d1_10) k_d1_22) ∧
  Kq k_d1_20 (.block 1 k_d1_21) ∧
  Kq k_d1_31 (.reg r_d1_16) ∧
  Kq k_d1_19 (.seq k_d1_20 k_d1_31) ∧
  Kq k_d1_17 (.seq k_d1_18 k_d1_19) ∧
  Kq k_d1_16 (.seq (.reg r_d1_9) k_d1_17) ∧
  Kq k_d1_15 (.loop k_d1_16) ∧
  Kq k_d1_14 (.block 0 k_d1_15) ∧
  Kq k_d1_13 (.seq (.reg r_d1_8) k_d1_14) ∧
  Kq k_d1_32 (.seq (.reg r_d1_17) .ret) ∧
  Kq k_d1_12 (.seq k_d1_13 k_d1_32) ∧
  Kq k_d1_11 (.seq (.reg r_d1_7) k_d1_12) ∧
  Kq k_d1_10 (.seq (.reg r_d1_6) k_d1_11) ∧
  Kq k_d1_6 (.seq k_d1_7 k_d1_10) ∧
  Kq k_d1_5 (.seq (.reg r_d1_3) k_d1_6) ∧
  Kq k_d1_1 (.seq k_d1_2 k_d1_5) ∧
  Kq c_d1 (.seq (.reg r_d1_0) k_d1_1) := ⟨kr, kr, kr, kr, kr, kr, kr, kr, kr, kr, kr, kr, kr, kr, kr, kr, kr, kr, kr, kr, kr, kr, kr, kr, kr, kr, kr, kr, kr, kr, kr, kr, kr⟩
theorem at_d1 : FnAt Tryz.prog tb fn_d1 c_d1 53 [.tmp 8, .tmp 9] := fnAt_of tb_fs Tryz.func16 rfl (by kernel_rfl) (by kernel_rfl) rfl rfl
def k_d4_4 : CC := (.seq (.reg r_d4_2) .ret)
def k_d4_3 : CC := (.cond (tm 18) k_d4_4 .skip)
def k_d4_2 : CC := (.seq (.reg r_d4_1) k_d4_3)
def k_d4_9 : CC := (.seq (.reg r_d4_5) .ret)
def k_d4_8 : CC := (.cond (tm 30) k_d4_9 .skip)
def k_d4_7 : CC := (.seq (.reg r_d4_4) k_d4_8)
def k_d4_6 : CC := (.seq (.reg r_d4_3) k_d4_7)
def k_d4_14 : CC := (.seq (.reg r_d4_8) .ret)
def k_d4_13 : CC := (.cond (tm 38) k_d4_14 .skip)
def k_d4_12 : CC := (.seq (.reg r_d4_7) k_d4_13)
def k_d4_19 : CC := (.seq (.reg r_d4_11) .ret)
def k_d4_18 : CC := (.cond (tm 50) k_d4_19 .skip)
def k_d4_17 : CC := (.seq (.reg r_d4_10) k_d4_18)
def k_d4_21 : CC := (.seq (.reg r_d4_13) .ret)
def k_d4_20 : CC := (.seq (.reg r_d4_12) k_d4_21)
def k_d4_16 : CC := (.seq k_d4_17 k_d4_20)
def k_d4_15 : CC := (.seq (.reg r_d4_9) k_d4_16)
def k_d4_11 : CC := (.seq k_d4_12 k_d4_15)
def k_d4_10 : CC := (.seq (.reg r_d4_6) k_d4_11)
def k_d4_5 : CC := (.seq k_d4_6 k_d4_10)
def k_d4_1 : CC := (.seq k_d4_2 k_d4_5)
def c_d4 : CC := (.seq (.reg r_d4_0) k_d4_1)
theorem o_d4 : Kq k_d4_4 (.seq (.reg r_d4_2) .ret) ∧
  Kq k_d4_3 (.cond (tm 18) k_d4_4 .skip) ∧
  Kq k_d4_2 (.seq (.reg r_d4_1) k_d4_3) ∧
  Kq k_d4_9 (.seq (.reg r_d4_5) .ret) ∧
  Kq k_d4_8 (.cond (tm 30) k_d4_9 .skip) ∧
  Kq k_d4_7 (.seq (.reg r_d4_4) k_d4_8) ∧
  Kq k_d4_6 (.seq (.reg r_d4_3) k_d4_7) ∧
  Kq k_d4_14 (.seq (.reg r_d4_8) .ret) ∧
  Kq k_d4_13 (.cond (tm 38) k_d4_14 .skip) ∧
  Kq k_d4_12 (.seq (.reg r_d4_7) k_d4_13) ∧
  Kq k_d4_19 (.seq (.reg r_d4_11) .ret) ∧
  Kq k_d4_18 (.cond (tm 50) k_d4_19 .skip) ∧
  Kq k_d4_17 (.seq (.reg r_d4_10) k_d4_18) ∧
  Kq k_d4_21 (.seq (.reg r_d4_13) .ret) ∧
  Kq k_d4_20 (.seq (.reg r_d4_12) k_d4_21) ∧
  Kq k_d4_16 (.seq k_d4_17 k_d4_20) ∧
  Kq k_d4_15 (.seq (.reg r_d4_9) k_d4_16) ∧
  Kq k_d4_11 (.seq k_d4_12 k_d4_15) ∧
  Kq k_d4_10 (.seq (.reg r_d4_6) k_d4_11) ∧
  Kq k_d4_5 (.seq k_d4_6 k_d4_10) ∧
  Kq k_d4_1 (.seq k_d4_2 k_d4_5) ∧
  Kq c_d4 (.seq (.reg r_d4_0) k_d4_1) := ⟨kr, kr, kr, kr, kr, kr, kr, kr, kr, kr, kr, kr, kr, kr, kr, kr, kr, kr, kr, kr, kr, kr⟩
theorem at_d4 : FnAt Tryz.prog tb fn_d4 c_d4 61 [.tmp 8] := fnAt_of tb_fs Tryz.func18 rfl (by kernel_rfl) (by kernel_rfl) rfl rfl
def k_d2_4 : CC := (.seq (.reg r_d2_2) .ret)
def k_d2_3 : CC := (.cond (tm 14) k_d2_4 .skip)
def k_d2_2 : CC := (.seq (.reg r_d2_1) k_d2_3)
def k_d2_9 : CC := (.seq (.reg r_d2_5) .ret)
def k_d2_8 : CC := (.cond (tm 26) k_d2_9 .skip)
def k_d2_7 : CC := (.seq (.reg r_d2_4) k_d2_8)
def k_d2_14 : CC := (.seq (.reg r_d2_8) .ret)
def k_d2_13 : CC := (.cond (tm 39) k_d2_14 .skip)
def k_d2_12 : CC := (.seq (.reg r_d2_7) k_d2_13)
def k_d2_15 : CC := (.seq (.reg r_d2_9) .ret)
def k_d2_11 : CC := (.seq k_d2_12 k_d2_15)
def k_d2_10 : CC := (.seq (.reg r_d2_6) k_d2_11)
def k_d2_6 : CC := (.seq k_d2_7 k_d2_10)
def k_d2_5 : CC := (.seq (.reg r_d2_3) k_d2_6)
def k_d2_1 : CC := (.seq k_d2_2 k_d2_5)
def c_d2 : CC := (.seq (.reg r_d2_0) k_d2_1)
theorem o_d2 : Kq k_d2_4 (.seq (.reg r_d2_2) .ret) ∧
  Kq k_d2_3 (.cond (tm 14) k_d2_4 .skip) ∧
  Kq k_d2_2 (.seq (.reg r_d2_1) k_d2_3) ∧
  Kq k_d2_9 (.seq (.reg r_d2_5) .ret) ∧
  Kq k_d2_8 (.cond (tm 26) k_d2_9 .skip) ∧
  Kq k_d2_7 (.seq (.reg r_d2_4) k_d2_8) ∧
  Kq k_d2_14 (.seq (.reg r_d2_8) .ret) ∧
  Kq k_d2_13 (.cond (tm 39) k_d2_14 .skip) ∧
  Kq k_d2_12 (.seq (.reg r_d2_7) k_d2_13) ∧
  Kq k_d2_15 (.seq (.reg r_d2_9) .ret) ∧
  Kq k_d2_11 (.seq k_d2_12 k_d2_15) ∧
  Kq k_d2_10 (.seq (.reg r_d2_6) k_d2_11) ∧
  Kq k_d2_6 (.seq k_d2_7 k_d2_10) ∧
  Kq k_d2_5 (.seq (.reg r_d2_3) k_d2_6) ∧
  Kq k_d2_1 (.seq k_d2_2 k_d2_5) ∧
  Kq c_d2 (.seq (.reg r_d2_0) k_d2_1) := ⟨kr, kr, kr, kr, kr, kr, kr, kr, kr, kr, kr, kr, kr, kr, kr, kr⟩
theorem at_d2 : FnAt Tryz.prog tb fn_d2 c_d2 42 [.cell 6 ty_api_Inode, .tmp 7] := fnAt_of tb_fs Tryz.func20 rfl (by kernel_rfl) (by kernel_rfl) rfl rfl
def k_f3_5 : CC := (.seq (.reg r_f3_3) .ret)
def k_f3_4 : CC := (.cond (tm 16) k_f3_5 .skip)
def k_f3_3 : CC := (.seq (.reg r_f3_2) k_f3_4)
def k_f3_9 : CC := (.seq (.reg r_f3_5) .ret)
def k_f3_8 : CC := (.cond (tm 25) k_f3_9 .skip)
def k_f3_7 : CC := (.seq (.reg r_f3_4) k_f3_8)
def k_f3_15 : CC := (.seq (.reg r_f3_11) .ret)
def k_f3_18 : CC := (.seq (.reg r_f3_13) .ret)
def k_f3_20 : CC := (.seq (.drawn r_f3_9 []) .ret)
def k_f3_19 : CC := (.seq (.reg r_f3_8) k_f3_20)
def k_f3_17 : CC := (.cond (tm 46) k_f3_18 k_f3_19)
def k_f3_16 : CC := (.seq (.reg r_f3_12) k_f3_17)
def k_f3_14 : CC := (.cond (tm 41) k_f3_15 k_f3_16)
def k_f3_13 : CC := (.seq (.reg r_f3_10) k_f3_14)
def k_f3_12 : CC := (.block 0 k_f3_13)
def k_f3_11 : CC := (.seq (.reg r_f3_7) k_f3_12)
def k_f3_10 : CC := (.seq (.reg r_f3_6) k_f3_11)
def k_f3_6 : CC := (.seq k_f3_7 k_f3_10)
def k_f3_2 : CC := (.seq k_f3_3 k_f3_6)
def k_f3_1 : CC := (.seq (.reg r_f3_1) k_f3_2)
def c_f3 : CC := (.seq (.reg r_f3_0) k_f3_1)
theorem o_f3 : Kq k_f3_5 (.seq (.reg r_f3_3) .ret) ∧
  Kq k_f3_4 (.cond (tm 16) k_f3_5 .skip) ∧
  Kq k_f3_3 (.seq (.reg r_f3_2) k_f3_4) ∧
  Kq k_f3_9 (.seq (.reg r_f3_5) .ret) ∧
  Kq k_f3_8 (.cond (tm 25) k_f3_9 .skip) ∧
  Kq k_f3_7 (.seq (.reg r_f3_4) k_f3_8) ∧
  Kq k_f3_15 (.seq (.reg r_f3_11) .ret) ∧
  Kq k_f3_18 (.seq (.reg r_f3_13) .ret) ∧
  Kq k_f3_20 (.seq (.drawn r_f3_9 []) .ret) ∧
  Kq k_f3_19 (.seq (.reg r_f3_8) k_f3_20) ∧
  Kq k_f3_17 (.cond (tm 46) k_f3_18 k_f3_19) ∧
  Kq k_f3_16 (.seq (.reg r_f3_12) k_f3_17) ∧
  Kq k_f3_14 (.cond (tm 41) k_f3_15 k_f3_16) ∧
  Kq k_f3_13 (.seq (.reg r_f3_10) k_f3_14) ∧
  Kq k_f3_12 (.block 0 k_f3_13) ∧
  Kq k_f3_11 (.seq (.reg r_f3_7) k_f3_12) ∧
  Kq k_f3_10 (.seq (.reg r_f3_6) k_f3_11) ∧
  Kq k_f3_6 (.seq k_f3_7 k_f3_10) ∧
  Kq k_f3_2 (.seq k_f3_3 k_f3_6) ∧
  Kq k_f3_1 (.seq (.reg r_f3_1) k_f3_2) ∧
  Kq c_f3 (.seq (.reg r_f3_0) k_f3_1) := ⟨kr, kr, kr, kr, kr, kr, kr, kr, kr, kr, kr, kr, kr, kr, kr, kr, kr, kr, kr, kr, kr⟩
theorem at_f3 : FnAt Tryz.prog tb fn_f3 c_f3 52 [.tmp 4, .tmp 5] := fnAt_of tb_fs Tryz.func43 rfl (by kernel_rfl) (by kernel_rfl) rfl rfl
def k_c3_1 : CC := (.seq (.reg r_c3_1) .ret)
def c_c3 : CC := (.seq (.reg r_c3_0) k_c3_1)
theorem o_c3 : Kq k_c3_1 (.seq (.reg r_c3_1) .ret) ∧
  Kq c_c3 (.seq (.reg r_c3_0) k_c3_1) := ⟨kr, kr⟩
theorem at_c3 : FnAt Tryz.prog tb fn_c3 c_c3 11 [.tmp 6] := fnAt_of tb_fs Tryz.func44 rfl (by kernel_rfl) (by kernel_rfl) rfl rfl
def k_d5_5 : CC := (.seq (.reg r_d5_3) .ret)
def k_d5_4 : CC := (.seq (.reg r_d5_2) k_d5_5)
def k_d5_3 : CC := (.cond (tm 14) k_d5_4 .skip)
def k_d5_2 : CC := (.seq (.reg r_d5_1) k_d5_3)
def k_d5_10 : CC := (.seq (.reg r_d5_6) .ret)
def k_d5_9 : CC := (.cond (tm 37) k_d5_10 .skip)
def k_d5_8 : CC := (.seq (.reg r_d5_5) k_d5_9)
def k_d5_11 : CC := (.seq (.reg r_d5_7) .ret)
def k_d5_7 : CC := (.seq k_d5_8 k_d5_11)
def k_d5_6 : CC := (.seq (.reg r_d5_4) k_d5_7)
def k_d5_1 : CC := (.seq k_d5_2 k_d5_6)
def c_d5 : CC := (.seq (.reg r_d5_0) k_d5_1)
theorem o_d5 : Kq k_d5_5 (.seq (.reg r_d5_3) .ret) ∧
  Kq k_d5_4 (.seq (.reg r_d5_2) k_d5_5) ∧
  Kq k_d5_3 (.cond (tm 14) k_d5_4 .skip) ∧
  Kq k_d5_2 (.seq (.reg r_d5_1) k_d5_3) ∧
  Kq k_d5_10 (.seq (.reg r_d5_6) .ret) ∧
  Kq k_d5_9 (.cond (tm 37) k_d5_10 .skip) ∧
  Kq k_d5_8 (.seq (.reg r_d5_5) k_d5_9) ∧
  Kq k_d5_11 (.seq (.reg r_d5_7) .ret) ∧
  Kq k_d5_7 (.seq k_d5_8 k_d5_11) ∧
  Kq k_d5_6 (.seq (.reg r_d5_4) k_d5_7) ∧
  Kq k_d5_1 (.seq k_d5_2 k_d5_6) ∧
  Kq c_d5 (.seq (.reg r_d5_0) k_d5_1) := ⟨kr, kr, kr, kr, kr, kr, kr, kr, kr, kr, kr, kr⟩
theorem at_d5 : FnAt Tryz.prog tb fn_d5 c_d5 46 [.tmp 6, .tmp 7] := fnAt_of tb_fs Tryz.func45 rfl (by kernel_rfl) (by kernel_rfl) rfl rfl
def k_a0_4 : CC := (.seq (.reg r_a0_2) .ret)
def k_a0_3 : CC := (.cond (tm 7) k_a0_4 .skip)
def k_a0_2 : CC := (.seq (.reg r_a0_1) k_a0_3)
def k_a0_5 : CC := (.seq (.drawn r_a0_3 [ (3, 0) , (9, 0) , (14, 0) , (18, 0) ]) .ret)
def k_a0_1 : CC := (.seq k_a0_2 k_a0_5)
def c_a0 : CC := (.seq (.reg r_a0_0) k_a0_1)
theorem o_a0 : Kq k_a0_4 (.seq (.reg r_a0_2) .ret) ∧
  Kq k_a0_3 (.cond (tm 7) k_a0_4 .skip) ∧
  Kq k_a0_2 (.seq (.reg r_a0_1) k_a0_3) ∧
  Kq k_a0_5 (.seq (.drawn r_a0_3 [ (3, 0) , (9, 0) , (14, 0) , (18, 0) ]) .ret) ∧
  Kq k_a0_1 (.seq k_a0_2 k_a0_5) ∧
  Kq c_a0 (.seq (.reg r_a0_0) k_a0_1) := ⟨kr, kr, kr, kr, kr, kr⟩
theorem at_a0 : FnAt Tryz.prog tb fn_a0 c_a0 31 [.tmp 4, .tmp 5] := fnAt_of tb_fs Tryz.func46 rfl (by kernel_rfl) (by kernel_rfl) rfl rfl
def k_d7_8 : CC := (.seq (.reg r_d7_4) .ret)
def k_d7_7 : CC := (.cond (tm 25) k_d7_8 .skip)
def k_d7_6 : CC := (.seq (.reg r_d7_3) k_d7_7)
def k_d7_10 : CC := (.seq (.reg r_d7_6) .ret)
def k_d7_9 : CC := (.seq (.reg r_d7_5) k_d7_10)
def k_d7_5 : CC := (.seq k_d7_6 k_d7_9)
def k_d7_4 : CC := (.seq (.reg r_d7_2) k_d7_5)
def k_d7_3 : CC := (.cond (tm 15) k_d7_4 .skip)
def k_d7_2 : CC := (.seq (.reg r_d7_1) k_d7_3)
def k_d7_15 : CC := (.seq (.reg r_d7_9) .ret)
def k_d7_14 : CC := (.cond (tm 46) k_d7_15 .skip)
def k_d7_13 : CC := (.seq (.reg r_d7_8) k_d7_14)
def k_d7_20 : CC := (.seq (.reg r_d7_12) .ret)
def k_d7_19 : CC := (.cond (tm 58) k_d7_20 .skip)
def k_d7_18 : CC := (.seq (.reg r_d7_11) k_d7_19)
def k_d7_21 : CC := (.seq (.reg r_d7_13) .ret)
def k_d7_17 : CC := (.seq k_d7_18 k_d7_21)
def k_d7_16 : CC := (.seq (.reg r_d7_10) k_d7_17)
def k_d7_12 : CC := (.seq k_d7_13 k_d7_16)
def k_d7_11 : CC := (.seq (.reg r_d7_7) k_d7_12)
def k_d7_1 : CC := (.seq k_d7_2 k_d7_11)
def c_d7 : CC := (.seq (.reg r_d7_0) k_d7_1)
theorem o_d7 : Kq k_d7_8 (.seq (.reg r_d7_4) .ret) ∧
  Kq k_d7_7 (.cond (tm 25) k_d7_8 .skip) ∧
  Kq k_d7_6 (.seq (.reg r_d7_3) k_d7_7) ∧
  Kq k_d7_10 (.seq (.reg r_d7_6) .ret) ∧
  Kq k_d7_9 (.seq (.reg r_d7_5) k_d7_10) ∧
  Kq k_d7_5 (.seq k_d7_6 k_d7_9) ∧
  Kq k_d7_4 (.seq (.reg r_d7_2) k_d7_5) ∧
  Kq k_d7_3 (.cond (tm 15) k_d7_4 .skip) ∧
  Kq k_d7_2 (.seq (.reg r_d7_1) k_d7_3) ∧
  Kq k_d7_15 (.seq (.reg r_d7_9) .ret) ∧
  Kq k_d7_14 (.cond (tm 46) k_d7_15 .skip) ∧
  Kq k_d7_13 (.seq (.reg r_d7_8) k_d7_14) ∧
  Kq k_d7_20 (.seq (.reg r_d7_12) .ret) ∧
  Kq k_d7_19 (.cond (tm 58) k_d7_20 .skip) ∧
  Kq k_d7_18 (.seq (.reg r_d7_11) k_d7_19) ∧
  Kq k_d7_21 (.seq (.reg r_d7_13) .ret) ∧
  Kq k_d7_17 (.seq k_d7_18 k_d7_21) ∧
  Kq k_d7_16 (.seq (.reg r_d7_10) k_d7_17) ∧
  Kq k_d7_12 (.seq k_d7_13 k_d7_16) ∧
  Kq k_d7_11 (.seq (.reg r_d7_7) k_d7_12) ∧
  Kq k_d7_1 (.seq k_d7_2 k_d7_11) ∧
  Kq c_d7 (.seq (.reg r_d7_0) k_d7_1) := ⟨kr, kr, kr, kr, kr, kr, kr, kr, kr, kr, kr, kr, kr, kr, kr, kr, kr, kr, kr, kr, kr, kr⟩
theorem at_d7 : FnAt Tryz.prog tb fn_d7 c_d7 65 [.tmp 8] := fnAt_of tb_fs Tryz.func47 rfl (by kernel_rfl) (by kernel_rfl) rfl rfl
def k_d0_4 : CC := (.seq (.reg r_d0_2) .ret)
def k_d0_3 : CC := (.cond (tm 20) k_d0_4 .skip)
def k_d0_2 : CC := (.seq (.reg r_d0_1) k_d0_3)
def k_d0_10 : CC := (.seq (.reg r_d0_6) .ret)
def k_d0_9 : CC := (.seq (.reg r_d0_5) k_d0_10)
def k_d0_8 : CC := (.seq (.reg r_d0_4) k_d0_9)
def k_d0_7 : CC := (.cond (tm 22) k_d0_8 .skip)
def k_d0_6 : CC := (.seq (.reg r_d0_3) k_d0_7)
def k_d0_18 : CC := (.cond (tm 38) .skip (.exit 0))
def k_d0_26 : CC := (.seq (.reg r_d0_13) .ret)
def k_d0_25 : CC := (.cond (tm 51) k_d0_26 .skip)
def k_d0_24 : CC := (.seq (.reg r_d0_12) k_d0_25)
def k_d0_31 : CC := (.reg r_d0_16)
def k_d0_30 : CC := (.cond (tm 57) k_d0_31 .skip)
def k_d0_29 : CC := (.seq (.reg r_d0_15) k_d0_30)
def k_d0_35 : CC := (.seq (.reg r_d0_19) .ret)
def k_d0_34 : CC := (.cond (tm 73) k_d0_35 .skip)
def k_d0_33 : CC := (.seq (.reg r_d0_18) k_d0_34)
def k_d0_32 : CC := (.seq (.reg r_d0_17) k_d0_33)
def k_d0_28 : CC := (.seq k_d0_29 k_d0_32)
def k_d0_27 : CC := (.seq (.reg r_d0_14) k_d0_28)
def k_d0_23 : CC := (.seq k_d0_24 k_d0_27)
def k_d0_22 : CC := (.seq (.reg r_d0_11) k_d0_23)
def k_d0_21 : CC := (.seq (.reg r_d0_10) k_d0_22)
def k_d0_20 : CC := (.block 1 k_d0_21)
def k_d0_36 : CC := (.reg r_d0_20)
def k_d0_19 : CC := (.seq k_d0_20 k_d0_36)
def k_d0_17 : CC := (.seq k_d0_18 k_d0_19)
def k_d0_16 : CC := (.seq (.reg r_d0_9) k_d0_17)
def k_d0_15 : CC := (.loop k_d0_16)
def k_d0_14 : CC := (.block 0 k_d0_15)
def k_d0_13 : CC := (.seq (.reg r_d0_8) k_d0_14)
def k_d0_37 : CC := (.seq (.reg r_d0_21) .ret)
def k_d0_12 : CC := (.seq k_d0_13 k_d0_37)
def k_d0_11 : CC := (.seq (.reg r_d0_7) k_d0_12)
def k_d0_5 : CC := (.seq k_d0_6 k_d0_11)
def k_d0_1 : CC := (.seq k_d0_2 k_d0_5)
def c_d0 : CC := (.seq (.reg r_d0_0) k_d0_1)
theorem o_d0 : Kq k_d0_4 (.seq (.reg r_d0_2) .ret) ∧
  Kq k_d0_3 (.cond (tm 20) k_d0_4 .skip) ∧
  Kq k_d0_2 (.seq (.reg r_d0_1) k_d0_3) ∧
  Kq k_d0_10 (.seq (.reg r_d0_6) .ret) ∧
  Kq k_d0_9 (.seq (.reg r_d0_5) k_d0_10) ∧
  Kq k_d0_8 (.seq (.reg r_d0_4) k_d0_9) ∧
  Kq k_d0_7 (.cond (tm 22) k_d0_8 .skip) ∧
  Kq k_d0_6 (.seq (.reg r_d0_3) k_d0_7) ∧
  Kq k_d0_18 (.cond (tm 38) .skip (.exit 0)) ∧
  Kq k_d0_26 (.seq (.reg r_d0_13) .ret) ∧
  Kq k_d0_25 (.cond (tm 51) k_d0_26 .skip) ∧
  Kq k_d0_24 (.seq (.reg r_d0_12) k_d0_25) ∧
  Kq k_d0_31 (.reg r_d0_16) ∧
  Kq k_d0_30 (.cond (tm 57) k_d0_31 .skip) ∧
  Kq k_d0_29 (.seq (.reg r_d0_15) k_d0_30) ∧
  Kq k_d0_35 (.seq (.reg r_d0_19) .ret) ∧
  Kq k_d0_34 (.cond (tm 73) k_d0_35 .skip) ∧
  Kq k_d0_33 (.seq (.reg r_d0_18) k_d0_34) ∧
  Kq k_d0_32 (.seq (.reg r_d0_17) k_d0_33) ∧
  Kq k_d0_28 (.seq k_d0_29 k_d0_32) ∧
  Kq k_d0_27 (.seq (.reg r_d0_14) k_d0_28) ∧
  Kq k_d0_23 (.seq k_d0_24 k_d0_27) ∧
  Kq k_d0_22 (.seq (.reg r_d0_11) k_d0_23) ∧
  Kq k_d0_21 (.seq (.reg r_d0_10) k_d0_22) ∧
  Kq k_d0_20 (.block 1 k_d0_21) ∧
  Kq k_d0_36 (.reg r_d0_20) ∧
  Kq k_d0_19 (.seq k_d0_20 k_d0_36) ∧
  Kq k_d0_17 (.seq k_d0_18 k_d0_19) ∧
  Kq k_d0_16 (.seq (.reg r_d0_9) k_d0_17) ∧
  Kq k_d0_15 (.loop k_d0_16) ∧
  Kq k_d0_14 (.block 0 k_d0_15) ∧
  Kq k_d0_13 (.seq (.reg r_d0_8) k_d0_14) ∧
  Kq k_d0_37 (.seq (.reg r_d0_21) .ret) ∧
  Kq k_d0_12 (.seq k_d0_13 k_d0_37) ∧
  Kq k_d0_11 (.seq (.reg r_d0_7) k_d0_12) ∧
  Kq k_d0_5 (.seq k_d0_6 k_d0_11) ∧
  Kq k_d0_1 (.seq k_d0_2 k_d0_5) ∧
  Kq c_d0 (.seq (.reg r_d0_0) k_d0_1) := ⟨kr, kr, kr, kr, kr, kr, kr, kr, kr, kr, kr, kr, kr, kr, kr, kr, kr, kr, kr, kr, kr, kr, kr, kr, kr, kr, kr, kr, kr, kr, kr, kr, kr, kr, kr, kr, kr, kr⟩
theorem at_d0 : FnAt Tryz.prog tb fn_d0 c_d0 76 [.tmp 13] := fnAt_of tb_fs Tryz.func48 rfl (by kernel_rfl) (by kernel_rfl) rfl rfl
def k_e9_6 : CC := (.seq (.reg r_e9_3) .ret)
def k_e9_9 : CC := (.seq (.reg r_e9_5) .ret)
def k_e9_8 : CC := (.cond (tm 11) k_e9_9 .skip)
def k_e9_7 : CC := (.seq (.reg r_e9_4) k_e9_8)
def k_e9_5 : CC := (.cond (tm 6) k_e9_6 k_e9_7)
def k_e9_4 : CC := (.seq (.reg r_e9_2) k_e9_5)
def k_e9_3 : CC := (.block 0 k_e9_4)
def k_e9_2 : CC := (.seq (.reg r_e9_1) k_e9_3)
def k_e9_10 : CC := (.seq (.reg r_e9_6) .ret)
def k_e9_1 : CC := (.seq k_e9_2 k_e9_10)
def c_e9 : CC := (.seq (.reg r_e9_0) k_e9_1)
theorem o_e9 : Kq k_e9_6 (.seq (.reg r_e9_3) .ret) ∧
  Kq k_e9_9 (.seq (.reg r_e9_5) .ret) ∧
  Kq k_e9_8 (.cond (tm 11) k_e9_9 .skip) ∧
  Kq k_e9_7 (.seq (.reg r_e9_4) k_e9_8) ∧
  Kq k_e9_5 (.cond (tm 6) k_e9_6 k_e9_7) ∧
  Kq k_e9_4 (.seq (.reg r_e9_2) k_e9_5) ∧
  Kq k_e9_3 (.block 0 k_e9_4) ∧
  Kq k_e9_2 (.seq (.reg r_e9_1) k_e9_3) ∧
  Kq k_e9_10 (.seq (.reg r_e9_6) .ret) ∧
  Kq k_e9_1 (.seq k_e9_2 k_e9_10) ∧
  Kq c_e9 (.seq (.reg r_e9_0) k_e9_1) := ⟨kr, kr, kr, kr, kr, kr, kr, kr, kr, kr, kr⟩
theorem at_e9 : FnAt Tryz.prog tb fn_e9 c_e9 21 [.tmp 4] := fnAt_of tb_fs Tryz.func49 rfl (by kernel_rfl) (by kernel_rfl) rfl rfl
def k_b3_4 : CC := (.seq (.reg r_b3_2) .ret)
def k_b3_3 : CC := (.cond (tm 10) k_b3_4 .skip)
def k_b3_2 : CC := (.seq (.reg r_b3_1) k_b3_3)
def k_b3_10 : CC := (.reg r_b3_6)
def k_b3_9 : CC := (.cond (tm 34) k_b3_10 .skip)
def k_b3_8 : CC := (.seq (.reg r_b3_5) k_b3_9)
def k_b3_11 : CC := (.seq (.reg r_b3_7) .ret)
def k_b3_7 : CC := (.seq k_b3_8 k_b3_11)
def k_b3_6 : CC := (.seq (.reg r_b3_4) k_b3_7)
def k_b3_5 : CC := (.seq (.reg r_b3_3) k_b3_6)
def k_b3_1 : CC := (.seq k_b3_2 k_b3_5)
def c_b3 : CC := (.seq (.reg r_b3_0) k_b3_1)
theorem o_b3 : Kq k_b3_4 (.seq (.reg r_b3_2) .ret) ∧
  Kq k_b3_3 (.cond (tm 10) k_b3_4 .skip) ∧
  Kq k_b3_2 (.seq (.reg r_b3_1) k_b3_3) ∧
  Kq k_b3_10 (.reg r_b3_6) ∧
  Kq k_b3_9 (.cond (tm 34) k_b3_10 .skip) ∧
  Kq k_b3_8 (.seq (.reg r_b3_5) k_b3_9) ∧
  Kq k_b3_11 (.seq (.reg r_b3_7) .ret) ∧
  Kq k_b3_7 (.seq k_b3_8 k_b3_11) ∧
  Kq k_b3_6 (.seq (.reg r_b3_4) k_b3_7) ∧
  Kq k_b3_5 (.seq (.reg r_b3_3) k_b3_6) ∧
  Kq k_b3_1 (.seq k_b3_2 k_b3_5) ∧
  Kq c_b3 (.seq (.reg r_b3_0) k_b3_1) := ⟨kr, kr, kr, kr, kr, kr, kr, kr, kr, kr, kr, kr⟩
theorem at_b3 : FnAt Tryz.prog tb fn_b3 c_b3 51 [.tmp 4] := fnAt_of tb_fs Tryz.func51 rfl (by kernel_rfl) (by kernel_rfl) rfl rfl
def k_e2_4 : CC := (.seq (.reg r_e2_2) .ret)
def k_e2_3 : CC := (.cond (tm 22) k_e2_4 .skip)
def k_e2_2 : CC := (.seq (.reg r_e2_1) k_e2_3)
def k_e2_11 : CC := (.seq (.reg r_e2_9) .ret)
def k_e2_10 : CC := (.seq (.reg r_e2_8) k_e2_11)
def k_e2_9 : CC := (.seq (.reg r_e2_7) k_e2_10)
def k_e2_8 : CC := (.seq (.reg r_e2_6) k_e2_9)
def k_e2_7 : CC := (.seq (.reg r_e2_5) k_e2_8)
def k_e2_6 : CC := (.seq (.reg r_e2_4) k_e2_7)
def k_e2_5 : CC := (.seq (.reg r_e2_3) k_e2_6)
def k_e2_1 : CC := (.seq k_e2_2 k_e2_5)
def c_e2 : CC := (.seq (.reg r_e2_0) k_e2_1)
theorem o_e2 : Kq k_e2_4 (.seq (.reg r_e2_2) .ret) ∧
  Kq k_e2_3 (.cond (tm 22) k_e2_4 .skip) ∧
  Kq k_e2_2 (.seq (.reg r_e2_1) k_e2_3) ∧
  Kq k_e2_11 (.seq (.reg r_e2_9) .ret) ∧
  Kq k_e2_10 (.seq (.reg r_e2_8) k_e2_11) ∧
  Kq k_e2_9 (.seq (.reg r_e2_7) k_e2_10) ∧
  Kq k_e2_8 (.seq (.reg r_e2_6) k_e2_9) ∧
  Kq k_e2_7 (.seq (.reg r_e2_5) k_e2_8) ∧
  Kq k_e2_6 (.seq (.reg r_e2_4) k_e2_7) ∧
  Kq k_e2_5 (.seq (.reg r_e2_3) k_e2_6) ∧
  Kq k_e2_1 (.seq k_e2_2 k_e2_5) ∧
  Kq c_e2 (.seq (.reg r_e2_0) k_e2_1) := ⟨kr, kr, kr, kr, kr, kr, kr, kr, kr, kr, kr, kr⟩
theorem at_e2 : FnAt Tryz.prog tb fn_e2 c_e2 53 [.tmp 2, .tmp 3] := fnAt_of tb_fs Tryz.func55 rfl (by kernel_rfl) (by kernel_rfl) rfl rfl
def k_d6_5 : CC := (.reg r_d6_3)
def k_d6_4 : CC := (.cond (tm 21) k_d6_5 .skip)
def k_d6_3 : CC := (.seq (.reg r_d6_2) k_d6_4)
def k_d6_2 : CC := (.seq (.reg r_d6_1) k_d6_3)
def k_d6_6 : CC := (.seq (.reg r_d6_4) .ret)
def k_d6_1 : CC := (.seq k_d6_2 k_d6_6)
def c_d6 : CC := (.seq (.reg r_d6_0) k_d6_1)
theorem o_d6 : Kq k_d6_5 (.reg r_d6_3) ∧
  Kq k_d6_4 (.cond (tm 21) k_d6_5 .skip) ∧
  Kq k_d6_3 (.seq (.reg r_d6_2) k_d6_4) ∧
  Kq k_d6_2 (.seq (.reg r_d6_1) k_d6_3) ∧
  Kq k_d6_6 (.seq (.reg r_d6_4) .ret) ∧
  Kq k_d6_1 (.seq k_d6_2 k_d6_6) ∧
  Kq c_d6 (.seq (.reg r_d6_0) k_d6_1) := ⟨kr, kr, kr, kr, kr, kr, kr⟩
theorem at_d6 : FnAt Tryz.prog tb fn_d6 c_d6 32 [.tmp 6, .tmp 7, .tmp 8, .tmp 9] := fnAt_of tb_fs Tryz.func56 rfl (by kernel_rfl) (by kernel_rfl) rfl rfl
def k_e3_4 : CC := (.seq (.reg r_e3_2) .ret)
def k_e3_3 : CC := (.cond (tm 12) k_e3_4 .skip)
def k_e3_2 : CC := (.seq (.reg r_e3_1) k_e3_3)
def k_e3_17 : CC := (.cond (tm 30) .skip (.exit 0))
def k_e3_21 : CC := (.reg r_e3_12)
def k_e3_20 : CC := (.seq (.reg r_e3_11) k_e3_21)
def k_e3_19 : CC := (.block 1 k_e3_20)
def k_e3_22 : CC := (.reg r_e3_13)
def k_e3_18 : CC := (.seq k_e3_19 k_e3_22)
def k_e3_16 : CC := (.seq k_e3_17 k_e3_18)
def k_e3_15 : CC := (.seq (.reg r_e3_10) k_e3_16)
def k_e3_14 : CC := (.loop k_e3_15)
def k_e3_13 : CC := (.block 0 k_e3_14)
def k_e3_12 : CC := (.seq (.reg r_e3_9) k_e3_13)
def k_e3_25 : CC := (.seq (.reg r_e3_16) .ret)
def k_e3_24 : CC := (.seq (.reg r_e3_15) k_e3_25)
def k_e3_23 : CC := (.seq (.reg r_e3_14) k_e3_24)
def k_e3_11 : CC := (.seq k_e3_12 k_e3_23)
def k_e3_10 : CC := (.seq (.reg r_e3_8) k_e3_11)
def k_e3_9 : CC := (.seq (.reg r_e3_7) k_e3_10)
def k_e3_8 : CC := (.seq (.reg r_e3_6) k_e3_9)
def k_e3_7 : CC := (.seq (.reg r_e3_5) k_e3_8)
def k_e3_6 : CC := (.seq (.reg r_e3_4) k_e3_7)
def k_e3_5 : CC := (.seq (.reg r_e3_3) k_e3_6)
def k_e3_1 : CC := (.seq k_e3_2 k_e3_5)
def c_e3 : CC := (.seq (.reg r_e3_0) k_e3_1)
theorem o_e3 : Kq k_e3_4 (.seq (.reg r_e3_2) .ret) ∧
  Kq k_e3_3 (.cond (tm 12) k_e3_4 .skip) ∧
  Kq k_e3_2 (.seq (.reg r_e3_1) k_e3_3) ∧
  Kq k_e3_17 (.cond (tm 30) .skip (.exit 0)) ∧
  Kq k_e3_21 (.reg r_e3_12) ∧
  Kq k_e3_20 (.seq (.reg r_e3_11) k_e3_21) ∧
  Kq k_e3_19 (.block 1 k_e3_20) ∧
  Kq k_e3_22 (.reg r_e3_13) ∧
  Kq k_e3_18 (.seq k_e3_19 k_e3_22) ∧
  Kq k_e3_16 (.seq k_e3_17 k_e3_18) ∧
  Kq k_e3_15 (.seq (.reg r_e3_10) k_e3_16) ∧
  Kq k_e3_14 (.loop k_e3_15) ∧
  Kq k_e3_13 (.block 0 k_e3_14) ∧
  Kq k_e3_12 (.seq (.reg r_e3_9) k_e3_13) ∧
  Kq k_e3_25 (.seq (.reg r_e3_16) .ret) ∧
  Kq k_e3_24 (.seq (.reg r_e3_15) k_e3_25) ∧
  Kq k_e3_23 (.seq (.reg r_e3_14) k_e3_24) ∧
  Kq k_e3_11 (.seq k_e3_12 k_e3_23) ∧
  Kq k_e3_10 (.seq (.reg r_e3_8) k_e3_11) ∧
  Kq k_e3_9 (.seq (.reg r_e3_7) k_e3_10) ∧
  Kq k_e3_8 (.seq (.reg r_e3_6) k_e3_9) ∧
  Kq k_e3_7 (.seq (.reg r_e3_5) k_e3_8) ∧
  Kq k_e3_6 (.seq (.reg r_e3_4) k_e3_7) ∧
  Kq k_e3_5 (.seq (.reg r_e3_3) k_e3_6) ∧
  Kq k_e3_1 (.seq k_e3_2 k_e3_5) ∧
  Kq c_e3 (.seq (.reg r_e3_0) k_e3_1) := ⟨kr, kr, kr, kr, kr, kr, kr, kr, kr, kr, kr, kr, kr, kr, kr, kr, kr, kr, kr, kr, kr, kr, kr, kr, kr, kr⟩
theorem at_e3 : FnAt Tryz.prog tb fn_e3 c_e3 55 [.cell 2 ty_api_Inode, .tmp 3] := fnAt_of tb_fs Tryz.func59 rfl (by kernel_rfl) (by kernel_rfl) rfl rfl
def k_c2_5 : CC := (.seq (.reg r_c2_3) .ret)
def k_c2_4 : CC := (.cond (tm 14) k_c2_5 .skip)
def k_c2_3 : CC := (.seq (.reg r_c2_2) k_c2_4)
def k_c2_2 : CC := (.seq (.reg r_c2_1) k_c2_3)
def k_c2_12 : CC := (.cond (tm 27) .skip (.exit 0))
def k_c2_19 : CC := (.seq (.reg r_c2_9) .ret)
def k_c2_18 : CC := (.cond (tm 36) k_c2_19 .skip)
def k_c2_17 : CC := (.seq (.reg r_c2_8) k_c2_18)
def k_c2_16 : CC := (.seq (.reg r_c2_7) k_c2_17)
def k_c2_15 : CC := (.seq (.reg r_c2_6) k_c2_16)
def k_c2_14 : CC := (.block 1 k_c2_15)
def k_c2_20 : CC := (.reg r_c2_10)
def k_c2_13 : CC := (.seq k_c2_14 k_c2_20)
def k_c2_11 : CC := (.seq k_c2_12 k_c2_13)
def k_c2_10 : CC := (.seq (.reg r_c2_5) k_c2_11)
def k_c2_9 : CC := (.loop k_c2_10)
def k_c2_8 : CC := (.block 0 k_c2_9)
def k_c2_7 : CC := (.seq (.drawn r_c2_4 [ (3, 0) , (7, 0) ]) k_c2_8)
def k_c2_21 : CC := (.seq (.reg r_c2_11) .ret)
def k_c2_6 : CC := (.seq k_c2_7 k_c2_21)
def k_c2_1 : CC := (.seq k_c2_2 k_c2_6)
def c_c2 : CC := (.seq (.reg r_c2_0) k_c2_1)
theorem o_c2 : Kq k_c2_5 (.seq (.reg r_c2_3) .ret) ∧
  Kq k_c2_4 (.cond (tm 14) k_c2_5 .skip) ∧
  Kq k_c2_3 (.seq (.reg r_c2_2) k_c2_4) ∧
  Kq k_c2_2 (.seq (.reg r_c2_1) k_c2_3) ∧
  Kq k_c2_12 (.cond (tm 27) .skip (.exit 0)) ∧
  Kq k_c2_19 (.seq (.reg r_c2_9) .ret) ∧
  Kq k_c2_18 (.cond (tm 36) k_c2_19 .skip) ∧
  Kq k_c2_17 (.seq (.reg r_c2_8) k_c2_18) ∧
  Kq k_c2_16 (.seq (.reg r_c2_7) k_c2_17) ∧
  Kq k_c2_15 (.seq (.reg r_c2_6) k_c2_16) ∧
  Kq k_c2_14 (.block 1 k_c2_15) ∧
  Kq k_c2_20 (.reg r_c2_10) ∧
  Kq k_c2_13 (.seq k_c2_14 k_c2_20) ∧
  Kq k_c2_11 (.seq k_c2_12 k_c2_13) ∧
  Kq k_c2_10 (.seq (.reg r_c2_5) k_c2_11) ∧
  Kq k_c2_9 (.loop k_c2_10) ∧
  Kq k_c2_8 (.block 0 k_c2_9) ∧
  Kq k_c2_7 (.seq (.drawn r_c2_4 [ (3, 0) , (7, 0) ]) k_c2_8) ∧
  Kq k_c2_21 (.seq (.reg r_c2_11) .ret) ∧
  Kq k_c2_6 (.seq k_c2_7 k_c2_21) ∧
  Kq k_c2_1 (.seq k_c2_2 k_c2_6) ∧
  Kq c_c2 (.seq (.reg r_c2_0) k_c2_1) := ⟨kr, kr, kr, kr, kr, kr, kr, kr, kr, kr, kr, kr, kr, kr, kr, kr, kr, kr, kr, kr, kr, kr⟩
theorem at_c2 : FnAt Tryz.prog tb fn_c2 c_c2 48 [.tmp 4, .tmp 5] := fnAt_of tb_fs Tryz.func73 rfl (by kernel_rfl) (by kernel_rfl) rfl rfl
def k_f4_1 : CC := (.seq (.reg r_f4_1) .ret)
def c_f4 : CC := (.seq (.reg r_f4_0) k_f4_1)
theorem o_f4 : Kq k_f4_1 (.seq (.reg r_f4_1) .ret) ∧
  Kq c_f4 (.seq (.reg r_f4_0) k_f4_1) := ⟨kr, kr⟩
theorem at_f4 : FnAt Tryz.prog tb fn_f4 c_f4 15 [.tmp 6] := fnAt_of tb_fs Tryz.func93 rfl (by kernel_rfl) (by kernel_rfl) rfl rfl
def k_c8_6 : CC := (.seq (.reg r_c8_3) .ret)
def k_c8_9 : CC := (.seq (.reg r_c8_5) .ret)
def k_c8_12 : CC := (.seq (.reg r_c8_7) .ret)
def k_c8_11 : CC := (.cond (tm 42) k_c8_12 .skip)
def k_c8_10 : CC := (.seq (.reg r_c8_6) k_c8_11)
def k_c8_8 : CC := (.cond (tm 18) k_c8_9 k_c8_10)
def k_c8_7 : CC := (.seq (.reg r_c8_4) k_c8_8)
def k_c8_5 : CC := (.cond (tm 14) k_c8_6 k_c8_7)
def k_c8_4 : CC := (.seq (.reg r_c8_2) k_c8_5)
def k_c8_3 : CC := (.block 0 k_c8_4)
def k_c8_15 : CC := (.seq (.reg r_c8_10) .ret)
def k_c8_14 : CC := (.seq (.reg r_c8_9) k_c8_15)
def k_c8_13 : CC := (.seq (.reg r_c8_8) k_c8_14)
def k_c8_2 : CC := (.seq k_c8_3 k_c8_13)
def k_c8_1 : CC := (.seq (.reg r_c8_1) k_c8_2)
def c_c8 : CC := (.seq (.reg r_c8_0) k_c8_1)
theorem o_c8 : Kq k_c8_6 (.seq (.reg r_c8_3) .ret) ∧
  Kq k_c8_9 (.seq (.reg r_c8_5) .ret) ∧
  Kq k_c8_12 (.seq (.reg r_c8_7) .ret) ∧
  Kq k_c8_11 (.cond (tm 42) k_c8_12 .skip) ∧
  Kq k_c8_10 (.seq (.reg r_c8_6) k_c8_11) ∧
  Kq k_c8_8 (.cond (tm 18) k_c8_9 k_c8_10) ∧
  Kq k_c8_7 (.seq (.reg r_c8_4) k_c8_8) ∧
  Kq k_c8_5 (.cond (tm 14) k_c8_6 k_c8_7) ∧
  Kq k_c8_4 (.seq (.reg r_c8_2) k_c8_5) ∧
  Kq k_c8_3 (.block 0 k_c8_4) ∧
  Kq k_c8_15 (.seq (.reg r_c8_10) .ret) ∧
  Kq k_c8_14 (.seq (.reg r_c8_9) k_c8_15) ∧
  Kq k_c8_13 (.seq (.reg r_c8_8) k_c8_14) ∧
  Kq k_c8_2 (.seq k_c8_3 k_c8_13) ∧
  Kq k_c8_1 (.seq (.reg r_c8_1) k_c8_2) ∧
  Kq c_c8 (.seq (.reg r_c8_0) k_c8_1) := ⟨kr, kr, kr, kr, kr, kr, kr, kr, kr, kr, kr, kr, kr, kr, kr, kr⟩
theorem at_c8 : FnAt Tryz.prog tb fn_c8 c_c8 63 [.tmp 10] := fnAt_of tb_fs Tryz.func94 rfl (by kernel_rfl) (by kernel_rfl) rfl rfl
def k_c4_1 : CC := (.seq (.reg r_c4_1) .ret)
def c_c4 : CC := (.seq (.reg r_c4_0) k_c4_1)
theorem o_c4 : Kq k_c4_1 (.seq (.reg r_c4_1) .ret) ∧
  Kq c_c4 (.seq (.reg r_c4_0) k_c4_1) := ⟨kr, kr⟩
theorem at_c4 : FnAt Tryz.prog tb fn_c4 c_c4 7 [.tmp 2] := fnAt_of tb_fs Tryz.func95 rfl (by kernel_rfl) (by kernel_rfl) rfl rfl
def k_c5_1 : CC := (.seq (.reg r_c5_1) .ret)
def c_c5 : CC := (.seq (.reg r_c5_0) k_c5_1)
theorem o_c5 : Kq k_c5_1 (.seq (.reg r_c5_1) .ret) ∧
  Kq c_c5 (.seq (.reg r_c5_0) k_c5_1) := ⟨kr, kr⟩
theorem at_c5 : FnAt Tryz.prog tb fn_c5 c_c5 5 [.tmp 2] := fnAt_of tb_fs Tryz.func96 rfl (by kernel_rfl) (by kernel_rfl) rfl rfl
def k_cr_Bm_take_0_6 : CC := (.seq (.reg r_a5_4) .ret)
def k_cr_Bm_take_0_9 : CC := (.seq (.reg r_a5_6) .ret)
def k_cr_Bm_take_0_12 : CC := (.seq (.reg r_a5_8) (.goto 0))
def k_cr_Bm_take_0_11 : CC := (.cond (tm 31) k_cr_Bm_take_0_12 .skip)
def k_cr_Bm_take_0_10 : CC := (.seq (.reg r_a5_7) k_cr_Bm_take_0_11)
def k_cr_Bm_take_0_8 : CC := (.cond (tm 27) k_cr_Bm_take_0_9 k_cr_Bm_take_0_10)
def k_cr_Bm_take_0_7 : CC := (.seq (.reg r_a5_5) k_cr_Bm_take_0_8)
def k_cr_Bm_take_0_5 : CC := (.cond (tm 23) k_cr_Bm_take_0_6 k_cr_Bm_take_0_7)
def k_cr_Bm_take_0_4 : CC := (.seq (.reg r_a5_3) k_cr_Bm_take_0_5)
def k_cr_Bm_take_0_3 : CC := (.block 0 k_cr_Bm_take_0_4)
def k_cr_Bm_take_0_17 : CC := (.seq (.reg r_a5_11) .ret)
def k_cr_Bm_take_0_16 : CC := (.cond (tm 42) k_cr_Bm_take_0_17 .skip)
def k_cr_Bm_take_0_15 : CC := (.seq (.reg r_a5_10) k_cr_Bm_take_0_16)
def k_cr_Bm_take_0_14 : CC := (.seq (.reg r_a5_9) k_cr_Bm_take_0_15)
def k_cr_Bm_take_0_18 : CC := (.seq (.reg r_a5_12) .ret)
def k_cr_Bm_take_0_13 : CC := (.seq k_cr_Bm_take_0_14 k_cr_Bm_take_0_18)
def k_cr_Bm_take_0_2 : CC := (.seq k_cr_Bm_take_0_3 k_cr_Bm_take_0_13)
def k_cr_Bm_take_0_1 : CC := (.seq (.reg r_a5_2) k_cr_Bm_take_0_2)
theorem o_cr_Bm_take_0 : Kq k_cr_Bm_take_0_6 (.seq (.reg r_a5_4) .ret) ∧
  Kq k_cr_Bm_take_0_9 (.seq (.reg r_a5_6) .ret) ∧
  Kq k_cr_Bm_take_0_12 (.seq (.reg r_a5_8) (.goto 0)) ∧
  Kq k_cr_Bm_take_0_11 (.cond (tm 31) k_cr_Bm_take_0_12 .skip) ∧
  Kq k_cr_Bm_take_0_10 (.seq (.reg r_a5_7) k_cr_Bm_take_0_11) ∧
  Kq k_cr_Bm_take_0_8 (.cond (tm 27) k_cr_Bm_take_0_9 k_cr_Bm_take_0_10) ∧
  Kq k_cr_Bm_take_0_7 (.seq (.reg r_a5_5) k_cr_Bm_take_0_8) ∧
  Kq k_cr_Bm_take_0_5 (.cond (tm 23) k_cr_Bm_take_0_6 k_cr_Bm_take_0_7) ∧
  Kq k_cr_Bm_take_0_4 (.seq (.reg r_a5_3) k_cr_Bm_take_0_5) ∧
  Kq k_cr_Bm_take_0_3 (.block 0 k_cr_Bm_take_0_4) ∧
  Kq k_cr_Bm_take_0_17 (.seq (.reg r_a5_11) .ret) ∧
  Kq k_cr_Bm_take_0_16 (.cond (tm 42) k_cr_Bm_take_0_17 .skip) ∧
  Kq k_cr_Bm_take_0_15 (.seq (.reg r_a5_10) k_cr_Bm_take_0_16) ∧
  Kq k_cr_Bm_take_0_14 (.seq (.reg r_a5_9) k_cr_Bm_take_0_15) ∧
  Kq k_cr_Bm_take_0_18 (.seq (.reg r_a5_12) .ret) ∧
  Kq k_cr_Bm_take_0_13 (.seq k_cr_Bm_take_0_14 k_cr_Bm_take_0_18) ∧
  Kq k_cr_Bm_take_0_2 (.seq k_cr_Bm_take_0_3 k_cr_Bm_take_0_13) ∧
  Kq k_cr_Bm_take_0_1 (.seq (.reg r_a5_2) k_cr_Bm_take_0_2) ∧
  Kq cr_Bm_take_0 (.seq .skip k_cr_Bm_take_0_1) := ⟨kr, kr, kr, kr, kr, kr, kr, kr, kr, kr, kr, kr, kr, kr, kr, kr, kr, kr, kr⟩
def c_a5 : CC := (.seq (.reg r_a5_0) (.scope b_Bm_take))
theorem o_a5 : Kq c_a5 (.seq (.reg r_a5_0) (.scope b_Bm_take)) := kr
theorem at_a5 : FnAt Tryz.prog tb fn_a5 c_a5 45 [.tmp 10, .tmp 11] := fnAt_of tb_fs Tryz.func98 rfl (by kernel_rfl) (by kernel_rfl) rfl rfl
def k_e6_5 : CC := (.seq (.reg r_e6_3) .ret)
def k_e6_4 : CC := (.cond (tm 22) k_e6_5 .skip)
def k_e6_3 : CC := (.seq (.reg r_e6_2) k_e6_4)
def k_e6_2 : CC := (.seq (.reg r_e6_1) k_e6_3)
def k_e6_9 : CC := (.seq (.reg r_e6_5) .ret)
def k_e6_8 : CC := (.cond (tm 32) k_e6_9 .skip)
def k_e6_7 : CC := (.seq (.reg r_e6_4) k_e6_8)
def k_e6_17 : CC := (.cond (tm 37) .skip (.exit 0))
def k_e6_21 : CC := (.reg r_e6_10)
def k_e6_20 : CC := (.seq (.reg r_e6_9) k_e6_21)
def k_e6_19 : CC := (.block 1 k_e6_20)
def k_e6_22 : CC := (.reg r_e6_11)
def k_e6_18 : CC := (.seq k_e6_19 k_e6_22)
def k_e6_16 : CC := (.seq k_e6_17 k_e6_18)
def k_e6_15 : CC := (.seq (.reg r_e6_8) k_e6_16)
def k_e6_14 : CC := (.loop k_e6_15)
def k_e6_13 : CC := (.block 0 k_e6_14)
def k_e6_12 : CC := (.seq (.reg r_e6_7) k_e6_13)
def k_e6_23 : CC := (.seq (.reg r_e6_12) .ret)
def k_e6_11 : CC := (.seq k_e6_12 k_e6_23)
def k_e6_10 : CC := (.seq (.reg r_e6_6) k_e6_11)
def k_e6_6 : CC := (.seq k_e6_7 k_e6_10)
def k_e6_1 : CC := (.seq k_e6_2 k_e6_6)
def c_e6 : CC := (.seq (.reg r_e6_0) k_e6_1)
theorem o_e6 : Kq k_e6_5 (.seq (.reg r_e6_3) .ret) ∧
  Kq k_e6_4 (.cond (tm 22) k_e6_5 .skip) ∧
  Kq k_e6_3 (.seq (.reg r_e6_2) k_e6_4) ∧
  Kq k_e6_2 (.seq (.reg r_e6_1) k_e6_3) ∧
  Kq k_e6_9 (.seq (.reg r_e6_5) .ret) ∧
  Kq k_e6_8 (.cond (tm 32) k_e6_9 .skip) ∧
  Kq k_e6_7 (.seq (.reg r_e6_4) k_e6_8) ∧
  Kq k_e6_17 (.cond (tm 37) .skip (.exit 0)) ∧
  Kq k_e6_21 (.reg r_e6_10) ∧
  Kq k_e6_20 (.seq (.reg r_e6_9) k_e6_21) ∧
  Kq k_e6_19 (.block 1 k_e6_20) ∧
  Kq k_e6_22 (.reg r_e6_11) ∧
  Kq k_e6_18 (.seq k_e6_19 k_e6_22) ∧
  Kq k_e6_16 (.seq k_e6_17 k_e6_18) ∧
  Kq k_e6_15 (.seq (.reg r_e6_8) k_e6_16) ∧
  Kq k_e6_14 (.loop k_e6_15) ∧
  Kq k_e6_13 (.block 0 k_e6_14) ∧
  Kq k_e6_12 (.seq (.reg r_e6_7) k_e6_13) ∧
  Kq k_e6_23 (.seq (.reg r_e6_12) .ret) ∧
  Kq k_e6_11 (.seq k_e6_12 k_e6_23) ∧
  Kq k_e6_10 (.seq (.reg r_e6_6) k_e6_11) ∧
  Kq k_e6_6 (.seq k_e6_7 k_e6_10) ∧
  Kq k_e6_1 (.seq k_e6_2 k_e6_6) ∧
  Kq c_e6 (.seq (.reg r_e6_0) k_e6_1) := ⟨kr, kr, kr, kr, kr, kr, kr, kr, kr, kr, kr, kr, kr, kr, kr, kr, kr, kr, kr, kr, kr, kr, kr, kr⟩
theorem at_e6 : FnAt Tryz.prog tb fn_e6 c_e6 51 [.tmp 8, .tmp 9] := fnAt_of tb_fs Tryz.func99 rfl (by kernel_rfl) (by kernel_rfl) rfl rfl
def k_a3_6 : CC := (.cond (tm 16) .skip (.exit 0))
def k_a3_5 : CC := (.seq (.reg r_a3_1) k_a3_6)
def k_a3_12 : CC := (.seq (.reg r_a3_4) .ret)
def k_a3_11 : CC := (.cond (tm 30) k_a3_12 .skip)
def k_a3_10 : CC := (.seq (.reg r_a3_3) k_a3_11)
def k_a3_18 : CC := (.seq (.reg r_a3_8) .ret)
def k_a3_17 : CC := (.cond (tm 54) k_a3_18 .skip)
def k_a3_16 : CC := (.seq (.reg r_a3_7) k_a3_17)
def k_a3_19 : CC := (.reg r_a3_9)
def k_a3_15 : CC := (.seq k_a3_16 k_a3_19)
def k_a3_14 : CC := (.seq (.reg r_a3_6) k_a3_15)
def k_a3_13 : CC := (.seq (.drawn r_a3_5 [ (2, 0) , (5, 0) ]) k_a3_14)
def k_a3_9 : CC := (.seq k_a3_10 k_a3_13)
def k_a3_8 : CC := (.seq (.drawn r_a3_2 [ (2, 0) , (5, 0) ]) k_a3_9)
def k_a3_7 : CC := (.block 1 k_a3_8)
def k_a3_4 : CC := (.seq k_a3_5 k_a3_7)
def k_a3_3 : CC := (.loop k_a3_4)
def k_a3_2 : CC := (.block 0 k_a3_3)
def k_a3_20 : CC := (.seq (.reg r_a3_10) .ret)
def k_a3_1 : CC := (.seq k_a3_2 k_a3_20)
def c_a3 : CC := (.seq (.reg r_a3_0) k_a3_1)
theorem o_a3 : Kq k_a3_6 (.cond (tm 16) .skip (.exit 0)) ∧
  Kq k_a3_5 (.seq (.reg r_a3_1) k_a3_6) ∧
  Kq k_a3_12 (.seq (.reg r_a3_4) .ret) ∧
  Kq k_a3_11 (.cond (tm 30) k_a3_12 .skip) ∧
  Kq k_a3_10 (.seq (.reg r_a3_3) k_a3_11) ∧
  Kq k_a3_18 (.seq (.reg r_a3_8) .ret) ∧
  Kq k_a3_17 (.cond (tm 54) k_a3_18 .skip) ∧
  Kq k_a3_16 (.seq (.reg r_a3_7) k_a3_17) ∧
  Kq k_a3_19 (.reg r_a3_9) ∧
  Kq k_a3_15 (.seq k_a3_16 k_a3_19) ∧
  Kq k_a3_14 (.seq (.reg r_a3_6) k_a3_15) ∧
  Kq k_a3_13 (.seq (.drawn r_a3_5 [ (2, 0) , (5, 0) ]) k_a3_14) ∧
  Kq k_a3_9 (.seq k_a3_10 k_a3_13) ∧
  Kq k_a3_8 (.seq (.drawn r_a3_2 [ (2, 0) , (5, 0) ]) k_a3_9) ∧
  Kq k_a3_7 (.block 1 k_a3_8) ∧
  Kq k_a3_4 (.seq k_a3_5 k_a3_7) ∧
  Kq k_a3_3 (.loop k_a3_4) ∧
  Kq k_a3_2 (.block 0 k_a3_3) ∧
  Kq k_a3_20 (.seq (.reg r_a3_10) .ret) ∧
  Kq k_a3_1 (.seq k_a3_2 k_a3_20) ∧
  Kq c_a3 (.seq (.reg r_a3_0) k_a3_1) := ⟨kr, kr, kr, kr, kr, kr, kr, kr, kr, kr, kr, kr, kr, kr, kr, kr, kr, kr, kr, kr, kr⟩
theorem at_a3 : FnAt Tryz.prog tb fn_a3 c_a3 63 [.tmp 8, .tmp 9] := fnAt_of tb_fs Tryz.func100 rfl (by kernel_rfl) (by kernel_rfl) rfl rfl
def k_b5_7 : CC := (.cond (tm 15) .skip (.exit 0))
def k_b5_13 : CC := (.seq (.reg r_b5_5) .ret)
def k_b5_12 : CC := (.cond (tm 21) k_b5_13 .skip)
def k_b5_11 : CC := (.seq (.reg r_b5_4) k_b5_12)
def k_b5_10 : CC := (.seq (.reg r_b5_3) k_b5_11)
def k_b5_9 : CC := (.block 1 k_b5_10)
def k_b5_14 : CC := (.reg r_b5_6)
def k_b5_8 : CC := (.seq k_b5_9 k_b5_14)
def k_b5_6 : CC := (.seq k_b5_7 k_b5_8)
def k_b5_5 : CC := (.seq (.reg r_b5_2) k_b5_6)
def k_b5_4 : CC := (.loop k_b5_5)
def k_b5_3 : CC := (.block 0 k_b5_4)
def k_b5_2 : CC := (.seq (.reg r_b5_1) k_b5_3)
def k_b5_15 : CC := (.seq (.reg r_b5_7) .ret)
def k_b5_1 : CC := (.seq k_b5_2 k_b5_15)
def c_b5 : CC := (.seq (.reg r_b5_0) k_b5_1)
theorem o_b5 : Kq k_b5_7 (.cond (tm 15) .skip (.exit 0)) ∧
  Kq k_b5_13 (.seq (.reg r_b5_5) .ret) ∧
  Kq k_b5_12 (.cond (tm 21) k_b5_13 .skip) ∧
  Kq k_b5_11 (.seq (.reg r_b5_4) k_b5_12) ∧
  Kq k_b5_10 (.seq (.reg r_b5_3) k_b5_11) ∧
  Kq k_b5_9 (.block 1 k_b5_10) ∧
  Kq k_b5_14 (.reg r_b5_6) ∧
  Kq k_b5_8 (.seq k_b5_9 k_b5_14) ∧
  Kq k_b5_6 (.seq k_b5_7 k_b5_8) ∧
  Kq k_b5_5 (.seq (.reg r_b5_2) k_b5_6) ∧
  Kq k_b5_4 (.loop k_b5_5) ∧
  Kq k_b5_3 (.block 0 k_b5_4) ∧
  Kq k_b5_2 (.seq (.reg r_b5_1) k_b5_3) ∧
  Kq k_b5_15 (.seq (.reg r_b5_7) .ret) ∧
  Kq k_b5_1 (.seq k_b5_2 k_b5_15) ∧
  Kq c_b5 (.seq (.reg r_b5_0) k_b5_1) := ⟨kr, kr, kr, kr, kr, kr, kr, kr, kr, kr, kr, kr, kr, kr, kr, kr⟩
theorem at_b5 : FnAt Tryz.prog tb fn_b5 c_b5 25 [.tmp 4, .tmp 5] := fnAt_of tb_fs Tryz.func101 rfl (by kernel_rfl) (by kernel_rfl) rfl rfl
def k_b0_5 : CC := (.cond (tm 11) .skip (.exit 0))
def k_b0_9 : CC := (.reg r_b0_3)
def k_b0_8 : CC := (.seq (.reg r_b0_2) k_b0_9)
def k_b0_7 : CC := (.block 1 k_b0_8)
def k_b0_10 : CC := (.reg r_b0_4)
def k_b0_6 : CC := (.seq k_b0_7 k_b0_10)
def k_b0_4 : CC := (.seq k_b0_5 k_b0_6)
def k_b0_3 : CC := (.seq (.reg r_b0_1) k_b0_4)
def k_b0_2 : CC := (.loop k_b0_3)
def k_b0_1 : CC := (.block 0 k_b0_2)
def c_b0 : CC := (.seq (.reg r_b0_0) k_b0_1)
theorem o_b0 : Kq k_b0_5 (.cond (tm 11) .skip (.exit 0)) ∧
  Kq k_b0_9 (.reg r_b0_3) ∧
  Kq k_b0_8 (.seq (.reg r_b0_2) k_b0_9) ∧
  Kq k_b0_7 (.block 1 k_b0_8) ∧
  Kq k_b0_10 (.reg r_b0_4) ∧
  Kq k_b0_6 (.seq k_b0_7 k_b0_10) ∧
  Kq k_b0_4 (.seq k_b0_5 k_b0_6) ∧
  Kq k_b0_3 (.seq (.reg r_b0_1) k_b0_4) ∧
  Kq k_b0_2 (.loop k_b0_3) ∧
  Kq k_b0_1 (.block 0 k_b0_2) ∧
  Kq c_b0 (.seq (.reg r_b0_0) k_b0_1) := ⟨kr, kr, kr, kr, kr, kr, kr, kr, kr, kr, kr⟩
theorem at_b0 : FnAt Tryz.prog tb fn_b0 c_b0 19 [] := fnAt_of tb_fs Tryz.func103 rfl (by kernel_rfl) (by kernel_rfl) rfl rfl
def k_a9_4 : CC := (.reg r_a9_2)
def k_a9_3 : CC := (.cond (tm 24) k_a9_4 .skip)
def k_a9_2 : CC := (.seq (.reg r_a9_1) k_a9_3)
def k_a9_5 : CC := (.reg r_a9_3)
def k_a9_1 : CC := (.seq k_a9_2 k_a9_5)
def c_a9 : CC := (.seq (.reg r_a9_0) k_a9_1)
theorem o_a9 : Kq k_a9_4 (.reg r_a9_2) ∧
  Kq k_a9_3 (.cond (tm 24) k_a9_4 .skip) ∧
  Kq k_a9_2 (.seq (.reg r_a9_1) k_a9_3) ∧
  Kq k_a9_5 (.reg r_a9_3) ∧
  Kq k_a9_1 (.seq k_a9_2 k_a9_5) ∧
  Kq c_a9 (.seq (.reg r_a9_0) k_a9_1) := ⟨kr, kr, kr, kr, kr, kr⟩
theorem at_a9 : FnAt Tryz.prog tb fn_a9 c_a9 38 [] := fnAt_of tb_fs Tryz.func104 rfl (by kernel_rfl) (by kernel_rfl) rfl rfl
def k_b1_4 : CC := (.seq (.drawn r_b1_2 [ (3, 0) ]) .ret)
def k_b1_3 : CC := (.cond (tm 10) k_b1_4 .skip)
def k_b1_2 : CC := (.seq (.reg r_b1_1) k_b1_3)
def k_b1_5 : CC := (.seq (.drawn r_b1_3 [ (3, 0) , (8, 0) ]) .ret)
def k_b1_1 : CC := (.seq k_b1_2 k_b1_5)
def c_b1 : CC := (.seq (.reg r_b1_0) k_b1_1)
theorem o_b1 : Kq k_b1_4 (.seq (.drawn r_b1_2 [ (3, 0) ]) .ret) ∧
  Kq k_b1_3 (.cond (tm 10) k_b1_4 .skip) ∧
  Kq k_b1_2 (.seq (.reg r_b1_1) k_b1_3) ∧
  Kq k_b1_5 (.seq (.drawn r_b1_3 [ (3, 0) , (8, 0) ]) .ret) ∧
  Kq k_b1_1 (.seq k_b1_2 k_b1_5) ∧
  Kq c_b1 (.seq (.reg r_b1_0) k_b1_1) := ⟨kr, kr, kr, kr, kr, kr⟩
theorem at_b1 : FnAt Tryz.prog tb fn_b1 c_b1 27 [.tmp 4, .tmp 5] := fnAt_of tb_fs Tryz.func105 rfl (by kernel_rfl) (by kernel_rfl) rfl rfl
def k_a8_5 : CC := (.cond (tm 11) .skip (.exit 0))
def k_a8_9 : CC := (.reg r_a8_3)
def k_a8_8 : CC := (.seq (.reg r_a8_2) k_a8_9)
def k_a8_7 : CC := (.block 1 k_a8_8)
def k_a8_10 : CC := (.reg r_a8_4)
def k_a8_6 : CC := (.seq k_a8_7 k_a8_10)
def k_a8_4 : CC := (.seq k_a8_5 k_a8_6)
def k_a8_3 : CC := (.seq (.reg r_a8_1) k_a8_4)
def k_a8_2 : CC := (.loop k_a8_3)
def k_a8_1 : CC := (.block 0 k_a8_2)
def c_a8 : CC := (.seq (.reg r_a8_0) k_a8_1)
theorem o_a8 : Kq k_a8_5 (.cond (tm 11) .skip (.exit 0)) ∧
  Kq k_a8_9 (.reg r_a8_3) ∧
  Kq k_a8_8 (.seq (.reg r_a8_2) k_a8_9) ∧
  Kq k_a8_7 (.block 1 k_a8_8) ∧
  Kq k_a8_10 (.reg r_a8_4) ∧
  Kq k_a8_6 (.seq k_a8_7 k_a8_10) ∧
  Kq k_a8_4 (.seq k_a8_5 k_a8_6) ∧
  Kq k_a8_3 (.seq (.reg r_a8_1) k_a8_4) ∧
  Kq k_a8_2 (.loop k_a8_3) ∧
  Kq k_a8_1 (.block 0 k_a8_2) ∧
  Kq c_a8 (.seq (.reg r_a8_0) k_a8_1) := ⟨kr, kr, kr, kr, kr, kr, kr, kr, kr, kr, kr⟩
theorem at_a8 : FnAt Tryz.prog tb fn_a8 c_a8 20 [] := fnAt_of tb_fs Tryz.func107 rfl (by kernel_rfl) (by kernel_rfl) rfl rfl
def k_a7_3 : CC := (.seq (.reg r_a7_3) .ret)
def k_a7_2 : CC := (.seq (.reg r_a7_2) k_a7_3)
def k_a7_1 : CC := (.seq (.drawn r_a7_1 [ (3, 0) , (7, 0) ]) k_a7_2)
def c_a7 : CC := (.seq (.reg r_a7_0) k_a7_1)
theorem o_a7 : Kq k_a7_3 (.seq (.reg r_a7_3) .ret) ∧
  Kq k_a7_2 (.seq (.reg r_a7_2) k_a7_3) ∧
  Kq k_a7_1 (.seq (.drawn r_a7_1 [ (3, 0) , (7, 0) ]) k_a7_2) ∧
  Kq c_a7 (.seq (.reg r_a7_0) k_a7_1) := ⟨kr, kr, kr, kr⟩
theorem at_a7 : FnAt Tryz.prog tb fn_a7 c_a7 29 [.tmp 4] := fnAt_of tb_fs Tryz.func108 rfl (by kernel_rfl) (by kernel_rfl) rfl rfl
def k_e4_5 : CC := (.seq (.reg r_e4_3) .ret)
def k_e4_4 : CC := (.seq (.reg r_e4_2) k_e4_5)
def k_e4_3 : CC := (.cond (tm 18) k_e4_4 .skip)
def k_e4_2 : CC := (.seq (.reg r_e4_1) k_e4_3)
def k_e4_6 : CC := (.seq (.reg r_e4_4) .ret)
def k_e4_1 : CC := (.seq k_e4_2 k_e4_6)
def c_e4 : CC := (.seq (.reg r_e4_0) k_e4_1)
theorem o_e4 : Kq k_e4_5 (.seq (.reg r_e4_3) .ret) ∧
  Kq k_e4_4 (.seq (.reg r_e4_2) k_e4_5) ∧
  Kq k_e4_3 (.cond (tm 18) k_e4_4 .skip) ∧
  Kq k_e4_2 (.seq (.reg r_e4_1) k_e4_3) ∧
  Kq k_e4_6 (.seq (.reg r_e4_4) .ret) ∧
  Kq k_e4_1 (.seq k_e4_2 k_e4_6) ∧
  Kq c_e4 (.seq (.reg r_e4_0) k_e4_1) := ⟨kr, kr, kr, kr, kr, kr, kr⟩
theorem at_e4 : FnAt Tryz.prog tb fn_e4 c_e4 21 [.cell 8 ty_api_Inode, .tmp 9] := fnAt_of tb_fs Tryz.func109 rfl (by kernel_rfl) (by kernel_rfl) rfl rfl
def k_c7_5 : CC := (.seq (.reg r_c7_2) .ret)
def k_c7_8 : CC := (.seq (.reg r_c7_4) .ret)
def k_c7_7 : CC := (.cond (tm 6) k_c7_8 .skip)
def k_c7_6 : CC := (.seq (.reg r_c7_3) k_c7_7)
def k_c7_4 : CC := (.cond (tm 3) k_c7_5 k_c7_6)
def k_c7_3 : CC := (.seq (.reg r_c7_1) k_c7_4)
def k_c7_2 : CC := (.block 0 k_c7_3)
def k_c7_9 : CC := (.seq (.reg r_c7_5) .ret)
def k_c7_1 : CC := (.seq k_c7_2 k_c7_9)
def c_c7 : CC := (.seq (.reg r_c7_0) k_c7_1)
theorem o_c7 : Kq k_c7_5 (.seq (.reg r_c7_2) .ret) ∧
  Kq k_c7_8 (.seq (.reg r_c7_4) .ret) ∧
  Kq k_c7_7 (.cond (tm 6) k_c7_8 .skip) ∧
  Kq k_c7_6 (.seq (.reg r_c7_3) k_c7_7) ∧
  Kq k_c7_4 (.cond (tm 3) k_c7_5 k_c7_6) ∧
  Kq k_c7_3 (.seq (.reg r_c7_1) k_c7_4) ∧
  Kq k_c7_2 (.block 0 k_c7_3) ∧
  Kq k_c7_9 (.seq (.reg r_c7_5) .ret) ∧
  Kq k_c7_1 (.seq k_c7_2 k_c7_9) ∧
  Kq c_c7 (.seq (.reg r_c7_0) k_c7_1) := ⟨kr, kr, kr, kr, kr, kr, kr, kr, kr, kr⟩
theorem at_c7 : FnAt Tryz.prog tb fn_c7 c_c7 16 [.tmp 2] := fnAt_of tb_fs Tryz.func110 rfl (by kernel_rfl) (by kernel_rfl) rfl rfl
def k_a6_4 : CC := (.seq (.reg r_a6_2) .ret)
def k_a6_3 : CC := (.cond (tm 4) k_a6_4 .skip)
def k_a6_2 : CC := (.seq (.reg r_a6_1) k_a6_3)
def k_a6_5 : CC := (.seq (.reg r_a6_3) .ret)
def k_a6_1 : CC := (.seq k_a6_2 k_a6_5)
def c_a6 : CC := (.seq (.reg r_a6_0) k_a6_1)
theorem o_a6 : Kq k_a6_4 (.seq (.reg r_a6_2) .ret) ∧
  Kq k_a6_3 (.cond (tm 4) k_a6_4 .skip) ∧
  Kq k_a6_2 (.seq (.reg r_a6_1) k_a6_3) ∧
  Kq k_a6_5 (.seq (.reg r_a6_3) .ret) ∧
  Kq k_a6_1 (.seq k_a6_2 k_a6_5) ∧
  Kq c_a6 (.seq (.reg r_a6_0) k_a6_1) := ⟨kr, kr, kr, kr, kr, kr⟩
theorem at_a6 : FnAt Tryz.prog tb fn_a6 c_a6 8 [.tmp 2] := fnAt_of tb_fs Tryz.func120 rfl (by kernel_rfl) (by kernel_rfl) rfl rfl
def k_b7_4 : CC := (.seq (.reg r_b7_2) .ret)
def k_b7_3 : CC := (.cond (tm 7) k_b7_4 .skip)
def k_b7_2 : CC := (.seq (.reg r_b7_1) k_b7_3)
def k_b7_12 : CC := (.cond (tm 16) .skip (.exit 0))
def k_b7_16 : CC := (.reg r_b7_7)
def k_b7_15 : CC := (.seq (.reg r_b7_6) k_b7_16)
def k_b7_14 : CC := (.block 1 k_b7_15)
def k_b7_17 : CC := (.reg r_b7_8)
def k_b7_13 : CC := (.seq k_b7_14 k_b7_17)
def k_b7_11 : CC := (.seq k_b7_12 k_b7_13)
def k_b7_10 : CC := (.seq (.reg r_b7_5) k_b7_11)
def k_b7_9 : CC := (.loop k_b7_10)
def k_b7_8 : CC := (.block 0 k_b7_9)
def k_b7_7 : CC := (.seq (.reg r_b7_4) k_b7_8)
def k_b7_18 : CC := (.seq (.reg r_b7_9) .ret)
def k_b7_6 : CC := (.seq k_b7_7 k_b7_18)
def k_b7_5 : CC := (.seq (.reg r_b7_3) k_b7_6)
def k_b7_1 : CC := (.seq k_b7_2 k_b7_5)
def c_b7 : CC := (.seq (.reg r_b7_0) k_b7_1)
theorem o_b7 : Kq k_b7_4 (.seq (.reg r_b7_2) .ret) ∧
  Kq k_b7_3 (.cond (tm 7) k_b7_4 .skip) ∧
  Kq k_b7_2 (.seq (.reg r_b7_1) k_b7_3) ∧
  Kq k_b7_12 (.cond (tm 16) .skip (.exit 0)) ∧
  Kq k_b7_16 (.reg r_b7_7) ∧
  Kq k_b7_15 (.seq (.reg r_b7_6) k_b7_16) ∧
  Kq k_b7_14 (.block 1 k_b7_15) ∧
  Kq k_b7_17 (.reg r_b7_8) ∧
  Kq k_b7_13 (.seq k_b7_14 k_b7_17) ∧
  Kq k_b7_11 (.seq k_b7_12 k_b7_13) ∧
  Kq k_b7_10 (.seq (.reg r_b7_5) k_b7_11) ∧
  Kq k_b7_9 (.loop k_b7_10) ∧
  Kq k_b7_8 (.block 0 k_b7_9) ∧
  Kq k_b7_7 (.seq (.reg r_b7_4) k_b7_8) ∧
  Kq k_b7_18 (.seq (.reg r_b7_9) .ret) ∧
  Kq k_b7_6 (.seq k_b7_7 k_b7_18) ∧
  Kq k_b7_5 (.seq (.reg r_b7_3) k_b7_6) ∧
  Kq k_b7_1 (.seq k_b7_2 k_b7_5) ∧
  Kq c_b7 (.seq (.reg r_b7_0) k_b7_1) := ⟨kr, kr, kr, kr, kr, kr, kr, kr, kr, kr, kr, kr, kr, kr, kr, kr, kr, kr, kr⟩
theorem at_b7 : FnAt Tryz.prog tb fn_b7 c_b7 33 [.tmp 2] := fnAt_of tb_fs Tryz.func122 rfl (by kernel_rfl) (by kernel_rfl) rfl rfl
def k_b4_5 : CC := (.seq (.reg r_b4_2) .ret)
def k_b4_8 : CC := (.seq (.reg r_b4_4) .ret)
def k_b4_7 : CC := (.cond (tm 13) k_b4_8 .skip)
def k_b4_6 : CC := (.seq (.reg r_b4_3) k_b4_7)
def k_b4_4 : CC := (.cond (tm 10) k_b4_5 k_b4_6)
def k_b4_3 : CC := (.seq (.reg r_b4_1) k_b4_4)
def k_b4_2 : CC := (.block 0 k_b4_3)
def k_b4_13 : CC := (.seq (.reg r_b4_7) .ret)
def k_b4_12 : CC := (.cond (tm 34) k_b4_13 .skip)
def k_b4_11 : CC := (.seq (.reg r_b4_6) k_b4_12)
def k_b4_10 : CC := (.seq (.reg r_b4_5) k_b4_11)
def k_b4_18 : CC := (.seq (.reg r_b4_10) .ret)
def k_b4_17 : CC := (.cond (tm 43) k_b4_18 .skip)
def k_b4_16 : CC := (.seq (.reg r_b4_9) k_b4_17)
def k_b4_15 : CC := (.seq (.reg r_b4_8) k_b4_16)
def k_b4_19 : CC := (.seq (.reg r_b4_11) .ret)
def k_b4_14 : CC := (.seq k_b4_15 k_b4_19)
def k_b4_9 : CC := (.seq k_b4_10 k_b4_14)
def k_b4_1 : CC := (.seq k_b4_2 k_b4_9)
def c_b4 : CC := (.seq (.reg r_b4_0) k_b4_1)
theorem o_b4 : Kq k_b4_5 (.seq (.reg r_b4_2) .ret) ∧
  Kq k_b4_8 (.seq (.reg r_b4_4) .ret) ∧
  Kq k_b4_7 (.cond (tm 13) k_b4_8 .skip) ∧
  Kq k_b4_6 (.seq (.reg r_b4_3) k_b4_7) ∧
  Kq k_b4_4 (.cond (tm 10) k_b4_5 k_b4_6) ∧
  Kq k_b4_3 (.seq (.reg r_b4_1) k_b4_4) ∧
  Kq k_b4_2 (.block 0 k_b4_3) ∧
  Kq k_b4_13 (.seq (.reg r_b4_7) .ret) ∧
  Kq k_b4_12 (.cond (tm 34) k_b4_13 .skip) ∧
  Kq k_b4_11 (.seq (.reg r_b4_6) k_b4_12) ∧
  Kq k_b4_10 (.seq (.reg r_b4_5) k_b4_11) ∧
  Kq k_b4_18 (.seq (.reg r_b4_10) .ret) ∧
  Kq k_b4_17 (.cond (tm 43) k_b4_18 .skip) ∧
  Kq k_b4_16 (.seq (.reg r_b4_9) k_b4_17) ∧
  Kq k_b4_15 (.seq (.reg r_b4_8) k_b4_16) ∧
  Kq k_b4_19 (.seq (.reg r_b4_11) .ret) ∧
  Kq k_b4_14 (.seq k_b4_15 k_b4_19) ∧
  Kq k_b4_9 (.seq k_b4_10 k_b4_14) ∧
  Kq k_b4_1 (.seq k_b4_2 k_b4_9) ∧
  Kq c_b4 (.seq (.reg r_b4_0) k_b4_1) := ⟨kr, kr, kr, kr, kr, kr, kr, kr, kr, kr, kr, kr, kr, kr, kr, kr, kr, kr, kr, kr⟩
theorem at_b4 : FnAt Tryz.prog tb fn_b4 c_b4 53 [.tmp 4, .tmp 5] := fnAt_of tb_fs Tryz.func125 rfl (by kernel_rfl) (by kernel_rfl) rfl rfl
def k_c6_2 : CC := (.reg r_c6_2)
def k_c6_1 : CC := (.seq (.reg r_c6_1) k_c6_2)
def c_c6 : CC := (.seq (.reg r_c6_0) k_c6_1)
theorem o_c6 : Kq k_c6_2 (.reg r_c6_2) ∧
  Kq k_c6_1 (.seq (.reg r_c6_1) k_c6_2) ∧
  Kq c_c6 (.seq (.reg r_c6_0) k_c6_1) := ⟨kr, kr, kr⟩
theorem at_c6 : FnAt Tryz.prog tb fn_c6 c_c6 19 [] := fnAt_of tb_fs Tryz.func145 rfl (by kernel_rfl) (by kernel_rfl) rfl rfl
def k_e7_9 : CC := (.reg r_e7_4)
def k_e7_8 : CC := (.cond (tm 11) .skip k_e7_9)
def k_e7_7 : CC := (.seq (.reg r_e7_3) k_e7_8)
def k_e7_6 : CC := (.cond (tm 11) .skip k_e7_7)
def k_e7_5 : CC := (.seq (.reg r_e7_2) k_e7_6)
def k_e7_15 : CC := (.seq (.reg r_e7_7) .ret)
def k_e7_14 : CC := (.cond (tm 23) k_e7_15 .skip)
def k_e7_13 : CC := (.seq (.reg r_e7_6) k_e7_14)
def k_e7_16 : CC := (.seq (.reg r_e7_8) .ret)
def k_e7_12 : CC := (.seq k_e7_13 k_e7_16)
def k_e7_11 : CC := (.seq (.reg r_e7_5) k_e7_12)
def k_e7_10 : CC := (.cond (tm 11) k_e7_11 .skip)
def k_e7_4 : CC := (.seq k_e7_5 k_e7_10)
def k_e7_3 : CC := (.block 0 k_e7_4)
def k_e7_2 : CC := (.seq (.reg r_e7_1) k_e7_3)
def k_e7_17 : CC := (.seq (.reg r_e7_9) .ret)
def k_e7_1 : CC := (.seq k_e7_2 k_e7_17)
def c_e7 : CC := (.seq (.reg r_e7_0) k_e7_1)
theorem o_e7 : Kq k_e7_9 (.reg r_e7_4) ∧
  Kq k_e7_8 (.cond (tm 11) .skip k_e7_9) ∧
  Kq k_e7_7 (.seq (.reg r_e7_3) k_e7_8) ∧
  Kq k_e7_6 (.cond (tm 11) .skip k_e7_7) ∧
  Kq k_e7_5 (.seq (.reg r_e7_2) k_e7_6) ∧
  Kq k_e7_15 (.seq (.reg r_e7_7) .ret) ∧
  Kq k_e7_14 (.cond (tm 23) k_e7_15 .skip) ∧
  Kq k_e7_13 (.seq (.reg r_e7_6) k_e7_14) ∧
  Kq k_e7_16 (.seq (.reg r_e7_8) .ret) ∧
  Kq k_e7_12 (.seq k_e7_13 k_e7_16) ∧
  Kq k_e7_11 (.seq (.reg r_e7_5) k_e7_12) ∧
  Kq k_e7_10 (.cond (tm 11) k_e7_11 .skip) ∧
  Kq k_e7_4 (.seq k_e7_5 k_e7_10) ∧
  Kq k_e7_3 (.block 0 k_e7_4) ∧
  Kq k_e7_2 (.seq (.reg r_e7_1) k_e7_3) ∧
  Kq k_e7_17 (.seq (.reg r_e7_9) .ret) ∧
  Kq k_e7_1 (.seq k_e7_2 k_e7_17) ∧
  Kq c_e7 (.seq (.reg r_e7_0) k_e7_1) := ⟨kr, kr, kr, kr, kr, kr, kr, kr, kr, kr, kr, kr, kr, kr, kr, kr, kr, kr⟩
theorem at_e7 : FnAt Tryz.prog tb fn_e7 c_e7 25 [.tmp 6, .tmp 7] := fnAt_of tb_fs Tryz.func146 rfl (by kernel_rfl) (by kernel_rfl) rfl rfl
def k_a1_1 : CC := (.seq (.reg r_a1_1) .ret)
def c_a1 : CC := (.seq (.reg r_a1_0) k_a1_1)
theorem o_a1 : Kq k_a1_1 (.seq (.reg r_a1_1) .ret) ∧
  Kq c_a1 (.seq (.reg r_a1_0) k_a1_1) := ⟨kr, kr⟩
theorem at_a1 : FnAt Tryz.prog tb fn_a1 c_a1 4 [.tmp 2] := fnAt_of tb_fs Tryz.func147 rfl (by kernel_rfl) (by kernel_rfl) rfl rfl
def k_a4_5 : CC := (.seq (.reg r_a4_3) .ret)
def k_a4_4 : CC := (.cond (tm 24) k_a4_5 .skip)
def k_a4_3 : CC := (.seq (.reg r_a4_2) k_a4_4)
def k_a4_7 : CC := (.seq (.drawn r_a4_5 [ (2, 0) , (5, 0) ]) .ret)
def k_a4_6 : CC := (.seq (.reg r_a4_4) k_a4_7)
def k_a4_2 : CC := (.seq k_a4_3 k_a4_6)
def k_a4_1 : CC := (.seq (.drawn r_a4_1 [ (2, 0) , (5, 0) ]) k_a4_2)
def c_a4 : CC := (.seq (.reg r_a4_0) k_a4_1)
theorem o_a4 : Kq k_a4_5 (.seq (.reg r_a4_3) .ret) ∧
  Kq k_a4_4 (.cond (tm 24) k_a4_5 .skip) ∧
  Kq k_a4_3 (.seq (.reg r_a4_2) k_a4_4) ∧
  Kq k_a4_7 (.seq (.drawn r_a4_5 [ (2, 0) , (5, 0) ]) .ret) ∧
  Kq k_a4_6 (.seq (.reg r_a4_4) k_a4_7) ∧
  Kq k_a4_2 (.seq k_a4_3 k_a4_6) ∧
  Kq k_a4_1 (.seq (.drawn r_a4_1 [ (2, 0) , (5, 0) ]) k_a4_2) ∧
  Kq c_a4 (.seq (.reg r_a4_0) k_a4_1) := ⟨kr, kr, kr, kr, kr, kr, kr, kr⟩
theorem at_a4 : FnAt Tryz.prog tb fn_a4 c_a4 46 [.tmp 8] := fnAt_of tb_fs Tryz.func148 rfl (by kernel_rfl) (by kernel_rfl) rfl rfl
def k_cr_bits_First_0_4 : CC := (.seq (.reg r_d8_5) .ret)
def k_cr_bits_First_0_3 : CC := (.cond (tm 17) k_cr_bits_First_0_4 .skip)
def k_cr_bits_First_0_2 : CC := (.seq (.reg r_d8_4) k_cr_bits_First_0_3)
def k_cr_bits_First_0_7 : CC := (.cond (tm 20) (.goto 1) .skip)
def k_cr_bits_First_0_6 : CC := (.seq (.reg r_d8_6) k_cr_bits_First_0_7)
def k_cr_bits_First_0_12 : CC := (.seq (.reg r_d8_8) .ret)
def k_cr_bits_First_0_11 : CC := (.cond (tm 30) k_cr_bits_First_0_12 .skip)
def k_cr_bits_First_0_10 : CC := (.seq (.reg r_d8_7) k_cr_bits_First_0_11)
def k_cr_bits_First_0_18 : CC := (.cond (tm 39) (.goto 2) .skip)
def k_cr_bits_First_0_17 : CC := (.seq (.reg r_d8_10) k_cr_bits_First_0_18)
def k_cr_bits_First_0_19 : CC := (.seq (.reg r_d8_11) (.goto 0))
def k_cr_bits_First_0_16 : CC := (.seq k_cr_bits_First_0_17 k_cr_bits_First_0_19)
def k_cr_bits_First_0_15 : CC := (.seq .skip k_cr_bits_First_0_16)
def k_cr_bits_First_0_14 : CC := (.seq (.goto 0) k_cr_bits_First_0_15)
def k_cr_bits_First_0_13 : CC := (.seq (.reg r_d8_9) k_cr_bits_First_0_14)
def k_cr_bits_First_0_9 : CC := (.seq k_cr_bits_First_0_10 k_cr_bits_First_0_13)
def k_cr_bits_First_0_8 : CC := (.seq .skip k_cr_bits_First_0_9)
def k_cr_bits_First_0_5 : CC := (.seq k_cr_bits_First_0_6 k_cr_bits_First_0_8)
def k_cr_bits_First_0_1 : CC := (.seq k_cr_bits_First_0_2 k_cr_bits_First_0_5)
theorem o_cr_bits_First_0 : Kq k_cr_bits_First_0_4 (.seq (.reg r_d8_5) .ret) ∧
  Kq k_cr_bits_First_0_3 (.cond (tm 17) k_cr_bits_First_0_4 .skip) ∧
  Kq k_cr_bits_First_0_2 (.seq (.reg r_d8_4) k_cr_bits_First_0_3) ∧
  Kq k_cr_bits_First_0_7 (.cond (tm 20) (.goto 1) .skip) ∧
  Kq k_cr_bits_First_0_6 (.seq (.reg r_d8_6) k_cr_bits_First_0_7) ∧
  Kq k_cr_bits_First_0_12 (.seq (.reg r_d8_8) .ret) ∧
  Kq k_cr_bits_First_0_11 (.cond (tm 30) k_cr_bits_First_0_12 .skip) ∧
  Kq k_cr_bits_First_0_10 (.seq (.reg r_d8_7) k_cr_bits_First_0_11) ∧
  Kq k_cr_bits_First_0_18 (.cond (tm 39) (.goto 2) .skip) ∧
  Kq k_cr_bits_First_0_17 (.seq (.reg r_d8_10) k_cr_bits_First_0_18) ∧
  Kq k_cr_bits_First_0_19 (.seq (.reg r_d8_11) (.goto 0)) ∧
  Kq k_cr_bits_First_0_16 (.seq k_cr_bits_First_0_17 k_cr_bits_First_0_19) ∧
  Kq k_cr_bits_First_0_15 (.seq .skip k_cr_bits_First_0_16) ∧
  Kq k_cr_bits_First_0_14 (.seq (.goto 0) k_cr_bits_First_0_15) ∧
  Kq k_cr_bits_First_0_13 (.seq (.reg r_d8_9) k_cr_bits_First_0_14) ∧
  Kq k_cr_bits_First_0_9 (.seq k_cr_bits_First_0_10 k_cr_bits_First_0_13) ∧
  Kq k_cr_bits_First_0_8 (.seq .skip k_cr_bits_First_0_9) ∧
  Kq k_cr_bits_First_0_5 (.seq k_cr_bits_First_0_6 k_cr_bits_First_0_8) ∧
  Kq k_cr_bits_First_0_1 (.seq k_cr_bits_First_0_2 k_cr_bits_First_0_5) ∧
  Kq cr_bits_First_0 (.seq .skip k_cr_bits_First_0_1) := ⟨kr, kr, kr, kr, kr, kr, kr, kr, kr, kr, kr, kr, kr, kr, kr, kr, kr, kr, kr, kr⟩
def k_cr_bits_First_2_4 : CC := (.seq (.reg r_d8_8) .ret)
def k_cr_bits_First_2_3 : CC := (.cond (tm 30) k_cr_bits_First_2_4 .skip)
def k_cr_bits_First_2_2 : CC := (.seq (.reg r_d8_7) k_cr_bits_First_2_3)
def k_cr_bits_First_2_10 : CC := (.cond (tm 39) (.goto 2) .skip)
def k_cr_bits_First_2_9 : CC := (.seq (.reg r_d8_10) k_cr_bits_First_2_10)
def k_cr_bits_First_2_11 : CC := (.seq (.reg r_d8_11) (.goto 0))
def k_cr_bits_First_2_8 : CC := (.seq k_cr_bits_First_2_9 k_cr_bits_First_2_11)
def k_cr_bits_First_2_7 : CC := (.seq .skip k_cr_bits_First_2_8)
def k_cr_bits_First_2_6 : CC := (.seq (.goto 0) k_cr_bits_First_2_7)
def k_cr_bits_First_2_5 : CC := (.seq (.reg r_d8_9) k_cr_bits_First_2_6)
def k_cr_bits_First_2_1 : CC := (.seq k_cr_bits_First_2_2 k_cr_bits_First_2_5)
theorem o_cr_bits_First_2 : Kq k_cr_bits_First_2_4 (.seq (.reg r_d8_8) .ret) ∧
  Kq k_cr_bits_First_2_3 (.cond (tm 30) k_cr_bits_First_2_4 .skip) ∧
  Kq k_cr_bits_First_2_2 (.seq (.reg r_d8_7) k_cr_bits_First_2_3) ∧
  Kq k_cr_bits_First_2_10 (.cond (tm 39) (.goto 2) .skip) ∧
  Kq k_cr_bits_First_2_9 (.seq (.reg r_d8_10) k_cr_bits_First_2_10) ∧
  Kq k_cr_bits_First_2_11 (.seq (.reg r_d8_11) (.goto 0)) ∧
  Kq k_cr_bits_First_2_8 (.seq k_cr_bits_First_2_9 k_cr_bits_First_2_11) ∧
  Kq k_cr_bits_First_2_7 (.seq .skip k_cr_bits_First_2_8) ∧
  Kq k_cr_bits_First_2_6 (.seq (.goto 0) k_cr_bits_First_2_7) ∧
  Kq k_cr_bits_First_2_5 (.seq (.reg r_d8_9) k_cr_bits_First_2_6) ∧
  Kq k_cr_bits_First_2_1 (.seq k_cr_bits_First_2_2 k_cr_bits_First_2_5) ∧
  Kq cr_bits_First_2 (.seq .skip k_cr_bits_First_2_1) := ⟨kr, kr, kr, kr, kr, kr, kr, kr, kr, kr, kr, kr⟩
def k_cr_bits_First_1_3 : CC := (.cond (tm 39) (.goto 2) .skip)
def k_cr_bits_First_1_2 : CC := (.seq (.reg r_d8_10) k_cr_bits_First_1_3)
def k_cr_bits_First_1_4 : CC := (.seq (.reg r_d8_11) (.goto 0))
def k_cr_bits_First_1_1 : CC := (.seq k_cr_bits_First_1_2 k_cr_bits_First_1_4)
theorem o_cr_bits_First_1 : Kq k_cr_bits_First_1_3 (.cond (tm 39) (.goto 2) .skip) ∧
  Kq k_cr_bits_First_1_2 (.seq (.reg r_d8_10) k_cr_bits_First_1_3) ∧
  Kq k_cr_bits_First_1_4 (.seq (.reg r_d8_11) (.goto 0)) ∧
  Kq k_cr_bits_First_1_1 (.seq k_cr_bits_First_1_2 k_cr_bits_First_1_4) ∧
  Kq cr_bits_First_1 (.seq .skip k_cr_bits_First_1_1) := ⟨kr, kr, kr, kr, kr⟩
def c_d8 : CC := (.seq (.reg r_d8_0) (.scope b_bits_First))
theorem o_d8 : Kq c_d8 (.seq (.reg r_d8_0) (.scope b_bits_First)) := kr
theorem at_d8 : FnAt Tryz.prog tb fn_d8 c_d8 42 [.tmp 6, .tmp 7] := fnAt_of tb_fs Tryz.func149 rfl (by kernel_rfl) (by kernel_rfl) rfl rfl
def k_e1_1 : CC := (.seq (.reg r_e1_1) .ret)
def c_e1 : CC := (.seq (.reg r_e1_0) k_e1_1)
theorem o_e1 : Kq k_e1_1 (.seq (.reg r_e1_1) .ret) ∧
  Kq c_e1 (.seq (.reg r_e1_0) k_e1_1) := ⟨kr, kr⟩
theorem at_e1 : FnAt Tryz.prog tb fn_e1 c_e1 10 [.tmp 4] := fnAt_of tb_fs Tryz.func153 rfl (by kernel_rfl) (by kernel_rfl) rfl rfl
def k_b6_1 : CC := (.seq (.reg r_b6_1) .ret)
def c_b6 : CC := (.seq (.reg r_b6_0) k_b6_1)
theorem o_b6 : Kq k_b6_1 (.seq (.reg r_b6_1) .ret) ∧
  Kq c_b6 (.seq (.reg r_b6_0) k_b6_1) := ⟨kr, kr⟩
theorem at_b6 : FnAt Tryz.prog tb fn_b6 c_b6 4 [.tmp 2] := fnAt_of tb_fs Tryz.func167 rfl (by kernel_rfl) (by kernel_rfl) rfl rfl
def k_b9_1 : CC := (.seq (.reg r_b9_1) .ret)
def c_b9 : CC := (.seq (.reg r_b9_0) k_b9_1)
theorem o_b9 : Kq k_b9_1 (.seq (.reg r_b9_1) .ret) ∧
  Kq c_b9 (.seq (.reg r_b9_0) k_b9_1) := ⟨kr, kr⟩
theorem at_b9 : FnAt Tryz.prog tb fn_b9 c_b9 7 [.tmp 2] := fnAt_of tb_fs Tryz.func170 rfl (by kernel_rfl) (by kernel_rfl) rfl rfl
def k_c0_1 : CC := (.seq (.reg r_c0_1) .ret)
def c_c0 : CC := (.seq (.reg r_c0_0) k_c0_1)
theorem o_c0 : Kq k_c0_1 (.seq (.reg r_c0_1) .ret) ∧
  Kq c_c0 (.seq (.reg r_c0_0) k_c0_1) := ⟨kr, kr⟩
theorem at_c0 : FnAt Tryz.prog tb fn_c0 c_c0 5 [.tmp 2] := fnAt_of tb_fs Tryz.func171 rfl (by kernel_rfl) (by kernel_rfl) rfl rfl
def k_e8_4 : CC := (.seq (.reg r_e8_2) .ret)
def k_e8_3 : CC := (.cond (tm 27) k_e8_4 .skip)
def k_e8_2 : CC := (.seq (.reg r_e8_1) k_e8_3)
def k_e8_5 : CC := (.seq (.reg r_e8_3) .ret)
def k_e8_1 : CC := (.seq k_e8_2 k_e8_5)
def c_e8 : CC := (.seq (.reg r_e8_0) k_e8_1)
theorem o_e8 : Kq k_e8_4 (.seq (.reg r_e8_2) .ret) ∧
  Kq k_e8_3 (.cond (tm 27) k_e8_4 .skip) ∧
  Kq k_e8_2 (.seq (.reg r_e8_1) k_e8_3) ∧
  Kq k_e8_5 (.seq (.reg r_e8_3) .ret) ∧
  Kq k_e8_1 (.seq k_e8_2 k_e8_5) ∧
  Kq c_e8 (.seq (.reg r_e8_0) k_e8_1) := ⟨kr, kr, kr, kr, kr, kr⟩
theorem at_e8 : FnAt Tryz.prog tb fn_e8 c_e8 34 [.tmp 6, .tmp 7] := fnAt_of tb_fs Tryz.func191 rfl (by kernel_rfl) (by kernel_rfl) rfl rfl
def k_a2_5 : CC := (.cond (tm 8) .skip (.exit 0))
def k_a2_4 : CC := (.seq (.reg r_a2_1) k_a2_5)
def k_a2_9 : CC := (.cond (tm 18) .ret .skip)
def k_a2_8 : CC := (.seq (.reg r_a2_3) k_a2_9)
def k_a2_7 : CC := (.block 1 k_a2_8)
def k_a2_10 : CC := (.reg r_a2_2)
def k_a2_6 : CC := (.seq k_a2_7 k_a2_10)
def k_a2_3 : CC := (.seq k_a2_4 k_a2_6)
def k_a2_2 : CC := (.loop k_a2_3)
def k_a2_1 : CC := (.block 0 k_a2_2)
def c_a2 : CC := (.seq (.reg r_a2_0) k_a2_1)
theorem o_a2 : Kq k_a2_5 (.cond (tm 8) .skip (.exit 0)) ∧
  Kq k_a2_4 (.seq (.reg r_a2_1) k_a2_5) ∧
  Kq k_a2_9 (.cond (tm 18) .ret .skip) ∧
  Kq k_a2_8 (.seq (.reg r_a2_3) k_a2_9) ∧
  Kq k_a2_7 (.block 1 k_a2_8) ∧
  Kq k_a2_10 (.reg r_a2_2) ∧
  Kq k_a2_6 (.seq k_a2_7 k_a2_10) ∧
  Kq k_a2_3 (.seq k_a2_4 k_a2_6) ∧
  Kq k_a2_2 (.loop k_a2_3) ∧
  Kq k_a2_1 (.block 0 k_a2_2) ∧
  Kq c_a2 (.seq (.reg r_a2_0) k_a2_1) := ⟨kr, kr, kr, kr, kr, kr, kr, kr, kr, kr, kr⟩
theorem at_a2 : FnAt Tryz.prog tb fn_a2 c_a2 19 [] := fnAt_of tb_fs Tryz.func192 rfl (by kernel_rfl) (by kernel_rfl) rfl rfl
def k_d9_4 : CC := (.seq (.reg r_d9_2) .ret)
def k_d9_3 : CC := (.cond (tm 17) k_d9_4 .skip)
def k_d9_2 : CC := (.seq (.reg r_d9_1) k_d9_3)
def k_d9_9 : CC := (.drawn r_d9_5 [ (4, 0) ])
def k_d9_10 : CC := (.drawn r_d9_6 [ (4, 0) ])
def k_d9_8 : CC := (.cond (tm 20) k_d9_9 k_d9_10)
def k_d9_7 : CC := (.seq (.reg r_d9_4) k_d9_8)
def k_d9_11 : CC := (.seq (.reg r_d9_7) .ret)
def k_d9_6 : CC := (.seq k_d9_7 k_d9_11)
def k_d9_5 : CC := (.seq (.reg r_d9_3) k_d9_6)
def k_d9_1 : CC := (.seq k_d9_2 k_d9_5)
def c_d9 : CC := (.seq (.reg r_d9_0) k_d9_1)
theorem o_d9 : Kq k_d9_4 (.seq (.reg r_d9_2) .ret) ∧
  Kq k_d9_3 (.cond (tm 17) k_d9_4 .skip) ∧
  Kq k_d9_2 (.seq (.reg r_d9_1) k_d9_3) ∧
  Kq k_d9_9 (.drawn r_d9_5 [ (4, 0) ]) ∧
  Kq k_d9_10 (.drawn r_d9_6 [ (4, 0) ]) ∧
  Kq k_d9_8 (.cond (tm 20) k_d9_9 k_d9_10) ∧
  Kq k_d9_7 (.seq (.reg r_d9_4) k_d9_8) ∧
  Kq k_d9_11 (.seq (.reg r_d9_7) .ret) ∧
  Kq k_d9_6 (.seq k_d9_7 k_d9_11) ∧
  Kq k_d9_5 (.seq (.reg r_d9_3) k_d9_6) ∧
  Kq k_d9_1 (.seq k_d9_2 k_d9_5) ∧
  Kq c_d9 (.seq (.reg r_d9_0) k_d9_1) := ⟨kr, kr, kr, kr, kr, kr, kr, kr, kr, kr, kr, kr⟩
theorem at_d9 : FnAt Tryz.prog tb fn_d9 c_d9 42 [.tmp 6, .tmp 7] := fnAt_of tb_fs Tryz.func193 rfl (by kernel_rfl) (by kernel_rfl) rfl rfl
def k_e0_1 : CC := (.seq (.reg r_e0_1) .ret)
def c_e0 : CC := (.seq (.reg r_e0_0) k_e0_1)
theorem o_e0 : Kq k_e0_1 (.seq (.reg r_e0_1) .ret) ∧
  Kq c_e0 (.seq (.reg r_e0_0) k_e0_1) := ⟨kr, kr⟩
theorem at_e0 : FnAt Tryz.prog tb fn_e0 c_e0 21 [.tmp 6] := fnAt_of tb_fs Tryz.func194 rfl (by kernel_rfl) (by kernel_rfl) rfl rfl
end
end Go.Proofs.YtooooiidpaecmaaGreat
