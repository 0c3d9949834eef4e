import Derived.Test.YtcbafpfljencdaaPcC
set_option linter.unusedSimpArgs false
namespace Go.Proofs.Ytcbafpfljencdaa
open Go Go.Am Pl

theorem len1 (a : AV) : [a].length = 1 := rfl
set_option maxHeartbeats 2000000 in
theorem insert_spec {m : M} {d : Nat} {D : Doc} {xt xp xu : AV} {bt bp bu : Option Nat} {a c : Nat} {t : Bs} (hw : Wf m) (h : DocAt m d D xt xp xu bt bp bu) (hg : Good D c) (ha : a ≤ D.size) (hc : c ≤ 3900000000000) (ht : D.size + t.length ≤ 65536) {Q : AV → M → Prop}
    (hQ0 : ∀ m' xt' xp' bt' bp', DocAt m' d (insD D a t) xt' xp' xu bt' bp' bu → Keep m m' (fun b => b = d ∨ bt = some b ∨ bp = some b) → Fs m bt bt' → Fs m bp bp' → Q (.tuple []) m') : WpF Try.prog tb 25 [.ptr d 0, iv a, tv t] m Q := by
  have hnt := hg.nt
  have hpl := len_le hg.va
  have hsz : D.size = (txt D.texts D.pcs).length := hg.size
  refine WpF_intro at25 rfl rfl ?_
  unfold c25
  refine WpC_seq (C_sr fun Q' hQ => ?_)
  by_cases h0 : t = []
  · subst h0
    simp only [r25_0, WpO_op, WpO_opG, WpO_call, WpO_callW, WpOCG_true, WpOCG_false, WpT_callG, WpTCG_true, WpTCG_false, WpO_nil, WpON_some, WpOG_true, WpOG_false, WpT_op, WpT_opG, WpT_call, WpT_nil, WpTN_some, WpTG_true, WpTG_false, o_mv, o_pick, o_alloc, o_box, o_build, o_bslice, o_load, o_loadN, o_store, o_nil, o_add, o_sub, o_mul, o_quo, o_rem, o_lt, o_le, o_gt, o_ge, o_eq, o_ne, o_eqp, o_un, o_sls, o_take, o_drop, o_fa, o_iaS, o_ext, o_len, o_app, o_toU, o_frU, o_usd, o_ust, o_min, o_max, v_elB, v_elPtr, v_elTup, v_elAgg, v_ob, v_rto, v_nil, v_eqp_n, v_eqp_nn, v_eqp_same, v_not, v_fa, v_min, v_max, b_lt, b_le, b_gt, b_ge, b_eq, b_ne, bs_eq, bs_ne, len_tv, len_sl, len_nils, cells_iv, cells_tv, cells_agg, cells_ptr, cells_b, cells_nilp, pv_nil, pv_cons, fillA_nil, fillA_cons, repl_1, repl_2, ev_tm, ev_cst, evs_cons, evs_nil, evo_some, evo_none, putD_none, putD_some, fill_cons, fill_nil, want_b, want_undef, bc_true, bc_false, nbeq, nble, one_0, one_1, one_2, reduceIte, Nat.reduceEqDiff, Nat.reduceAdd, Nat.reduceSub, Nat.reduceMul, Nat.reduceLeDiff, List.length_cons, List.length_nil, Nat.zero_add, decide_true, decide_false, Bool.true_and, Bool.and_true, Bool.and_self, Bool.not_true, Bool.not_false, List.take_succ_cons, List.take_zero, List.drop_succ_cons, List.drop_zero, List.drop_nil, List.take_nil, List.nil_append, List.cons_append, List.append_nil, List.getElem?_cons_succ, List.getElem?_cons_zero]
    refine hQ _ _ (WpC_cond (t := true) ?_ (WpC_ret ⟨.inr rfl, _, ares0, ?_⟩))
    · simp only [WpO_op, WpO_opG, WpO_call, WpO_callW, WpOCG_true, WpOCG_false, WpT_callG, WpTCG_true, WpTCG_false, WpO_nil, WpON_some, WpOG_true, WpOG_false, WpT_op, WpT_opG, WpT_call, WpT_nil, WpTN_some, WpTG_true, WpTG_false, o_mv, o_pick, o_alloc, o_box, o_build, o_bslice, o_load, o_loadN, o_store, o_nil, o_add, o_sub, o_mul, o_quo, o_rem, o_lt, o_le, o_gt, o_ge, o_eq, o_ne, o_eqp, o_un, o_sls, o_take, o_drop, o_fa, o_iaS, o_ext, o_len, o_app, o_toU, o_frU, o_usd, o_ust, o_min, o_max, v_elB, v_elPtr, v_elTup, v_elAgg, v_ob, v_rto, v_nil, v_eqp_n, v_eqp_nn, v_eqp_same, v_not, v_fa, v_min, v_max, b_lt, b_le, b_gt, b_ge, b_eq, b_ne, bs_eq, bs_ne, len_tv, len_sl, len_nils, cells_iv, cells_tv, cells_agg, cells_ptr, cells_b, cells_nilp, pv_nil, pv_cons, fillA_nil, fillA_cons, repl_1, repl_2, ev_tm, ev_cst, evs_cons, evs_nil, evo_some, evo_none, putD_none, putD_some, fill_cons, fill_nil, want_b, want_undef, bc_true, bc_false, nbeq, nble, one_0, one_1, one_2, reduceIte, Nat.reduceEqDiff, Nat.reduceAdd, Nat.reduceSub, Nat.reduceMul, Nat.reduceLeDiff, List.length_cons, List.length_nil, Nat.zero_add, decide_true, decide_false, Bool.true_and, Bool.and_true, Bool.and_self, Bool.not_true, Bool.not_false, List.take_succ_cons, List.take_zero, List.drop_succ_cons, List.drop_zero, List.drop_nil, List.take_nil, List.nil_append, List.cons_append, List.append_nil, List.getElem?_cons_succ, List.getElem?_cons_zero]
    have e : insD D a [] = D := by unfold insD; rw [if_pos rfl]
    rw [e] at hQ0
    exact hQ0 m xt xp bt bp h (Keep.refl hw _) (.inl rfl) (.inl rfl)
  · simp only [r25_0, h0, WpO_op, WpO_opG, WpO_call, WpO_callW, WpOCG_true, WpOCG_false, WpT_callG, WpTCG_true, WpTCG_false, WpO_nil, WpON_some, WpOG_true, WpOG_false, WpT_op, WpT_opG, WpT_call, WpT_nil, WpTN_some, WpTG_true, WpTG_false, o_mv, o_pick, o_alloc, o_box, o_build, o_bslice, o_load, o_loadN, o_store, o_nil, o_add, o_sub, o_mul, o_quo, o_rem, o_lt, o_le, o_gt, o_ge, o_eq, o_ne, o_eqp, o_un, o_sls, o_take, o_drop, o_fa, o_iaS, o_ext, o_len, o_app, o_toU, o_frU, o_usd, o_ust, o_min, o_max, v_elB, v_elPtr, v_elTup, v_elAgg, v_ob, v_rto, v_nil, v_eqp_n, v_eqp_nn, v_eqp_same, v_not, v_fa, v_min, v_max, b_lt, b_le, b_gt, b_ge, b_eq, b_ne, bs_eq, bs_ne, len_tv, len_sl, len_nils, cells_iv, cells_tv, cells_agg, cells_ptr, cells_b, cells_nilp, pv_nil, pv_cons, fillA_nil, fillA_cons, repl_1, repl_2, ev_tm, ev_cst, evs_cons, evs_nil, evo_some, evo_none, putD_none, putD_some, fill_cons, fill_nil, want_b, want_undef, bc_true, bc_false, nbeq, nble, one_0, one_1, one_2, reduceIte, Nat.reduceEqDiff, Nat.reduceAdd, Nat.reduceSub, Nat.reduceMul, Nat.reduceLeDiff, List.length_cons, List.length_nil, Nat.zero_add, decide_true, decide_false, Bool.true_and, Bool.and_true, Bool.and_self, Bool.not_true, Bool.not_false, List.take_succ_cons, List.take_zero, List.drop_succ_cons, List.drop_zero, List.drop_nil, List.take_nil, List.nil_append, List.cons_append, List.append_nil, List.getElem?_cons_succ, List.getElem?_cons_zero]
    refine hQ _ _ (WpC_cond (t := false) ?_ (WpC_skip ?_))
    · simp only [WpO_op, WpO_opG, WpO_call, WpO_callW, WpOCG_true, WpOCG_false, WpT_callG, WpTCG_true, WpTCG_false, WpO_nil, WpON_some, WpOG_true, WpOG_false, WpT_op, WpT_opG, WpT_call, WpT_nil, WpTN_some, WpTG_true, WpTG_false, o_mv, o_pick, o_alloc, o_box, o_build, o_bslice, o_load, o_loadN, o_store, o_nil, o_add, o_sub, o_mul, o_quo, o_rem, o_lt, o_le, o_gt, o_ge, o_eq, o_ne, o_eqp, o_un, o_sls, o_take, o_drop, o_fa, o_iaS, o_ext, o_len, o_app, o_toU, o_frU, o_usd, o_ust, o_min, o_max, v_elB, v_elPtr, v_elTup, v_elAgg, v_ob, v_rto, v_nil, v_eqp_n, v_eqp_nn, v_eqp_same, v_not, v_fa, v_min, v_max, b_lt, b_le, b_gt, b_ge, b_eq, b_ne, bs_eq, bs_ne, len_tv, len_sl, len_nils, cells_iv, cells_tv, cells_agg, cells_ptr, cells_b, cells_nilp, pv_nil, pv_cons, fillA_nil, fillA_cons, repl_1, repl_2, ev_tm, ev_cst, evs_cons, evs_nil, evo_some, evo_none, putD_none, putD_some, fill_cons, fill_nil, want_b, want_undef, bc_true, bc_false, nbeq, nble, one_0, one_1, one_2, reduceIte, Nat.reduceEqDiff, Nat.reduceAdd, Nat.reduceSub, Nat.reduceMul, Nat.reduceLeDiff, List.length_cons, List.length_nil, Nat.zero_add, decide_true, decide_false, Bool.true_and, Bool.and_true, Bool.and_self, Bool.not_true, Bool.not_false, List.take_succ_cons, List.take_zero, List.drop_succ_cons, List.drop_zero, List.drop_nil, List.take_nil, List.nil_append, List.cons_append, List.append_nil, List.getElem?_cons_succ, List.getElem?_cons_zero]
    clear hQ
    refine C_sr fun Q' hQ => ?_
    simp only [r25_1, WpO_op, WpO_opG, WpO_call, WpO_callW, WpOCG_true, WpOCG_false, WpT_callG, WpTCG_true, WpTCG_false, WpO_nil, WpON_some, WpOG_true, WpOG_false, WpT_op, WpT_opG, WpT_call, WpT_nil, WpTN_some, WpTG_true, WpTG_false, o_mv, o_pick, o_alloc, o_box, o_build, o_bslice, o_load, o_loadN, o_store, o_nil, o_add, o_sub, o_mul, o_quo, o_rem, o_lt, o_le, o_gt, o_ge, o_eq, o_ne, o_eqp, o_un, o_sls, o_take, o_drop, o_fa, o_iaS, o_ext, o_len, o_app, o_toU, o_frU, o_usd, o_ust, o_min, o_max, v_elB, v_elPtr, v_elTup, v_elAgg, v_ob, v_rto, v_nil, v_eqp_n, v_eqp_nn, v_eqp_same, v_not, v_fa, v_min, v_max, b_lt, b_le, b_gt, b_ge, b_eq, b_ne, bs_eq, bs_ne, len_tv, len_sl, len_nils, cells_iv, cells_tv, cells_agg, cells_ptr, cells_b, cells_nilp, pv_nil, pv_cons, fillA_nil, fillA_cons, repl_1, repl_2, ev_tm, ev_cst, evs_cons, evs_nil, evo_some, evo_none, putD_none, putD_some, fill_cons, fill_nil, want_b, want_undef, bc_true, bc_false, nbeq, nble, one_0, one_1, one_2, reduceIte, Nat.reduceEqDiff, Nat.reduceAdd, Nat.reduceSub, Nat.reduceMul, Nat.reduceLeDiff, List.length_cons, List.length_nil, Nat.zero_add, decide_true, decide_false, Bool.true_and, Bool.and_true, Bool.and_self, Bool.not_true, Bool.not_false, List.take_succ_cons, List.take_zero, List.drop_succ_cons, List.drop_zero, List.drop_nil, List.take_nil, List.nil_append, List.cons_append, List.append_nil, List.getElem?_cons_succ, List.getElem?_cons_zero]
    refine WpOC.to (split_spec hw h hg.va (by omega) (by have := hg.big; omega) hg.of fun m1 xp1 bp1 hd1 hk1 hb1 => ?_)
    have hsl := split_le (a := a) hg.va
    have hb1 : Fs m bp bp1 := hb1
    simp only [WpO_op, WpO_opG, WpO_call, WpO_callW, WpOCG_true, WpOCG_false, WpT_callG, WpTCG_true, WpTCG_false, WpO_nil, WpON_some, WpOG_true, WpOG_false, WpT_op, WpT_opG, WpT_call, WpT_nil, WpTN_some, WpTG_true, WpTG_false, o_mv, o_pick, o_alloc, o_box, o_build, o_bslice, o_load, o_loadN, o_store, o_nil, o_add, o_sub, o_mul, o_quo, o_rem, o_lt, o_le, o_gt, o_ge, o_eq, o_ne, o_eqp, o_un, o_sls, o_take, o_drop, o_fa, o_iaS, o_ext, o_len, o_app, o_toU, o_frU, o_usd, o_ust, o_min, o_max, v_elB, v_elPtr, v_elTup, v_elAgg, v_ob, v_rto, v_nil, v_eqp_n, v_eqp_nn, v_eqp_same, v_not, v_fa, v_min, v_max, b_lt, b_le, b_gt, b_ge, b_eq, b_ne, bs_eq, bs_ne, len_tv, len_sl, len_nils, cells_iv, cells_tv, cells_agg, cells_ptr, cells_b, cells_nilp, pv_nil, pv_cons, fillA_nil, fillA_cons, repl_1, repl_2, ev_tm, ev_cst, evs_cons, evs_nil, evo_some, evo_none, putD_none, putD_some, fill_cons, fill_nil, want_b, want_undef, bc_true, bc_false, nbeq, nble, one_0, one_1, one_2, reduceIte, Nat.reduceEqDiff, Nat.reduceAdd, Nat.reduceSub, Nat.reduceMul, Nat.reduceLeDiff, List.length_cons, List.length_nil, Nat.zero_add, decide_true, decide_false, Bool.true_and, Bool.and_true, Bool.and_self, Bool.not_true, Bool.not_false, List.take_succ_cons, List.take_zero, List.drop_succ_cons, List.drop_zero, List.drop_nil, List.take_nil, List.nil_append, List.cons_append, List.append_nil, List.getElem?_cons_succ, List.getElem?_cons_zero]
    refine hQ _ _ ?_
    clear hQ
    have hw1 := hk1.wf
    -- the texts
    have hk2 : Keep m1 (m1.addL 9 1 [tv t]) fun _ => False := Keep.addL hw1
    have hw2 := hk2.wf
    have hd2 := hd1.keep0 hw1 hk2
    have hs2 : SlAt (m1.addL 9 1 [tv t]) 9 1 (.slice m1.next 0 1 1 false) 1 [tv t] (some m1.next) := SlAt.lit rfl rfl (by omega)
    obtain ⟨s3, m3, o3, ha3, hs3, hk3, ho3⟩ := hd2.texts.append (bytes := 16) (z := [tv []]) hw2 hs2.src (room_of (by show D.texts.length + 1 ≤ _; omega) (by omega))
    have ho3 : Fs (m1.addL 9 1 [tv t]) bt o3 := by rcases ho3 with rfl | ⟨b, hb, hb', _⟩; exact .inl rfl; exact .inr ⟨b, hb, hb'⟩
    have hw3 := hk3.wf
    have hdl2 := hd2.doc.lt hw2
    have hdoc3 := hd2.doc.keep hw2 hk3 hd2.nt
    have hp3 := hd2.pcs.keep hw2 hk3 fun b hb h => hd2.tp b h hb
    have hu3 := hd2.und.keep hw2 hk3 fun b hb h => hd2.tu b h hb
    have hd4 : DocAt (m3.upd d 0 [s3]) d { D with texts := D.texts ++ [t], pcs := (split D.pcs a).1 } s3 xp1 xu o3 bp1 bu := by
      refine DocAt.store hdoc3 (by show 0 + 1 ≤ 4; omega) rfl (hs3.cast (by simp) (by simp)) hp3 hu3 (ho3.ne hdl2 hd2.nt) hd2.np hd2.nu ?_ ?_ hd2.pu
      · intro b hb e
        rcases ho3.own hb with h' | h'
        · exact hd2.tp b h' e
        · have := hd2.pcs.blk_lt hw2 e; omega
      · intro b hb e
        rcases ho3.own hb with h' | h'
        · exact hd2.tu b h' e
        · have := hd2.und.blk_lt hw2 e; omega
    have hk4 := Keep.updAt hw3 d 0 [s3]
    refine C_sr fun Q' hQ => ?_
    simp only [r25_2, hd1.doc.rd, hd2.doc.rd, ha3, hs3.cells1, hdoc3.wr (i := 0) (vs := [s3]) (by show 0 + 1 ≤ 4; omega), WpO_op, WpO_opG, WpO_call, WpO_callW, WpOCG_true, WpOCG_false, WpT_callG, WpTCG_true, WpTCG_false, WpO_nil, WpON_some, WpOG_true, WpOG_false, WpT_op, WpT_opG, WpT_call, WpT_nil, WpTN_some, WpTG_true, WpTG_false, o_mv, o_pick, o_alloc, o_box, o_build, o_bslice, o_load, o_loadN, o_store, o_nil, o_add, o_sub, o_mul, o_quo, o_rem, o_lt, o_le, o_gt, o_ge, o_eq, o_ne, o_eqp, o_un, o_sls, o_take, o_drop, o_fa, o_iaS, o_ext, o_len, o_app, o_toU, o_frU, o_usd, o_ust, o_min, o_max, v_elB, v_elPtr, v_elTup, v_elAgg, v_ob, v_rto, v_nil, v_eqp_n, v_eqp_nn, v_eqp_same, v_not, v_fa, v_min, v_max, b_lt, b_le, b_gt, b_ge, b_eq, b_ne, bs_eq, bs_ne, len_tv, len_sl, len_nils, cells_iv, cells_tv, cells_agg, cells_ptr, cells_b, cells_nilp, pv_nil, pv_cons, fillA_nil, fillA_cons, repl_1, repl_2, ev_tm, ev_cst, evs_cons, evs_nil, evo_some, evo_none, putD_none, putD_some, fill_cons, fill_nil, want_b, want_undef, bc_true, bc_false, nbeq, nble, one_0, one_1, one_2, reduceIte, Nat.reduceEqDiff, Nat.reduceAdd, Nat.reduceSub, Nat.reduceMul, Nat.reduceLeDiff, List.length_cons, List.length_nil, Nat.zero_add, decide_true, decide_false, Bool.true_and, Bool.and_true, Bool.and_self, Bool.not_true, Bool.not_false, List.take_succ_cons, List.take_zero, List.drop_succ_cons, List.drop_zero, List.drop_nil, List.take_nil, List.nil_append, List.cons_append, List.append_nil, List.getElem?_cons_succ, List.getElem?_cons_zero]
    refine hQ _ _ ?_
    clear hQ
    generalize m3.upd d 0 [s3] = m4 at hd4 hk4 ⊢
    have hw4 := hk4.wf
    -- the new piece, and what comes behind it
    have hk5 : Keep m4 (m4.addL 60 3 [iv D.texts.length, iv 0, iv t.length]) fun _ => False := Keep.addL hw4
    have hw5 := hk5.wf
    have hd5 := hd4.keep0 hw4 hk5
    have hs5 : SlAt (m4.addL 60 3 [iv D.texts.length, iv 0, iv t.length]) 60 3 (.slice m4.next 0 1 1 false) 1 [iv D.texts.length, iv 0, iv t.length] (some m4.next) := SlAt.lit rfl rfl (by omega)
    obtain ⟨y, hy⟩ := hd5.pcs.run_drop (k := (split D.pcs a).2) hsl.1
    have hy4 := (hy m4 fun b hb => (hk5.get b (hd4.pcs.blk_lt hw4 hb) (fun h => h)).symm).1
    have hy5 := hy _ (fun _ _ => rfl)
    obtain ⟨s6, m6, o6, ha6, hs6, hk6, ho6⟩ := hs5.append (bytes := 24) (z := [iv 0, iv 0, iv 0]) hw5 hy5.2.1 (room_of (by show 1 + ((split D.pcs a).1.length - _) ≤ _; omega) (by omega))
    have hA : ((D.texts ++ [t]).length : Int) - 1 = (D.texts.length : Int) := by simp
    refine C_sd fun Q' hQ => ?_
    simp only [r25_3, hd4.doc.rd, hd5.doc.rd, hd4.texts.len, b_sub 3 (show -9223372036854775808 ≤ ((D.texts ++ [t]).length : Int) - 1 by rw [hA]; omega) (show ((D.texts ++ [t]).length : Int) - 1 ≤ 9223372036854775807 by rw [hA]; omega), hA, hy4, hy5.1, ha6, WpO_op, WpO_opG, WpO_call, WpO_callW, WpOCG_true, WpOCG_false, WpT_callG, WpTCG_true, WpTCG_false, WpO_nil, WpON_some, WpOG_true, WpOG_false, WpT_op, WpT_opG, WpT_call, WpT_nil, WpTN_some, WpTG_true, WpTG_false, o_mv, o_pick, o_alloc, o_box, o_build, o_bslice, o_load, o_loadN, o_store, o_nil, o_add, o_sub, o_mul, o_quo, o_rem, o_lt, o_le, o_gt, o_ge, o_eq, o_ne, o_eqp, o_un, o_sls, o_take, o_drop, o_fa, o_iaS, o_ext, o_len, o_app, o_toU, o_frU, o_usd, o_ust, o_min, o_max, v_elB, v_elPtr, v_elTup, v_elAgg, v_ob, v_rto, v_nil, v_eqp_n, v_eqp_nn, v_eqp_same, v_not, v_fa, v_min, v_max, b_lt, b_le, b_gt, b_ge, b_eq, b_ne, bs_eq, bs_ne, len_tv, len_sl, len_nils, cells_iv, cells_tv, cells_agg, cells_ptr, cells_b, cells_nilp, pv_nil, pv_cons, fillA_nil, fillA_cons, repl_1, repl_2, ev_tm, ev_cst, evs_cons, evs_nil, evo_some, evo_none, putD_none, putD_some, fill_cons, fill_nil, want_b, want_undef, bc_true, bc_false, nbeq, nble, one_0, one_1, one_2, reduceIte, Nat.reduceEqDiff, Nat.reduceAdd, Nat.reduceSub, Nat.reduceMul, Nat.reduceLeDiff, List.length_cons, List.length_nil, Nat.zero_add, decide_true, decide_false, Bool.true_and, Bool.and_true, Bool.and_self, Bool.not_true, Bool.not_false, List.take_succ_cons, List.take_zero, List.drop_succ_cons, List.drop_zero, List.drop_nil, List.take_nil, List.nil_append, List.cons_append, List.append_nil, List.getElem?_cons_succ, List.getElem?_cons_zero]
    refine hQ _ ⟨?_, _, rfl, ?_⟩
    · simp only [List.all_cons, List.all_nil, again0, want_none, r25_3, hd4.doc.rd, hd5.doc.rd, hd4.texts.aq, hd5.pcs.aq, hy4, hy5.1, hy5.2.2, WpO_op, WpO_opG, WpO_call, WpO_callW, WpOCG_true, WpOCG_false, WpT_callG, WpTCG_true, WpTCG_false, WpO_nil, WpON_some, WpOG_true, WpOG_false, WpT_op, WpT_opG, WpT_call, WpT_nil, WpTN_some, WpTG_true, WpTG_false, o_mv, o_pick, o_alloc, o_box, o_build, o_bslice, o_load, o_loadN, o_store, o_nil, o_add, o_sub, o_mul, o_quo, o_rem, o_lt, o_le, o_gt, o_ge, o_eq, o_ne, o_eqp, o_un, o_sls, o_take, o_drop, o_fa, o_iaS, o_ext, o_len, o_app, o_toU, o_frU, o_usd, o_ust, o_min, o_max, v_elB, v_elPtr, v_elTup, v_elAgg, v_ob, v_rto, v_nil, v_eqp_n, v_eqp_nn, v_eqp_same, v_not, v_fa, v_min, v_max, b_lt, b_le, b_gt, b_ge, b_eq, b_ne, bs_eq, bs_ne, len_tv, len_sl, len_nils, cells_iv, cells_tv, cells_agg, cells_ptr, cells_b, cells_nilp, pv_nil, pv_cons, fillA_nil, fillA_cons, repl_1, repl_2, ev_tm, ev_cst, evs_cons, evs_nil, evo_some, evo_none, putD_none, putD_some, fill_cons, fill_nil, want_b, want_undef, bc_true, bc_false, nbeq, nble, one_0, one_1, one_2, reduceIte, Nat.reduceEqDiff, Nat.reduceAdd, Nat.reduceSub, Nat.reduceMul, Nat.reduceLeDiff, List.length_cons, List.length_nil, Nat.zero_add, decide_true, decide_false, Bool.true_and, Bool.and_true, Bool.and_self, Bool.not_true, Bool.not_false, List.take_succ_cons, List.take_zero, List.drop_succ_cons, List.drop_zero, List.drop_nil, List.take_nil, List.nil_append, List.cons_append, List.append_nil, List.getElem?_cons_succ, List.getElem?_cons_zero]
    clear hQ
    have hw6 := hk6.wf
    have hdl5 := hd5.doc.lt hw5
    have hd6 : DocAt m6 d { D with texts := D.texts ++ [t], pcs := (split D.pcs a).1 } s3 xp1 xu o3 bp1 bu := hd5.keep hw5 hk6 (fun h => by cases h; have := hd4.doc.lt hw4; omega) (fun b hb h => by cases h; have := hd4.texts.blk_lt hw4 hb; omega) (fun b hb h => by cases h; have := hd4.pcs.blk_lt hw4 hb; omega) (fun b hb h => by cases h; have := hd4.und.blk_lt hw4 hb; omega)
    have ht6 := hd6.pcs.take (k := (split D.pcs a).2) hsl.1
    obtain ⟨s7, m7, o7, ha7, hs7, hk7, ho7⟩ := ht6.append (bytes := 24) (z := [iv 0, iv 0, iv 0]) hw6 hs6.src (room_of (by show (split D.pcs a).2 + (1 + ((split D.pcs a).1.length - (split D.pcs a).2)) ≤ _; omega) (by omega))
    have ho7 : Fs m6 bp1 o7 := by rcases ho7 with rfl | ⟨b, hb, hb', _⟩; exact .inl rfl; exact .inr ⟨b, hb, hb'⟩
    have hw7 := hk7.wf
    have hdl6 := hd6.doc.lt hw6
    have hdoc7 := hd6.doc.keep hw6 hk7 hd6.np
    refine C_sr fun Q' hQ => ?_
    simp only [r25_4, hd6.doc.rd, hd6.pcs.run_take hsl.1, ha7, hs7.cells1, hdoc7.wr (i := 1) (vs := [s7]) (by show 1 + 1 ≤ 4; omega), WpO_op, WpO_opG, WpO_call, WpO_callW, WpOCG_true, WpOCG_false, WpT_callG, WpTCG_true, WpTCG_false, WpO_nil, WpON_some, WpOG_true, WpOG_false, WpT_op, WpT_opG, WpT_call, WpT_nil, WpTN_some, WpTG_true, WpTG_false, o_mv, o_pick, o_alloc, o_box, o_build, o_bslice, o_load, o_loadN, o_store, o_nil, o_add, o_sub, o_mul, o_quo, o_rem, o_lt, o_le, o_gt, o_ge, o_eq, o_ne, o_eqp, o_un, o_sls, o_take, o_drop, o_fa, o_iaS, o_ext, o_len, o_app, o_toU, o_frU, o_usd, o_ust, o_min, o_max, v_elB, v_elPtr, v_elTup, v_elAgg, v_ob, v_rto, v_nil, v_eqp_n, v_eqp_nn, v_eqp_same, v_not, v_fa, v_min, v_max, b_lt, b_le, b_gt, b_ge, b_eq, b_ne, bs_eq, bs_ne, len_tv, len_sl, len_nils, cells_iv, cells_tv, cells_agg, cells_ptr, cells_b, cells_nilp, pv_nil, pv_cons, fillA_nil, fillA_cons, repl_1, repl_2, ev_tm, ev_cst, evs_cons, evs_nil, evo_some, evo_none, putD_none, putD_some, fill_cons, fill_nil, want_b, want_undef, bc_true, bc_false, nbeq, nble, one_0, one_1, one_2, reduceIte, Nat.reduceEqDiff, Nat.reduceAdd, Nat.reduceSub, Nat.reduceMul, Nat.reduceLeDiff, List.length_cons, List.length_nil, Nat.zero_add, decide_true, decide_false, Bool.true_and, Bool.and_true, Bool.and_self, Bool.not_true, Bool.not_false, List.take_succ_cons, List.take_zero, List.drop_succ_cons, List.drop_zero, List.drop_nil, List.take_nil, List.nil_append, List.cons_append, List.append_nil, List.getElem?_cons_succ, List.getElem?_cons_zero]
    refine hQ _ _ ?_
    clear hQ
    have hd8 : DocAt (m7.upd d 1 [s7]) d { insD D a t with size := D.size } s3 s7 xu o3 o7 bu := by
      have e : insD D a t = { D with texts := D.texts ++ [t], pcs := (split D.pcs a).1.take (split D.pcs a).2 ++ ⟨D.texts.length, 0, t.length⟩ :: (split D.pcs a).1.drop (split D.pcs a).2, size := D.size + t.length } := by unfold insD; rw [if_neg h0]
      rw [e]
      refine DocAt.store hdoc7 (by show 1 + 1 ≤ 4; omega) rfl (hd6.texts.keep hw6 hk7 fun b hb h => hd6.tp b hb h) (hs7.cast ?_ ?_) (hd6.und.keep hw6 hk7 fun b hb h => hd6.pu b h hb) hd6.nt (ho7.ne hdl6 hd6.np) hd6.nu ?_ hd6.tu ?_
      · simp only [List.length_append, List.length_take, List.length_cons, List.length_drop]; omega
      · simp only []
        rw [List.flatMap_append, flat_take, flat_drop]
        rfl
      · intro b hb e
        rcases ho7.own e with h' | h'
        · exact hd6.tp b hb h'
        · have := hd6.texts.blk_lt hw6 hb; omega
      · intro b hb e
        rcases ho7.own hb with h' | h'
        · exact hd6.pu b h' e
        · have := hd6.und.blk_lt hw6 e; omega
    have hk8 := Keep.updAt hw7 d 1 [s7]
    generalize m7.upd d 1 [s7] = m8 at hd8 hk8 ⊢
    have hw8 := hk8.wf
    have hB : (D.size : Int) + (t.length : Int) = ((D.size + t.length : Nat) : Int) := by omega
    refine C_reg fun Q' hQ => ?_
    simp only [r25_5, hd8.doc.rd, b_add 3 (show -9223372036854775808 ≤ (D.size : Int) + (t.length : Int) by omega) (show (D.size : Int) + (t.length : Int) ≤ 9223372036854775807 by omega), hB, hd8.doc.wr (i := 2) (vs := [iv ((D.size + t.length : Nat) : Int)]) (by show 2 + 1 ≤ 4; omega), WpO_op, WpO_opG, WpO_call, WpO_callW, WpOCG_true, WpOCG_false, WpT_callG, WpTCG_true, WpTCG_false, WpO_nil, WpON_some, WpOG_true, WpOG_false, WpT_op, WpT_opG, WpT_call, WpT_nil, WpTN_some, WpTG_true, WpTG_false, o_mv, o_pick, o_alloc, o_box, o_build, o_bslice, o_load, o_loadN, o_store, o_nil, o_add, o_sub, o_mul, o_quo, o_rem, o_lt, o_le, o_gt, o_ge, o_eq, o_ne, o_eqp, o_un, o_sls, o_take, o_drop, o_fa, o_iaS, o_ext, o_len, o_app, o_toU, o_frU, o_usd, o_ust, o_min, o_max, v_elB, v_elPtr, v_elTup, v_elAgg, v_ob, v_rto, v_nil, v_eqp_n, v_eqp_nn, v_eqp_same, v_not, v_fa, v_min, v_max, b_lt, b_le, b_gt, b_ge, b_eq, b_ne, bs_eq, bs_ne, len_tv, len_sl, len_nils, cells_iv, cells_tv, cells_agg, cells_ptr, cells_b, cells_nilp, pv_nil, pv_cons, fillA_nil, fillA_cons, repl_1, repl_2, ev_tm, ev_cst, evs_cons, evs_nil, evo_some, evo_none, putD_none, putD_some, fill_cons, fill_nil, want_b, want_undef, bc_true, bc_false, nbeq, nble, one_0, one_1, one_2, reduceIte, Nat.reduceEqDiff, Nat.reduceAdd, Nat.reduceSub, Nat.reduceMul, Nat.reduceLeDiff, List.length_cons, List.length_nil, Nat.zero_add, decide_true, decide_false, Bool.true_and, Bool.and_true, Bool.and_self, Bool.not_true, Bool.not_false, List.take_succ_cons, List.take_zero, List.drop_succ_cons, List.drop_zero, List.drop_nil, List.take_nil, List.nil_append, List.cons_append, List.append_nil, List.getElem?_cons_succ, List.getElem?_cons_zero]
    refine hQ _ _ ⟨.inl rfl, _, ares0, ?_⟩
    have n1 := hk1.next
    have n2 := hk2.next
    have n3 := hk3.next
    have n4 := hk4.next
    have n5 := hk5.next
    have n6 := hk6.next
    have n7 := hk7.next
    have n8 := hk8.next
    refine hQ0 _ s3 s7 o3 o7 ?_ ?_ (ho3.up (by omega)) (hb1.trans ho7 (by omega))
    · refine DocAt.store hd8.doc (by show 2 + 1 ≤ 4; omega) ?_ hd8.texts hd8.pcs hd8.und hd8.nt hd8.np hd8.nu hd8.tp hd8.tu hd8.pu
      rw [ins_size]; rfl
    · have hk9 := Keep.updAt hw8 d 2 [iv ((D.size + t.length : Nat) : Int)]
      refine ((((((((hk1.mono (G := fun b => b = d ∨ bt = some b ∨ bp = some b) fun b _ h => h.imp id .inr).trans hk2 fun _ _ h => h.elim).trans hk3 fun b _ h => .inr (.inl h)).trans hk4 fun b _ h => .inl h).trans hk5 fun _ _ h => h.elim).trans hk6 fun b hb h => by cases h; omega).trans hk7 fun b hb h => ?_).trans hk8 fun b _ h => .inl h).trans hk9 fun b _ h => .inl h
      rcases hb1.own h with h' | h'
      · exact .inr (.inr h')
      · omega

set_option maxHeartbeats 2000000 in
theorem remove_spec {m : M} {d : Nat} {D : Doc} {xt xp xu : AV} {bt bp bu : Option Nat} {a n c : Nat} (hw : Wf m) (h : DocAt m d D xt xp xu bt bp bu) (hg : Good D c) (ha : a + n ≤ D.size) {Q : AV → M → Prop}
    (hQ0 : ∀ m' xp' bp', DocAt m' d (remD D a n) xt xp' xu bt bp' bu → Keep m m' (fun b => b = d ∨ bp = some b) → Fs m bp bp' → Q (.tuple []) m') : WpF Try.prog tb 31 [.ptr d 0, iv a, iv n] m Q := by
  have hpl := len_le hg.va
  have hsz : D.size = (txt D.texts D.pcs).length := hg.size
  have hbig := hg.big
  refine WpF_intro at31 rfl rfl ?_
  unfold c31
  refine WpC_seq (C_sr fun Q' hQ => ?_)
  by_cases h0 : n = 0
  · subst h0
    simp only [r31_0, show (((0 : Nat) : Int) = 0) = True from eq_true rfl, WpO_op, WpO_opG, WpO_call, WpO_callW, WpOCG_true, WpOCG_false, WpT_callG, WpTCG_true, WpTCG_false, WpO_nil, WpON_some, WpOG_true, WpOG_false, WpT_op, WpT_opG, WpT_call, WpT_nil, WpTN_some, WpTG_true, WpTG_false, o_mv, o_pick, o_alloc, o_box, o_build, o_bslice, o_load, o_loadN, o_store, o_nil, o_add, o_sub, o_mul, o_quo, o_rem, o_lt, o_le, o_gt, o_ge, o_eq, o_ne, o_eqp, o_un, o_sls, o_take, o_drop, o_fa, o_iaS, o_ext, o_len, o_app, o_toU, o_frU, o_usd, o_ust, o_min, o_max, v_elB, v_elPtr, v_elTup, v_elAgg, v_ob, v_rto, v_nil, v_eqp_n, v_eqp_nn, v_eqp_same, v_not, v_fa, v_min, v_max, b_lt, b_le, b_gt, b_ge, b_eq, b_ne, bs_eq, bs_ne, len_tv, len_sl, len_nils, cells_iv, cells_tv, cells_agg, cells_ptr, cells_b, cells_nilp, pv_nil, pv_cons, fillA_nil, fillA_cons, repl_1, repl_2, ev_tm, ev_cst, evs_cons, evs_nil, evo_some, evo_none, putD_none, putD_some, fill_cons, fill_nil, want_b, want_undef, bc_true, bc_false, nbeq, nble, one_0, one_1, one_2, reduceIte, Nat.reduceEqDiff, Nat.reduceAdd, Nat.reduceSub, Nat.reduceMul, Nat.reduceLeDiff, List.length_cons, List.length_nil, Nat.zero_add, decide_true, decide_false, Bool.true_and, Bool.and_true, Bool.and_self, Bool.not_true, Bool.not_false, List.take_succ_cons, List.take_zero, List.drop_succ_cons, List.drop_zero, List.drop_nil, List.take_nil, List.nil_append, List.cons_append, List.append_nil, List.getElem?_cons_succ, List.getElem?_cons_zero]
    refine hQ _ _ (WpC_cond (t := true) ?_ (WpC_ret ⟨.inr rfl, _, ares0, ?_⟩))
    · simp only [WpO_op, WpO_opG, WpO_call, WpO_callW, WpOCG_true, WpOCG_false, WpT_callG, WpTCG_true, WpTCG_false, WpO_nil, WpON_some, WpOG_true, WpOG_false, WpT_op, WpT_opG, WpT_call, WpT_nil, WpTN_some, WpTG_true, WpTG_false, o_mv, o_pick, o_alloc, o_box, o_build, o_bslice, o_load, o_loadN, o_store, o_nil, o_add, o_sub, o_mul, o_quo, o_rem, o_lt, o_le, o_gt, o_ge, o_eq, o_ne, o_eqp, o_un, o_sls, o_take, o_drop, o_fa, o_iaS, o_ext, o_len, o_app, o_toU, o_frU, o_usd, o_ust, o_min, o_max, v_elB, v_elPtr, v_elTup, v_elAgg, v_ob, v_rto, v_nil, v_eqp_n, v_eqp_nn, v_eqp_same, v_not, v_fa, v_min, v_max, b_lt, b_le, b_gt, b_ge, b_eq, b_ne, bs_eq, bs_ne, len_tv, len_sl, len_nils, cells_iv, cells_tv, cells_agg, cells_ptr, cells_b, cells_nilp, pv_nil, pv_cons, fillA_nil, fillA_cons, repl_1, repl_2, ev_tm, ev_cst, evs_cons, evs_nil, evo_some, evo_none, putD_none, putD_some, fill_cons, fill_nil, want_b, want_undef, bc_true, bc_false, nbeq, nble, one_0, one_1, one_2, reduceIte, Nat.reduceEqDiff, Nat.reduceAdd, Nat.reduceSub, Nat.reduceMul, Nat.reduceLeDiff, List.length_cons, List.length_nil, Nat.zero_add, decide_true, decide_false, Bool.true_and, Bool.and_true, Bool.and_self, Bool.not_true, Bool.not_false, List.take_succ_cons, List.take_zero, List.drop_succ_cons, List.drop_zero, List.drop_nil, List.take_nil, List.nil_append, List.cons_append, List.append_nil, List.getElem?_cons_succ, List.getElem?_cons_zero]
    have e : remD D a 0 = D := by unfold remD; rw [if_pos rfl]
    rw [e] at hQ0
    exact hQ0 m xp bp h (Keep.refl hw _) (.inl rfl)
  · simp only [r31_0, show ((n : Int) = 0) = False from eq_false (by omega), WpO_op, WpO_opG, WpO_call, WpO_callW, WpOCG_true, WpOCG_false, WpT_callG, WpTCG_true, WpTCG_false, WpO_nil, WpON_some, WpOG_true, WpOG_false, WpT_op, WpT_opG, WpT_call, WpT_nil, WpTN_some, WpTG_true, WpTG_false, o_mv, o_pick, o_alloc, o_box, o_build, o_bslice, o_load, o_loadN, o_store, o_nil, o_add, o_sub, o_mul, o_quo, o_rem, o_lt, o_le, o_gt, o_ge, o_eq, o_ne, o_eqp, o_un, o_sls, o_take, o_drop, o_fa, o_iaS, o_ext, o_len, o_app, o_toU, o_frU, o_usd, o_ust, o_min, o_max, v_elB, v_elPtr, v_elTup, v_elAgg, v_ob, v_rto, v_nil, v_eqp_n, v_eqp_nn, v_eqp_same, v_not, v_fa, v_min, v_max, b_lt, b_le, b_gt, b_ge, b_eq, b_ne, bs_eq, bs_ne, len_tv, len_sl, len_nils, cells_iv, cells_tv, cells_agg, cells_ptr, cells_b, cells_nilp, pv_nil, pv_cons, fillA_nil, fillA_cons, repl_1, repl_2, ev_tm, ev_cst, evs_cons, evs_nil, evo_some, evo_none, putD_none, putD_some, fill_cons, fill_nil, want_b, want_undef, bc_true, bc_false, nbeq, nble, one_0, one_1, one_2, reduceIte, Nat.reduceEqDiff, Nat.reduceAdd, Nat.reduceSub, Nat.reduceMul, Nat.reduceLeDiff, List.length_cons, List.length_nil, Nat.zero_add, decide_true, decide_false, Bool.true_and, Bool.and_true, Bool.and_self, Bool.not_true, Bool.not_false, List.take_succ_cons, List.take_zero, List.drop_succ_cons, List.drop_zero, List.drop_nil, List.take_nil, List.nil_append, List.cons_append, List.append_nil, List.getElem?_cons_succ, List.getElem?_cons_zero]
    refine hQ _ _ (WpC_cond (t := false) ?_ (WpC_skip ?_))
    · simp only [WpO_op, WpO_opG, WpO_call, WpO_callW, WpOCG_true, WpOCG_false, WpT_callG, WpTCG_true, WpTCG_false, WpO_nil, WpON_some, WpOG_true, WpOG_false, WpT_op, WpT_opG, WpT_call, WpT_nil, WpTN_some, WpTG_true, WpTG_false, o_mv, o_pick, o_alloc, o_box, o_build, o_bslice, o_load, o_loadN, o_store, o_nil, o_add, o_sub, o_mul, o_quo, o_rem, o_lt, o_le, o_gt, o_ge, o_eq, o_ne, o_eqp, o_un, o_sls, o_take, o_drop, o_fa, o_iaS, o_ext, o_len, o_app, o_toU, o_frU, o_usd, o_ust, o_min, o_max, v_elB, v_elPtr, v_elTup, v_elAgg, v_ob, v_rto, v_nil, v_eqp_n, v_eqp_nn, v_eqp_same, v_not, v_fa, v_min, v_max, b_lt, b_le, b_gt, b_ge, b_eq, b_ne, bs_eq, bs_ne, len_tv, len_sl, len_nils, cells_iv, cells_tv, cells_agg, cells_ptr, cells_b, cells_nilp, pv_nil, pv_cons, fillA_nil, fillA_cons, repl_1, repl_2, ev_tm, ev_cst, evs_cons, evs_nil, evo_some, evo_none, putD_none, putD_some, fill_cons, fill_nil, want_b, want_undef, bc_true, bc_false, nbeq, nble, one_0, one_1, one_2, reduceIte, Nat.reduceEqDiff, Nat.reduceAdd, Nat.reduceSub, Nat.reduceMul, Nat.reduceLeDiff, List.length_cons, List.length_nil, Nat.zero_add, decide_true, decide_false, Bool.true_and, Bool.and_true, Bool.and_self, Bool.not_true, Bool.not_false, List.take_succ_cons, List.take_zero, List.drop_succ_cons, List.drop_zero, List.drop_nil, List.take_nil, List.nil_append, List.cons_append, List.append_nil, List.getElem?_cons_succ, List.getElem?_cons_zero]
    clear hQ
    refine C_sr fun Q' hQ => ?_
    simp only [r31_1, WpO_op, WpO_opG, WpO_call, WpO_callW, WpOCG_true, WpOCG_false, WpT_callG, WpTCG_true, WpTCG_false, WpO_nil, WpON_some, WpOG_true, WpOG_false, WpT_op, WpT_opG, WpT_call, WpT_nil, WpTN_some, WpTG_true, WpTG_false, o_mv, o_pick, o_alloc, o_box, o_build, o_bslice, o_load, o_loadN, o_store, o_nil, o_add, o_sub, o_mul, o_quo, o_rem, o_lt, o_le, o_gt, o_ge, o_eq, o_ne, o_eqp, o_un, o_sls, o_take, o_drop, o_fa, o_iaS, o_ext, o_len, o_app, o_toU, o_frU, o_usd, o_ust, o_min, o_max, v_elB, v_elPtr, v_elTup, v_elAgg, v_ob, v_rto, v_nil, v_eqp_n, v_eqp_nn, v_eqp_same, v_not, v_fa, v_min, v_max, b_lt, b_le, b_gt, b_ge, b_eq, b_ne, bs_eq, bs_ne, len_tv, len_sl, len_nils, cells_iv, cells_tv, cells_agg, cells_ptr, cells_b, cells_nilp, pv_nil, pv_cons, fillA_nil, fillA_cons, repl_1, repl_2, ev_tm, ev_cst, evs_cons, evs_nil, evo_some, evo_none, putD_none, putD_some, fill_cons, fill_nil, want_b, want_undef, bc_true, bc_false, nbeq, nble, one_0, one_1, one_2, reduceIte, Nat.reduceEqDiff, Nat.reduceAdd, Nat.reduceSub, Nat.reduceMul, Nat.reduceLeDiff, List.length_cons, List.length_nil, Nat.zero_add, decide_true, decide_false, Bool.true_and, Bool.and_true, Bool.and_self, Bool.not_true, Bool.not_false, List.take_succ_cons, List.take_zero, List.drop_succ_cons, List.drop_zero, List.drop_nil, List.take_nil, List.nil_append, List.cons_append, List.append_nil, List.getElem?_cons_succ, List.getElem?_cons_zero]
    refine WpOC.to (split_spec hw h hg.va (by omega) (by omega) hg.of fun m1 xp1 bp1 hd1 hk1 hb1 => ?_)
    have hb1 : Fs m bp bp1 := hb1
    simp only [WpO_op, WpO_opG, WpO_call, WpO_callW, WpOCG_true, WpOCG_false, WpT_callG, WpTCG_true, WpTCG_false, WpO_nil, WpON_some, WpOG_true, WpOG_false, WpT_op, WpT_opG, WpT_call, WpT_nil, WpTN_some, WpTG_true, WpTG_false, o_mv, o_pick, o_alloc, o_box, o_build, o_bslice, o_load, o_loadN, o_store, o_nil, o_add, o_sub, o_mul, o_quo, o_rem, o_lt, o_le, o_gt, o_ge, o_eq, o_ne, o_eqp, o_un, o_sls, o_take, o_drop, o_fa, o_iaS, o_ext, o_len, o_app, o_toU, o_frU, o_usd, o_ust, o_min, o_max, v_elB, v_elPtr, v_elTup, v_elAgg, v_ob, v_rto, v_nil, v_eqp_n, v_eqp_nn, v_eqp_same, v_not, v_fa, v_min, v_max, b_lt, b_le, b_gt, b_ge, b_eq, b_ne, bs_eq, bs_ne, len_tv, len_sl, len_nils, cells_iv, cells_tv, cells_agg, cells_ptr, cells_b, cells_nilp, pv_nil, pv_cons, fillA_nil, fillA_cons, repl_1, repl_2, ev_tm, ev_cst, evs_cons, evs_nil, evo_some, evo_none, putD_none, putD_some, fill_cons, fill_nil, want_b, want_undef, bc_true, bc_false, nbeq, nble, one_0, one_1, one_2, reduceIte, Nat.reduceEqDiff, Nat.reduceAdd, Nat.reduceSub, Nat.reduceMul, Nat.reduceLeDiff, List.length_cons, List.length_nil, Nat.zero_add, decide_true, decide_false, Bool.true_and, Bool.and_true, Bool.and_self, Bool.not_true, Bool.not_false, List.take_succ_cons, List.take_zero, List.drop_succ_cons, List.drop_zero, List.drop_nil, List.take_nil, List.nil_append, List.cons_append, List.append_nil, List.getElem?_cons_succ, List.getElem?_cons_zero]
    refine hQ _ _ ?_
    clear hQ
    have hw1 := hk1.wf
    have hv1 := split_va (a := a) hg.va
    have hsl := split_le (a := a) hg.va
    have hsl2 := split_le (a := a + n) hv1
    have htx : txt D.texts (split D.pcs a).1 = txt D.texts D.pcs := split_txt
    have hA : (a : Int) + (n : Int) = ((a + n : Nat) : Int) := by omega
    refine C_sr fun Q' hQ => ?_
    simp only [r31_2, b_add 3 (show -9223372036854775808 ≤ (a : Int) + (n : Int) by omega) (show (a : Int) + (n : Int) ≤ 9223372036854775807 by omega), hA, WpO_op, WpO_opG, WpO_call, WpO_callW, WpOCG_true, WpOCG_false, WpT_callG, WpTCG_true, WpTCG_false, WpO_nil, WpON_some, WpOG_true, WpOG_false, WpT_op, WpT_opG, WpT_call, WpT_nil, WpTN_some, WpTG_true, WpTG_false, o_mv, o_pick, o_alloc, o_box, o_build, o_bslice, o_load, o_loadN, o_store, o_nil, o_add, o_sub, o_mul, o_quo, o_rem, o_lt, o_le, o_gt, o_ge, o_eq, o_ne, o_eqp, o_un, o_sls, o_take, o_drop, o_fa, o_iaS, o_ext, o_len, o_app, o_toU, o_frU, o_usd, o_ust, o_min, o_max, v_elB, v_elPtr, v_elTup, v_elAgg, v_ob, v_rto, v_nil, v_eqp_n, v_eqp_nn, v_eqp_same, v_not, v_fa, v_min, v_max, b_lt, b_le, b_gt, b_ge, b_eq, b_ne, bs_eq, bs_ne, len_tv, len_sl, len_nils, cells_iv, cells_tv, cells_agg, cells_ptr, cells_b, cells_nilp, pv_nil, pv_cons, fillA_nil, fillA_cons, repl_1, repl_2, ev_tm, ev_cst, evs_cons, evs_nil, evo_some, evo_none, putD_none, putD_some, fill_cons, fill_nil, want_b, want_undef, bc_true, bc_false, nbeq, nble, one_0, one_1, one_2, reduceIte, Nat.reduceEqDiff, Nat.reduceAdd, Nat.reduceSub, Nat.reduceMul, Nat.reduceLeDiff, List.length_cons, List.length_nil, Nat.zero_add, decide_true, decide_false, Bool.true_and, Bool.and_true, Bool.and_self, Bool.not_true, Bool.not_false, List.take_succ_cons, List.take_zero, List.drop_succ_cons, List.drop_zero, List.drop_nil, List.take_nil, List.nil_append, List.cons_append, List.append_nil, List.getElem?_cons_succ, List.getElem?_cons_zero]
    refine WpOC.to (split_spec hw1 hd1 hv1 (by show a + n ≤ (txt D.texts (split D.pcs a).1).length; rw [htx]; omega) (by show (txt D.texts (split D.pcs a).1).length ≤ _; rw [htx]; omega) ?_ fun m2 xp2 bp2 hd2 hk2 hb2 => ?_)
    · intro p hp
      obtain ⟨t, k1, k2⟩ := (hv1 p hp).ok
      have := hg.tl t (List.mem_of_getElem? k1)
      omega
    have hb2 : Fs m1 bp1 bp2 := hb2
    simp only [WpO_op, WpO_opG, WpO_call, WpO_callW, WpOCG_true, WpOCG_false, WpT_callG, WpTCG_true, WpTCG_false, WpO_nil, WpON_some, WpOG_true, WpOG_false, WpT_op, WpT_opG, WpT_call, WpT_nil, WpTN_some, WpTG_true, WpTG_false, o_mv, o_pick, o_alloc, o_box, o_build, o_bslice, o_load, o_loadN, o_store, o_nil, o_add, o_sub, o_mul, o_quo, o_rem, o_lt, o_le, o_gt, o_ge, o_eq, o_ne, o_eqp, o_un, o_sls, o_take, o_drop, o_fa, o_iaS, o_ext, o_len, o_app, o_toU, o_frU, o_usd, o_ust, o_min, o_max, v_elB, v_elPtr, v_elTup, v_elAgg, v_ob, v_rto, v_nil, v_eqp_n, v_eqp_nn, v_eqp_same, v_not, v_fa, v_min, v_max, b_lt, b_le, b_gt, b_ge, b_eq, b_ne, bs_eq, bs_ne, len_tv, len_sl, len_nils, cells_iv, cells_tv, cells_agg, cells_ptr, cells_b, cells_nilp, pv_nil, pv_cons, fillA_nil, fillA_cons, repl_1, repl_2, ev_tm, ev_cst, evs_cons, evs_nil, evo_some, evo_none, putD_none, putD_some, fill_cons, fill_nil, want_b, want_undef, bc_true, bc_false, nbeq, nble, one_0, one_1, one_2, reduceIte, Nat.reduceEqDiff, Nat.reduceAdd, Nat.reduceSub, Nat.reduceMul, Nat.reduceLeDiff, List.length_cons, List.length_nil, Nat.zero_add, decide_true, decide_false, Bool.true_and, Bool.and_true, Bool.and_self, Bool.not_true, Bool.not_false, List.take_succ_cons, List.take_zero, List.drop_succ_cons, List.drop_zero, List.drop_nil, List.take_nil, List.nil_append, List.cons_append, List.append_nil, List.getElem?_cons_succ, List.getElem?_cons_zero]
    refine hQ _ _ ?_
    clear hQ
    have hw2 := hk2.wf
    have hn1 := hk1.next
    have hn2 := hk2.next
    have hk : (split D.pcs a).2 ≤ (split (split D.pcs a).1 (a + n)).1.length := by
      have := congrArg List.length (split2_take (ts := D.texts) hg.va (show a ≤ a + n by omega) (by omega))
      simp only [List.length_take] at this
      have := hsl.1
      omega
    change DocAt m2 d { D with pcs := (split (split D.pcs a).1 (a + n)).1 } xt xp2 xu bt bp2 bu at hd2
    have ht2 := hd2.pcs.take (k := (split D.pcs a).2) hk
    obtain ⟨y, hy⟩ := hd2.pcs.run_drop (k := (split (split D.pcs a).1 (a + n)).2) hsl2.1
    have hy2 := hy m2 (fun _ _ => rfl)
    obtain ⟨s3, m3, o3, ha3, hs3, hk3, ho3⟩ := ht2.append (bytes := 24) (z := [iv 0, iv 0, iv 0]) hw2 hy2.2.1 (room_of (by show (split D.pcs a).2 + ((split (split D.pcs a).1 (a + n)).1.length - (split (split D.pcs a).1 (a + n)).2) ≤ _; omega) (by omega))
    have ho3 : Fs m2 bp2 o3 := by rcases ho3 with rfl | ⟨b, hb, hb', _⟩; exact .inl rfl; exact .inr ⟨b, hb, hb'⟩
    have hw3 := hk3.wf
    have hdl2 := hd2.doc.lt hw2
    have hdoc3 := hd2.doc.keep hw2 hk3 hd2.np
    refine C_sd fun Q' hQ => ?_
    simp only [r31_3, hd2.doc.rd, hd2.pcs.run_take hk, hy2.1, ha3, hs3.cells1, hdoc3.wr (i := 1) (vs := [s3]) (by show 1 + 1 ≤ 4; omega), WpO_op, WpO_opG, WpO_call, WpO_callW, WpOCG_true, WpOCG_false, WpT_callG, WpTCG_true, WpTCG_false, WpO_nil, WpON_some, WpOG_true, WpOG_false, WpT_op, WpT_opG, WpT_call, WpT_nil, WpTN_some, WpTG_true, WpTG_false, o_mv, o_pick, o_alloc, o_box, o_build, o_bslice, o_load, o_loadN, o_store, o_nil, o_add, o_sub, o_mul, o_quo, o_rem, o_lt, o_le, o_gt, o_ge, o_eq, o_ne, o_eqp, o_un, o_sls, o_take, o_drop, o_fa, o_iaS, o_ext, o_len, o_app, o_toU, o_frU, o_usd, o_ust, o_min, o_max, v_elB, v_elPtr, v_elTup, v_elAgg, v_ob, v_rto, v_nil, v_eqp_n, v_eqp_nn, v_eqp_same, v_not, v_fa, v_min, v_max, b_lt, b_le, b_gt, b_ge, b_eq, b_ne, bs_eq, bs_ne, len_tv, len_sl, len_nils, cells_iv, cells_tv, cells_agg, cells_ptr, cells_b, cells_nilp, pv_nil, pv_cons, fillA_nil, fillA_cons, repl_1, repl_2, ev_tm, ev_cst, evs_cons, evs_nil, evo_some, evo_none, putD_none, putD_some, fill_cons, fill_nil, want_b, want_undef, bc_true, bc_false, nbeq, nble, one_0, one_1, one_2, reduceIte, Nat.reduceEqDiff, Nat.reduceAdd, Nat.reduceSub, Nat.reduceMul, Nat.reduceLeDiff, List.length_cons, List.length_nil, Nat.zero_add, decide_true, decide_false, Bool.true_and, Bool.and_true, Bool.and_self, Bool.not_true, Bool.not_false, List.take_succ_cons, List.take_zero, List.drop_succ_cons, List.drop_zero, List.drop_nil, List.take_nil, List.nil_append, List.cons_append, List.append_nil, List.getElem?_cons_succ, List.getElem?_cons_zero]
    refine hQ _ ⟨?_, _, rfl, ?_⟩
    · simp only [List.all_cons, List.all_nil, again0, want_none, r31_3, hd2.doc.rd, hd2.pcs.run_take hk, hd2.pcs.aq, ht2.aq, hy2.1, hy2.2.2, WpO_op, WpO_opG, WpO_call, WpO_callW, WpOCG_true, WpOCG_false, WpT_callG, WpTCG_true, WpTCG_false, WpO_nil, WpON_some, WpOG_true, WpOG_false, WpT_op, WpT_opG, WpT_call, WpT_nil, WpTN_some, WpTG_true, WpTG_false, o_mv, o_pick, o_alloc, o_box, o_build, o_bslice, o_load, o_loadN, o_store, o_nil, o_add, o_sub, o_mul, o_quo, o_rem, o_lt, o_le, o_gt, o_ge, o_eq, o_ne, o_eqp, o_un, o_sls, o_take, o_drop, o_fa, o_iaS, o_ext, o_len, o_app, o_toU, o_frU, o_usd, o_ust, o_min, o_max, v_elB, v_elPtr, v_elTup, v_elAgg, v_ob, v_rto, v_nil, v_eqp_n, v_eqp_nn, v_eqp_same, v_not, v_fa, v_min, v_max, b_lt, b_le, b_gt, b_ge, b_eq, b_ne, bs_eq, bs_ne, len_tv, len_sl, len_nils, cells_iv, cells_tv, cells_agg, cells_ptr, cells_b, cells_nilp, pv_nil, pv_cons, fillA_nil, fillA_cons, repl_1, repl_2, ev_tm, ev_cst, evs_cons, evs_nil, evo_some, evo_none, putD_none, putD_some, fill_cons, fill_nil, want_b, want_undef, bc_true, bc_false, nbeq, nble, one_0, one_1, one_2, reduceIte, Nat.reduceEqDiff, Nat.reduceAdd, Nat.reduceSub, Nat.reduceMul, Nat.reduceLeDiff, List.length_cons, List.length_nil, Nat.zero_add, decide_true, decide_false, Bool.true_and, Bool.and_true, Bool.and_self, Bool.not_true, Bool.not_false, List.take_succ_cons, List.take_zero, List.drop_succ_cons, List.drop_zero, List.drop_nil, List.take_nil, List.nil_append, List.cons_append, List.append_nil, List.getElem?_cons_succ, List.getElem?_cons_zero]
    clear hQ
    have hd4 : DocAt (m3.upd d 1 [s3]) d { remD D a n with size := D.size } xt s3 xu bt o3 bu := by
      have e : remD D a n = { D with pcs := (split (split D.pcs a).1 (a + n)).1.take (split D.pcs a).2 ++ (split (split D.pcs a).1 (a + n)).1.drop (split (split D.pcs a).1 (a + n)).2, size := D.size - n } := by unfold remD; rw [if_neg h0]
      rw [e]
      refine DocAt.store hdoc3 (by show 1 + 1 ≤ 4; omega) rfl (hd2.texts.keep hw2 hk3 fun b hb h => hd2.tp b hb h) (hs3.cast ?_ ?_) (hd2.und.keep hw2 hk3 fun b hb h => hd2.pu b h hb) hd2.nt (ho3.ne hdl2 hd2.np) hd2.nu ?_ hd2.tu ?_
      · simp only [List.length_append, List.length_take, List.length_drop]; omega
      · simp only []
        rw [List.flatMap_append, flat_take, flat_drop]
      · intro b hb e
        rcases ho3.own e with h' | h'
        · exact hd2.tp b hb h'
        · have := hd2.texts.blk_lt hw2 hb; omega
      · intro b hb e
        rcases ho3.own hb with h' | h'
        · exact hd2.pu b h' e
        · have := hd2.und.blk_lt hw2 e; omega
    have hk4 := Keep.updAt hw3 d 1 [s3]
    dsimp only
    generalize m3.upd d 1 [s3] = m4 at hd4 hk4 ⊢
    have hw4 := hk4.wf
    have hB : (D.size : Int) - (n : Int) = ((D.size - n : Nat) : Int) := by omega
    refine C_reg fun Q' hQ => ?_
    simp only [r31_4, hd4.doc.rd, b_sub 3 (show -9223372036854775808 ≤ (D.size : Int) - (n : Int) by omega) (show (D.size : Int) - (n : Int) ≤ 9223372036854775807 by omega), hB, hd4.doc.wr (i := 2) (vs := [iv ((D.size - n : Nat) : Int)]) (by show 2 + 1 ≤ 4; omega), WpO_op, WpO_opG, WpO_call, WpO_callW, WpOCG_true, WpOCG_false, WpT_callG, WpTCG_true, WpTCG_false, WpO_nil, WpON_some, WpOG_true, WpOG_false, WpT_op, WpT_opG, WpT_call, WpT_nil, WpTN_some, WpTG_true, WpTG_false, o_mv, o_pick, o_alloc, o_box, o_build, o_bslice, o_load, o_loadN, o_store, o_nil, o_add, o_sub, o_mul, o_quo, o_rem, o_lt, o_le, o_gt, o_ge, o_eq, o_ne, o_eqp, o_un, o_sls, o_take, o_drop, o_fa, o_iaS, o_ext, o_len, o_app, o_toU, o_frU, o_usd, o_ust, o_min, o_max, v_elB, v_elPtr, v_elTup, v_elAgg, v_ob, v_rto, v_nil, v_eqp_n, v_eqp_nn, v_eqp_same, v_not, v_fa, v_min, v_max, b_lt, b_le, b_gt, b_ge, b_eq, b_ne, bs_eq, bs_ne, len_tv, len_sl, len_nils, cells_iv, cells_tv, cells_agg, cells_ptr, cells_b, cells_nilp, pv_nil, pv_cons, fillA_nil, fillA_cons, repl_1, repl_2, ev_tm, ev_cst, evs_cons, evs_nil, evo_some, evo_none, putD_none, putD_some, fill_cons, fill_nil, want_b, want_undef, bc_true, bc_false, nbeq, nble, one_0, one_1, one_2, reduceIte, Nat.reduceEqDiff, Nat.reduceAdd, Nat.reduceSub, Nat.reduceMul, Nat.reduceLeDiff, List.length_cons, List.length_nil, Nat.zero_add, decide_true, decide_false, Bool.true_and, Bool.and_true, Bool.and_self, Bool.not_true, Bool.not_false, List.take_succ_cons, List.take_zero, List.drop_succ_cons, List.drop_zero, List.drop_nil, List.take_nil, List.nil_append, List.cons_append, List.append_nil, List.getElem?_cons_succ, List.getElem?_cons_zero]
    refine hQ _ _ ⟨.inl rfl, _, ares0, ?_⟩
    have n3 := hk3.next
    have n4 := hk4.next
    refine hQ0 _ s3 o3 ?_ ?_ ((hb1.trans hb2 (by omega)).trans ho3 (by omega))
    · refine DocAt.store hd4.doc (by show 2 + 1 ≤ 4; omega) ?_ hd4.texts hd4.pcs hd4.und hd4.nt hd4.np hd4.nu hd4.tp hd4.tu hd4.pu
      rw [rem_size]; rfl
    · have hk9 := Keep.updAt hw4 d 2 [iv ((D.size - n : Nat) : Int)]
      refine (((hk1.trans hk2 fun b hb h => ?_).trans hk3 fun b hb h => ?_).trans hk4 fun b _ h => .inl h).trans hk9 fun b _ h => .inl h
      · rcases h with h | h
        · exact .inl h
        · rcases hb1.own h with h' | h'
          · exact .inr h'
          · omega
      · rcases (hb1.trans hb2 (by omega)).own h with h' | h'
        · exact .inr h'
        · omega
end Go.Proofs.Ytcbafpfljencdaa
