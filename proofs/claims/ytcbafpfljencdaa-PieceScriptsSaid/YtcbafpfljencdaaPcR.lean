import Derived.Test.YtcbafpfljencdaaPcQ
import Derived.Test.YtcbafpfljencdaaPcSJ
set_option linter.unusedVariables false
set_option linter.unusedVariables false
/- The reference of piece: what its functions do. -/
namespace Go.Proofs.Ytcbafpfljencdaa
open Go Go.Am Pl

structure WAt (m : M) (w : Nat) (L : List Bs) (x : AV) (bw : Option Nat) : Prop where
  doc : At m w 66 true [x]
  sl : SlAt m 9 1 x L.length (L.map tv) bw
  nb : bw ≠ some w
def ow (w : Nat) (bw : Option Nat) (b : Nat) : Prop := b = w ∨ bw = some b
theorem WAt.keep {m m' : M} {w : Nat} {L : List Bs} {x : AV} {bw : Option Nat} (h : WAt m w L x bw) (hw : Wf m) {F : Nat → Prop} (k : Keep m m' F) (hd : ∀ b, ow w bw b → ¬ F b) : WAt m' w L x bw :=
  ⟨h.doc.keep hw k (hd _ (.inl rfl)), h.sl.keep hw k fun b hb => hd b (.inr hb), h.nb⟩
theorem WAt.keep0 {m m' : M} {w : Nat} {L : List Bs} {x : AV} {bw : Option Nat} (h : WAt m w L x bw) (hw : Wf m) (k : Keep m m' fun _ => False) : WAt m' w L x bw := h.keep hw k fun _ _ h => h
theorem WAt.lt {m : M} {w : Nat} {L : List Bs} {x : AV} {bw : Option Nat} (h : WAt m w L x bw) (hw : Wf m) {b : Nat} (hb : ow w bw b) : b < m.next := by
  rcases hb with rfl | hb
  · exact h.doc.lt hw
  · exact h.sl.blk_lt hw hb
theorem wtext_spec {m : M} {w : Nat} {L : List Bs} {s : Bs} {x : AV} {bw : Option Nat} (h : WAt m w (L ++ [s]) x bw) (hL : L.length ≤ 4000000000000) : WpF Try.prog tb 22 [.ptr w 0] m fun v m' => v = tv s ∧ m' = m := by
  have hlen : (L ++ [s]).length = L.length + 1 := by simp
  obtain ⟨b, cap, hx, _, hr⟩ := elem1_of' h.sl (k := L.length) (by omega)
  have hr : m.rd b L.length = some (tv s) := by rw [hr]; simp
  have hA : ((L.length + 1 : Nat) : Int) - 1 = (L.length : Int) := by omega
  have hq := h.sl.aq
  rw [hx] at hq
  rw [hlen] at hx hq
  refine WpF_intro at22 rfl rfl ?_
  unfold c22
  refine C_sr fun Q' hQ => ?_
  simp only [r22_0, WpO_op, WpO_nil, WpON_some, o_mv, ev_cst, putD_some, fill_cons, fill_nil, Nat.zero_add]
  refine hQ _ _ (C_sd fun Q' hQ => ?_)
  simp only [r22_1, h.doc.rd, hx, b_sub 3 (show -9223372036854775808 ≤ ((L.length + 1 : Nat) : Int) - 1 by omega) (show ((L.length + 1 : Nat) : Int) - 1 ≤ 9223372036854775807 by omega), hA, v_iaS 1 b 0 (L.length + 1) cap false (show L.length < L.length + 1 by omega), Nat.mul_one, hr, WpT_op, WpT_nil, WpTN_some, o_mv, o_load, o_nil, o_sub, o_fa, o_iaS, o_len, v_elPtr, v_ob, v_rto, v_nil, v_fa, len_sl, ev_tm, ev_cst, putD_some, reduceIte, Nat.reduceEqDiff, Nat.zero_add, List.nil_append, List.cons_append, List.getElem?_cons_zero]
  refine hQ _ ⟨?_, _, rfl, ?_⟩
  · simp only [List.all_cons, List.all_nil, again0, want_none, r22_1, h.doc.rd, hx, hr, hq, aq_tv, o_load, v_elPtr, v_ob, v_rto, ev_tm, bc_true, reduceIte, Nat.reduceEqDiff, Bool.and_self, List.getElem?_cons_succ, List.getElem?_cons_zero]
  refine WpC_ret ⟨.inr rfl, _, ares1, ?_⟩
  simp only [and_self, ev_tm, one_1, reduceIte, Nat.reduceEqDiff]
theorem wedits_spec {m : M} {w : Nat} {L : List Bs} {s : Bs} {x : AV} {bw : Option Nat} (h : WAt m w (L ++ [s]) x bw) (hL : L.length ≤ 4000000000000) : WpF Try.prog tb 23 [.ptr w 0] m fun v m' => v = iv L.length ∧ m' = m := by
  have hlen : (L ++ [s]).length = L.length + 1 := by simp
  have hA : ((L.length + 1 : Nat) : Int) - 1 = (L.length : Int) := by omega
  have hl := h.sl.len
  rw [hlen] at hl
  refine WpF_intro at23 rfl rfl ?_
  unfold c23
  refine C_sr fun Q' hQ => ?_
  simp only [r23_0, WpO_op, WpO_nil, WpON_some, o_mv, ev_cst, putD_some, fill_cons, fill_nil, Nat.zero_add]
  refine hQ _ _ (C_sr fun Q' hQ => ?_)
  simp only [r23_1, h.doc.rd, hl, b_sub 3 (show -9223372036854775808 ≤ ((L.length + 1 : Nat) : Int) - 1 by omega) (show ((L.length + 1 : Nat) : Int) - 1 ≤ 9223372036854775807 by omega), hA, WpO_op, WpO_nil, WpON_some, o_mv, o_load, o_nil, o_sub, o_fa, o_len, v_elPtr, v_ob, v_rto, v_nil, v_fa, ev_tm, ev_cst, putD_some, reduceIte, Nat.reduceEqDiff, Nat.zero_add, List.getElem?_cons_zero]
  refine hQ _ _ (WpC_ret ⟨.inr rfl, _, ares1, ?_⟩)
  simp only [and_self, ev_tm, one_1, reduceIte, Nat.reduceEqDiff]
theorem wslice_bad {m : M} {w : Nat} {L : List Bs} {s : Bs} {x : AV} {bw : Option Nat} (h : WAt m w (L ++ [s]) x bw) (hL : L.length ≤ 4000000000000) (hs : s.length ≤ 65536) {a n : Int} (hbad : a < 0 ∨ n < 0 ∨ (s.length : Int) < a ∨ (s.length : Int) - a < n) : WpF Try.prog tb 21 [.ptr w 0, iv a, iv n] m fun v m' => v = .tuple [tv [], iv 2] ∧ m' = m := by
  refine WpF_intro at21 rfl rfl ?_
  unfold c21
  refine C_sr fun Q' hQ => ?_
  simp only [r21_0, WpO_op, WpO_nil, WpON_some, o_mv, ev_cst, putD_some, fill_cons, fill_nil, Nat.reduceAdd, Nat.zero_add]
  refine hQ _ _ (C_sr fun Q' hQ => ?_)
  simp only [r21_1, WpO_op, WpO_call, WpON_some, o_mv, ev_tm, evs_cons, evs_nil, putD_some, reduceIte, Nat.reduceEqDiff]
  refine WpOC.to ((wtext_spec h hL).mono ?_)
  rintro v m' ⟨rfl, rfl⟩
  simp only [WpO_op, WpO_nil, WpON_some, o_mv, ev_tm, putD_some, reduceIte, Nat.reduceEqDiff]
  refine hQ _ _ (WpC_seq (C_sr fun Q' hQ => ?_))
  have tail : ∀ fr, ev (tm 30) fr = .b true → WpC Try.prog tb (.cond (tm 30) (.seq (.reg r21_3) .ret) .skip) fr m' (fun x fr1 m1 => match x with | .normal => WpC Try.prog tb (.seq (.reg r21_4) .ret) fr1 m1 (fun x fr' m'' => (x = .normal ∨ x = .ret) ∧ ∃ l, ares Try.prog ⟨fr', m'', [], none⟩ [.tmp 6, .tmp 7] = some l ∧ (one l = .tuple [tv [], iv 2] ∧ m'' = m')) | x => (x = .normal ∨ x = .ret) ∧ ∃ l, ares Try.prog ⟨fr1, m1, [], none⟩ [.tmp 6, .tmp 7] = some l ∧ (one l = .tuple [tv [], iv 2] ∧ m1 = m')) := by
    intro fr hfr
    refine WpC_cond (t := true) hfr (C_sr fun Q' hQ => ?_)
    simp only [r21_3, WpO_op, WpO_nil, WpON_some, o_mv, ev_cst, putD_some]
    refine hQ _ _ (WpC_ret ⟨.inr rfl, _, ares2, ?_⟩)
    simp only [and_self, ev_tm, one_2, reduceIte, Nat.reduceEqDiff]
  by_cases h1 : a < 0
  · simp only [r21_2, show (a < 0) = True from eq_true h1, WpO_op, WpO_opG, WpO_nil, WpON_some, WpOG_false, o_mv, o_pick, o_lt, v_elB, v_rto, b_lt, ev_tm, ev_cst, putD_some, want_b, bc_true, reduceIte, Nat.reduceEqDiff, decide_true, Bool.not_false]
    exact hQ _ _ (tail _ (by simp only [ev_tm, reduceIte, Nat.reduceEqDiff]))
  by_cases h2 : n < 0
  · simp only [r21_2, show (a < 0) = False from eq_false h1, show (n < 0) = True from eq_true h2, WpO_op, WpO_opG, WpO_nil, WpON_some, WpOG_true, WpOG_false, o_mv, o_pick, o_lt, v_elB, v_rto, b_lt, ev_tm, ev_cst, putD_some, want_b, bc_true, bc_false, reduceIte, Nat.reduceEqDiff, decide_true, decide_false, Bool.not_false]
    exact hQ _ _ (tail _ (by simp only [ev_tm, reduceIte, Nat.reduceEqDiff]))
  by_cases h3 : (s.length : Int) < a
  · simp only [r21_2, show (a < 0) = False from eq_false h1, show (n < 0) = False from eq_false h2, show ((s.length : Int) < a) = True from eq_true h3, WpO_op, WpO_opG, WpO_nil, WpON_some, WpOG_true, WpOG_false, o_mv, o_pick, o_lt, o_gt, o_len, v_elB, v_ob, v_rto, b_lt, b_gt, len_tv, ev_tm, ev_cst, putD_some, want_b, bc_true, bc_false, reduceIte, Nat.reduceEqDiff, decide_true, decide_false, Bool.not_false]
    exact hQ _ _ (tail _ (by simp only [ev_tm, reduceIte, Nat.reduceEqDiff]))
  · simp only [r21_2, show (a < 0) = False from eq_false h1, show (n < 0) = False from eq_false h2, show ((s.length : Int) < a) = False from eq_false h3, b_sub 3 (show -9223372036854775808 ≤ (s.length : Int) - a by omega) (show (s.length : Int) - a ≤ 9223372036854775807 by omega), show ((s.length : Int) - a < n) = True from eq_true (by omega), WpO_op, WpO_opG, WpO_nil, WpON_some, WpOG_true, o_mv, o_pick, o_sub, o_lt, o_gt, o_len, v_elB, v_ob, v_rto, b_lt, b_gt, len_tv, ev_tm, ev_cst, putD_some, want_b, bc_false, reduceIte, Nat.reduceEqDiff, decide_true, decide_false, Bool.not_false]
    exact hQ _ _ (tail _ (by simp only [ev_tm, reduceIte, Nat.reduceEqDiff]))
theorem wslice_ok {m : M} {w : Nat} {L : List Bs} {s : Bs} {x : AV} {bw : Option Nat} (h : WAt m w (L ++ [s]) x bw) (hL : L.length ≤ 4000000000000) (hs : s.length ≤ 65536) {a n : Nat} (han : a + n ≤ s.length) : WpF Try.prog tb 21 [.ptr w 0, iv a, iv n] m fun v m' => v = .tuple [tv ((s.drop a).take n), iv 0] ∧ m' = m := by
  have hA : (a : Int) + (n : Int) = ((a + n : Nat) : Int) := by omega
  have hcut : (s.take (a + n)).drop a = (s.drop a).take n := by rw [List.drop_take, Nat.add_sub_cancel_left]
  refine WpF_intro at21 rfl rfl ?_
  unfold c21
  refine C_sr fun Q' hQ => ?_
  simp only [r21_0, WpO_op, WpO_nil, WpON_some, o_mv, ev_cst, putD_some, fill_cons, fill_nil, Nat.reduceAdd, Nat.zero_add]
  refine hQ _ _ (C_sr fun Q' hQ => ?_)
  simp only [r21_1, WpO_op, WpO_call, WpON_some, o_mv, ev_tm, evs_cons, evs_nil, putD_some, reduceIte, Nat.reduceEqDiff]
  refine WpOC.to ((wtext_spec h hL).mono ?_)
  rintro v m' ⟨rfl, rfl⟩
  simp only [WpO_op, WpO_nil, WpON_some, o_mv, ev_tm, putD_some, reduceIte, Nat.reduceEqDiff]
  refine hQ _ _ (WpC_seq (C_sr fun Q' hQ => ?_))
  simp only [r21_2, show ((a : Int) < 0) = False from eq_false (by omega), show ((n : Int) < 0) = False from eq_false (by omega), show ((s.length : Int) < (a : Int)) = False from eq_false (by omega), b_sub 3 (show -9223372036854775808 ≤ (s.length : Int) - (a : Int) by omega) (show (s.length : Int) - (a : Int) ≤ 9223372036854775807 by omega), show ((s.length : Int) - (a : Int) < (n : Int)) = False from eq_false (by omega), WpO_op, WpO_opG, WpO_nil, WpON_some, WpOG_true, o_mv, o_pick, o_sub, o_lt, o_gt, o_len, v_elB, v_ob, v_rto, b_lt, b_gt, len_tv, ev_tm, ev_cst, putD_some, want_b, bc_false, reduceIte, Nat.reduceEqDiff, decide_false, Bool.not_false]
  refine hQ _ _ (WpC_cond (t := false) ?_ (WpC_skip (C_sr fun Q' hQ => ?_)))
  · simp only [ev_tm, reduceIte, Nat.reduceEqDiff]
  simp only [r21_4, b_add 3 (show -9223372036854775808 ≤ (a : Int) + (n : Int) by omega) (show (a : Int) + (n : Int) ≤ 9223372036854775807 by omega), hA, v_sls s (show a ≤ a + n by omega) han, hcut, WpO_op, WpO_nil, WpON_some, o_mv, o_add, o_sls, v_rto, ev_tm, ev_cst, evo_some, putD_some, reduceIte, Nat.reduceEqDiff]
  refine hQ _ _ (WpC_ret ⟨.inr rfl, _, ares2, ?_⟩)
  simp only [and_self, ev_tm, one_2, reduceIte, Nat.reduceEqDiff]

/-! ### Fits -/
theorem wfits_bad {m : M} {w : Nat} {L : List Bs} {s : Bs} {x : AV} {bw : Option Nat} (hw : Wf m) (h : WAt m w (L ++ [s]) x bw) (hL : L.length ≤ 4000000000000) (hs : s.length ≤ 65536) {a n : Int} {t : Bs} (hbad : a < 0 ∨ n < 0 ∨ (s.length : Int) < a ∨ (s.length : Int) - a < n) {Q : AV → M → Prop} (hQ0 : ∀ m', Keep m m' (fun _ => False) → Q (iv 2) m') : WpF Try.prog tb 29 [.ptr w 0, .agg [iv a, iv n, tv t]] m Q := by
  have hE : At (m.addL 31 3 [iv a, iv n, tv t]) m.next 31 true [iv a, iv n, tv t] := At.addL rfl
  have hk1 : Keep m (m.addL 31 3 [iv a, iv n, tv t]) fun _ => False := Keep.addL hw
  refine WpF_intro at29 rfl rfl ?_
  unfold c29
  refine C_sr fun Q' hQ => ?_
  simp only [r29_0, WpO_op, WpO_nil, WpON_some, o_mv, o_box, v_ob, cells_agg, ev_tm, ev_cst, putD_some, fill_cons, fill_nil, reduceIte, Nat.reduceEqDiff, Nat.reduceAdd, List.length_cons, List.length_nil, Nat.zero_add]
  refine hQ _ _ (C_sr fun Q' hQ => ?_)
  generalize m.addL 31 3 [iv a, iv n, tv t] = m1 at hE hk1 ⊢
  have h1 := h.keep0 hw hk1
  simp only [r29_1, hE.rd, WpO_op, WpO_call, WpON_some, o_mv, o_load, o_fa, v_elPtr, v_rto, v_fa, ev_tm, evs_cons, evs_nil, putD_some, reduceIte, Nat.reduceEqDiff, Nat.zero_add, List.getElem?_cons_succ, List.getElem?_cons_zero]
  refine WpOC.to ((wslice_bad h1 hL hs hbad).mono ?_)
  rintro v m' ⟨rfl, rfl⟩
  simp only [WpO_op, WpO_nil, WpON_some, o_mv, o_ext, v_elTup, v_rto, ev_tm, putD_some, reduceIte, Nat.reduceEqDiff, List.getElem?_cons_succ, List.getElem?_cons_zero]
  refine hQ _ _ (WpC_seq (C_sr fun Q' hQ => ?_))
  simp only [r29_2, show ((2 : Int) = 0) = False from eq_false (by omega), WpO_op, WpO_nil, WpON_some, o_mv, o_ne, v_rto, b_ne, ev_tm, ev_cst, putD_some, reduceIte, Nat.reduceEqDiff, decide_false, Bool.not_false]
  refine hQ _ _ (WpC_cond (t := true) ?_ (C_sr fun Q' hQ => ?_))
  · simp only [ev_tm, reduceIte, Nat.reduceEqDiff]
  simp only [r29_3, WpO_op, WpO_nil, WpON_some, o_mv, ev_tm, putD_some, reduceIte, Nat.reduceEqDiff]
  refine hQ _ _ (WpC_ret ⟨.inr rfl, _, ares1, ?_⟩)
  simp only [ev_tm, one_1, reduceIte, Nat.reduceEqDiff]
  exact hQ0 _ hk1
theorem wfits_ok {m : M} {w : Nat} {L : List Bs} {s : Bs} {x : AV} {bw : Option Nat} (hw : Wf m) (h : WAt m w (L ++ [s]) x bw) (hL : L.length ≤ 4000000000000) (hs : s.length ≤ 65536) {a n : Nat} {t : Bs} (han : a + n ≤ s.length) {Q : AV → M → Prop} (hQ0 : ∀ m', Keep m m' (fun _ => False) → Q (iv (if (65536 : Int) - ((s.length : Int) - (n : Int)) < (t.length : Int) then 5 else 0)) m') : WpF Try.prog tb 29 [.ptr w 0, .agg [iv a, iv n, tv t]] m Q := by
  have hE : At (m.addL 31 3 [iv a, iv n, tv t]) m.next 31 true [iv a, iv n, tv t] := At.addL rfl
  have hk1 : Keep m (m.addL 31 3 [iv a, iv n, tv t]) fun _ => False := Keep.addL hw
  refine WpF_intro at29 rfl rfl ?_
  unfold c29
  refine C_sr fun Q' hQ => ?_
  simp only [r29_0, WpO_op, WpO_nil, WpON_some, o_mv, o_box, v_ob, cells_agg, ev_tm, ev_cst, putD_some, fill_cons, fill_nil, reduceIte, Nat.reduceEqDiff, Nat.reduceAdd, List.length_cons, List.length_nil, Nat.zero_add]
  refine hQ _ _ (C_sr fun Q' hQ => ?_)
  generalize m.addL 31 3 [iv a, iv n, tv t] = m1 at hE hk1 ⊢
  have h1 := h.keep0 hw hk1
  simp only [r29_1, hE.rd, WpO_op, WpO_call, WpON_some, o_mv, o_load, o_fa, v_elPtr, v_rto, v_fa, ev_tm, evs_cons, evs_nil, putD_some, reduceIte, Nat.reduceEqDiff, Nat.zero_add, List.getElem?_cons_succ, List.getElem?_cons_zero]
  refine WpOC.to ((wslice_ok h1 hL hs han).mono ?_)
  rintro v m' ⟨rfl, rfl⟩
  simp only [WpO_op, WpO_nil, WpON_some, o_mv, o_ext, v_elTup, v_rto, ev_tm, putD_some, reduceIte, Nat.reduceEqDiff, List.getElem?_cons_succ, List.getElem?_cons_zero]
  refine hQ _ _ (WpC_seq (C_sr fun Q' hQ => ?_))
  simp only [r29_2, WpO_op, WpO_nil, WpON_some, o_mv, o_ne, v_rto, b_ne, ev_tm, ev_cst, putD_some, reduceIte, Nat.reduceEqDiff, decide_true, Bool.not_true]
  refine hQ _ _ (WpC_cond (t := false) ?_ (WpC_skip (WpC_seq (C_sd fun Q' hQ => ?_))))
  · simp only [ev_tm, reduceIte, Nat.reduceEqDiff]
  simp only [r29_4, hE.rd, WpT_op, WpT_call, WpTN_some, o_mv, o_load, o_fa, o_len, v_elPtr, v_ob, v_rto, v_fa, len_tv, ev_tm, evs_cons, evs_nil, putD_some, reduceIte, Nat.reduceEqDiff, Nat.zero_add, List.nil_append, List.cons_append, List.getElem?_cons_succ, List.getElem?_cons_zero]
  refine WpTC.to ((wtext_spec h1 hL).mono ?_)
  rintro v m' ⟨rfl, rfl⟩
  by_cases hl : (65536 : Int) - ((s.length : Int) - (n : Int)) < (t.length : Int)
  · rw [if_pos hl] at hQ0
    simp only [hE.rd, hl, b_sub 3 (show -9223372036854775808 ≤ (s.length : Int) - (n : Int) by omega) (show (s.length : Int) - (n : Int) ≤ 9223372036854775807 by omega), b_sub 3 (show -9223372036854775808 ≤ (65536 : Int) - ((s.length : Int) - (n : Int)) by omega) (show (65536 : Int) - ((s.length : Int) - (n : Int)) ≤ 9223372036854775807 by omega), WpT_op, WpT_nil, WpTN_some, o_load, o_sub, o_gt, o_fa, o_len, v_elPtr, v_ob, v_rto, v_fa, b_gt, len_tv, ev_tm, ev_cst, putD_some, reduceIte, Nat.reduceEqDiff, Nat.zero_add, decide_true, List.nil_append, List.cons_append, List.getElem?_cons_succ, List.getElem?_cons_zero]
    refine hQ _ ⟨?_, _, rfl, ?_⟩
    · simp only [List.all_cons, List.all_nil, again0, want_none, r29_4, hE.rd, aq_iv, aq_tv, o_load, v_elPtr, v_ob, v_rto, ev_tm, bc_true, reduceIte, Nat.reduceEqDiff, Bool.and_self, List.getElem?_cons_succ, List.getElem?_cons_zero]
    refine WpC_cond (t := true) ?_ (C_sr fun Q' hQ => ?_)
    · simp only [ev_tm, reduceIte, Nat.reduceEqDiff]
    simp only [r29_5, WpO_op, WpO_nil, WpON_some, o_mv, ev_cst, putD_some]
    refine hQ _ _ (WpC_ret ⟨.inr rfl, _, ares1, ?_⟩)
    simp only [ev_tm, one_1, reduceIte, Nat.reduceEqDiff]
    exact hQ0 _ hk1
  · rw [if_neg hl] at hQ0
    simp only [hE.rd, show ((65536 : Int) - ((s.length : Int) - (n : Int)) < (t.length : Int)) = False from eq_false hl, b_sub 3 (show -9223372036854775808 ≤ (s.length : Int) - (n : Int) by omega) (show (s.length : Int) - (n : Int) ≤ 9223372036854775807 by omega), b_sub 3 (show -9223372036854775808 ≤ (65536 : Int) - ((s.length : Int) - (n : Int)) by omega) (show (65536 : Int) - ((s.length : Int) - (n : Int)) ≤ 9223372036854775807 by omega), WpT_op, WpT_nil, WpTN_some, o_load, o_sub, o_gt, o_fa, o_len, v_elPtr, v_ob, v_rto, v_fa, b_gt, len_tv, ev_tm, ev_cst, putD_some, reduceIte, Nat.reduceEqDiff, Nat.zero_add, decide_false, List.nil_append, List.cons_append, List.getElem?_cons_succ, List.getElem?_cons_zero]
    refine hQ _ ⟨?_, _, rfl, ?_⟩
    · simp only [List.all_cons, List.all_nil, again0, want_none, r29_4, hE.rd, aq_iv, aq_tv, o_load, v_elPtr, v_ob, v_rto, ev_tm, bc_true, reduceIte, Nat.reduceEqDiff, Bool.and_self, List.getElem?_cons_succ, List.getElem?_cons_zero]
    refine WpC_cond (t := false) ?_ (WpC_skip (C_sr fun Q' hQ => ?_))
    · simp only [ev_tm, reduceIte, Nat.reduceEqDiff]
    simp only [r29_6, WpO_op, WpO_nil, WpON_some, o_mv, ev_cst, putD_some]
    refine hQ _ _ (WpC_ret ⟨.inr rfl, _, ares1, ?_⟩)
    simp only [ev_tm, one_1, reduceIte, Nat.reduceEqDiff]
    exact hQ0 _ hk1

/-! ### Apply and Inverse: the same errors -/
def errF (L : List Bs) (s : Bs) (e : Ed) (v : Int) : Prop := ∀ (m : M) (w : Nat) (x : AV) (bw : Option Nat), Wf m → WAt m w (L ++ [s]) x bw → ∀ Q : AV → M → Prop, (∀ m', Keep m m' (fun _ => False) → Q (iv v) m') → WpF Try.prog tb 29 [.ptr w 0, .agg (ecell e)] m Q
theorem wapply_err {m : M} {w : Nat} {L : List Bs} {s : Bs} {x : AV} {bw : Option Nat} {e : Ed} {v : Int} (hv : v ≠ 0) (hF : errF L s e v) (hw : Wf m) (h : WAt m w (L ++ [s]) x bw) {Q : AV → M → Prop} (hQ0 : ∀ m', Keep m m' (fun _ => False) → Q (iv v) m') : WpF Try.prog tb 18 [.ptr w 0, .agg (ecell e)] m Q := by
  have hE : At (m.addL 31 3 (ecell e)) m.next 31 true (ecell e) := At.addL rfl
  have hk1 : Keep m (m.addL 31 3 (ecell e)) fun _ => False := Keep.addL hw
  refine WpF_intro at18 rfl rfl ?_
  unfold c18
  refine C_sr fun Q' hQ => ?_
  simp only [r18_0, show (ecell e).length = 3 from rfl, WpO_op, WpO_nil, WpON_some, o_mv, o_box, v_ob, cells_agg, ev_tm, ev_cst, putD_some, fill_cons, fill_nil, reduceIte, Nat.reduceEqDiff, Nat.reduceAdd, Nat.zero_add]
  refine hQ _ _ (C_sr fun Q' hQ => ?_)
  generalize m.addL 31 3 (ecell e) = m1 at hE hk1 ⊢
  have hr : m1.rdN m.next 0 3 = some (ecell e) := by rw [hE.rdN (show 0 + 3 ≤ (ecell e).length from Nat.le_refl _)]; rfl
  simp only [r18_1, hr, WpO_op, WpO_call, WpON_some, o_mv, o_loadN, v_elPtr, v_ob, ev_tm, evs_cons, evs_nil, putD_some, reduceIte, Nat.reduceEqDiff]
  refine WpOC.to (hF m1 w x bw hk1.wf (h.keep0 hw hk1) _ fun m2 hk2 => ?_)
  simp only [WpO_op, WpO_nil, WpON_some, o_mv, ev_tm, putD_some, reduceIte, Nat.reduceEqDiff]
  refine hQ _ _ (WpC_seq (C_sr fun Q' hQ => ?_))
  simp only [r18_2, show (v = 0) = False from eq_false hv, WpO_op, WpO_nil, WpON_some, o_mv, o_ne, v_rto, b_ne, ev_tm, ev_cst, putD_some, reduceIte, Nat.reduceEqDiff, decide_false, Bool.not_false]
  refine hQ _ _ (WpC_cond (t := true) ?_ (C_sr fun Q' hQ => ?_))
  · simp only [ev_tm, reduceIte, Nat.reduceEqDiff]
  simp only [r18_3, WpO_op, WpO_nil, WpON_some, o_mv, ev_tm, putD_some, reduceIte, Nat.reduceEqDiff]
  refine hQ _ _ (WpC_ret ⟨.inr rfl, _, ares1, ?_⟩)
  simp only [ev_tm, one_1, reduceIte, Nat.reduceEqDiff]
  exact hQ0 _ (hk1.trans hk2 fun _ _ h => h)
theorem winv_err {m : M} {w : Nat} {L : List Bs} {s : Bs} {x : AV} {bw : Option Nat} {e : Ed} {v : Int} (hv : v ≠ 0) (hF : errF L s e v) (hw : Wf m) (h : WAt m w (L ++ [s]) x bw) {Q : AV → M → Prop} (hQ0 : ∀ m', Keep m m' (fun _ => False) → Q (.tuple [.agg [iv 0, iv 0, tv []], iv v]) m') : WpF Try.prog tb 20 [.ptr w 0, .agg (ecell e)] m Q := by
  refine WpF_intro at20 rfl rfl ?_
  unfold c20
  obtain ⟨b1, b2, m2, e1, e2, e3, hlt, hE, hR, hk2⟩ := two_new hw (iv e.at') (iv e.n) (tv e.text) (iv 0) (iv 0) (tv [])
  have hc : ecell e = [iv e.at', iv e.n, tv e.text] := rfl
  refine C_sr fun Q' hQ => ?_
  simp only [r20_0, hc, e1, e2, e3, WpO_op, WpO_nil, WpON_some, o_mv, o_alloc, o_box, v_ob, cells_agg, ev_tm, ev_cst, putD_some, fill_cons, fill_nil, reduceIte, Nat.reduceEqDiff, Nat.reduceAdd, List.length_cons, List.length_nil, Nat.zero_add]
  refine hQ _ _ (C_sr fun Q' hQ => ?_)
  simp only [r20_1, hE.rdN (i := 0) (n := 3) (show 0 + 3 ≤ 3 by omega), WpO_op, WpO_call, WpON_some, o_mv, o_loadN, v_elPtr, v_ob, ev_tm, evs_cons, evs_nil, putD_some, reduceIte, Nat.reduceEqDiff, List.take_succ_cons, List.drop_zero, List.take_nil]
  refine WpOC.to (hF m2 w x bw hk2.wf (h.keep0 hw hk2) _ fun m3 hk3 => ?_)
  have hR := hR.keep hk2.wf hk3 (fun h => h)
  simp only [WpO_op, WpO_nil, WpON_some, o_mv, ev_tm, putD_some, reduceIte, Nat.reduceEqDiff]
  refine hQ _ _ (WpC_seq (C_sr fun Q' hQ => ?_))
  simp only [r20_2, show (v = 0) = False from eq_false hv, WpO_op, WpO_nil, WpON_some, o_mv, o_ne, v_rto, b_ne, ev_tm, ev_cst, putD_some, reduceIte, Nat.reduceEqDiff, decide_false, Bool.not_false]
  refine hQ _ _ (WpC_cond (t := true) ?_ (C_sr fun Q' hQ => ?_))
  · simp only [ev_tm, reduceIte, Nat.reduceEqDiff]
  have hR3 := hR.upd (i := 0) (vs := [iv 0, iv 0, tv []]) (by show 0 + 3 ≤ 3; omega)
  simp only [r20_3, hR.wr (i := 0) (vs := [iv 0, iv 0, tv []]) (by show 0 + 3 ≤ 3; omega), WpO_op, WpO_nil, WpON_some, o_mv, o_build, o_store, v_elPtr, v_ob, cells_agg, pv_nil, fillA_nil, ev_tm, putD_none, putD_some, bc_true, nbeq, reduceIte, Nat.reduceEqDiff, Nat.reduceAdd, List.length_cons, List.length_nil, Nat.zero_add, decide_true]
  refine hQ _ _ (WpC_ret ⟨.inr rfl, [.agg [iv 0, iv 0, tv []], iv v], ?_, ?_⟩)
  · rw [ares15]
    simp only [hR3.rdN (i := 0) (n := 3) (show 0 + 3 ≤ 3 by omega), splice, v_elPtr, v_ob, ev_tm, reduceIte, Nat.reduceEqDiff, Nat.reduceAdd, List.length_cons, List.length_nil, Nat.zero_add, List.take_succ_cons, List.take_zero, List.drop_succ_cons, List.drop_zero, List.drop_nil, List.take_nil, List.nil_append, List.append_nil]
  · simp only [one_2]
    exact hQ0 _ ((hk2.trans hk3 fun _ _ h => h).trans (Keep.updAt hk3.wf b2 0 _) fun b hb h => by omega)
def okF (L : List Bs) (s : Bs) (a n : Nat) (t : Bs) : Prop := ∀ (m : M) (w : Nat) (x : AV) (bw : Option Nat), Wf m → WAt m w (L ++ [s]) x bw → ∀ Q : AV → M → Prop, (∀ m', Keep m m' (fun _ => False) → Q (iv 0) m') → WpF Try.prog tb 29 [.ptr w 0, .agg [iv a, iv n, tv t]] m Q
theorem winv_ok {m : M} {w : Nat} {L : List Bs} {s : Bs} {x : AV} {bw : Option Nat} {a n : Nat} {t : Bs} (hF : okF L s a n t) (hL : L.length ≤ 4000000000000) (hs : s.length ≤ 65536) (han : a + n ≤ s.length) (hw : Wf m) (h : WAt m w (L ++ [s]) x bw) {Q : AV → M → Prop} (hQ0 : ∀ m', Keep m m' (fun _ => False) → Q (.tuple [.agg [iv a, iv t.length, tv ((s.drop a).take n)], iv 0]) m') : WpF Try.prog tb 20 [.ptr w 0, .agg [iv a, iv n, tv t]] m Q := by
  have hA : (a : Int) + (n : Int) = ((a + n : Nat) : Int) := by omega
  have hcut : (s.take (a + n)).drop a = (s.drop a).take n := by rw [List.drop_take, Nat.add_sub_cancel_left]
  refine WpF_intro at20 rfl rfl ?_
  unfold c20
  obtain ⟨b1, b2, m2, e1, e2, e3, hlt, hE, hR, hk2⟩ := two_new hw (iv a) (iv n) (tv t) (iv 0) (iv 0) (tv [])
  refine C_sr fun Q' hQ => ?_
  simp only [r20_0, e1, e2, e3, WpO_op, WpO_nil, WpON_some, o_mv, o_alloc, o_box, v_ob, cells_agg, ev_tm, ev_cst, putD_some, fill_cons, fill_nil, reduceIte, Nat.reduceEqDiff, Nat.reduceAdd, List.length_cons, List.length_nil, Nat.zero_add]
  refine hQ _ _ (C_sr fun Q' hQ => ?_)
  simp only [r20_1, hE.rdN (i := 0) (n := 3) (show 0 + 3 ≤ 3 by omega), WpO_op, WpO_call, WpON_some, o_mv, o_loadN, v_elPtr, v_ob, ev_tm, evs_cons, evs_nil, putD_some, reduceIte, Nat.reduceEqDiff, List.take_succ_cons, List.drop_zero, List.take_nil]
  refine WpOC.to (hF m2 w x bw hk2.wf (h.keep0 hw hk2) _ fun m3 hk3 => ?_)
  have hw3 := hk3.wf
  have hR := hR.keep hk2.wf hk3 (fun h => h)
  have hE := hE.keep hk2.wf hk3 (fun h => h)
  have h3 := (h.keep0 hw hk2).keep0 hk2.wf hk3
  simp only [WpO_op, WpO_nil, WpON_some, o_mv, ev_tm, putD_some, reduceIte, Nat.reduceEqDiff]
  refine hQ _ _ (WpC_seq (C_sr fun Q' hQ => ?_))
  simp only [r20_2, WpO_op, WpO_nil, WpON_some, o_mv, o_ne, v_rto, b_ne, ev_tm, ev_cst, putD_some, reduceIte, Nat.reduceEqDiff, decide_true, Bool.not_true]
  refine hQ _ _ (WpC_cond (t := false) ?_ (WpC_skip (C_sd fun Q' hQ => ?_)))
  · simp only [ev_tm, reduceIte, Nat.reduceEqDiff]
  have hR3 := hR.upd (i := 0) (vs := [iv a, iv t.length, tv ((s.drop a).take n)]) (by show 0 + 3 ≤ 3; omega)
  simp only [r20_4, hE.rd, WpT_op, WpT_call, WpTN_some, o_mv, o_load, o_fa, o_len, v_elPtr, v_ob, v_rto, v_fa, len_tv, ev_tm, evs_cons, evs_nil, putD_some, reduceIte, Nat.reduceEqDiff, Nat.zero_add, List.nil_append, List.cons_append, List.getElem?_cons_succ, List.getElem?_cons_zero]
  refine WpTC.to ((wtext_spec h3 hL).mono ?_)
  rintro v m' ⟨rfl, rfl⟩
  simp only [hE.rd, b_add 3 (show -9223372036854775808 ≤ (a : Int) + (n : Int) by omega) (show (a : Int) + (n : Int) ≤ 9223372036854775807 by omega), hA, v_sls s (show a ≤ a + n by omega) han, hcut, hR.wr (i := 0) (vs := [iv a, iv t.length, tv ((s.drop a).take n)]) (by show 0 + 3 ≤ 3; omega), WpT_op, WpT_nil, WpTN_some, o_mv, o_build, o_load, o_store, o_add, o_sls, o_fa, v_elPtr, v_ob, v_rto, v_fa, cells_iv, cells_tv, cells_agg, pv_nil, pv_cons, fillA_nil, fillA_cons, ev_tm, ev_cst, evo_some, putD_none, putD_some, bc_true, nbeq, nble, reduceIte, Nat.reduceEqDiff, Nat.reduceAdd, Nat.reduceLeDiff, List.length_cons, List.length_nil, Nat.zero_add, decide_true, Bool.true_and, Bool.and_true, List.take_succ_cons, List.take_zero, List.drop_succ_cons, List.drop_zero, List.drop_nil, List.nil_append, List.cons_append, List.append_nil, List.getElem?_cons_succ, List.getElem?_cons_zero]
  refine hQ _ ⟨?_, _, rfl, ?_⟩
  · simp only [List.all_cons, List.all_nil, again0, want_none, r20_4, hE.rd, aq_iv, aq_tv, o_load, v_elPtr, v_ob, v_rto, ev_tm, bc_true, reduceIte, Nat.reduceEqDiff, Bool.and_self, List.getElem?_cons_succ, List.getElem?_cons_zero]
  refine WpC_ret ⟨.inr rfl, [.agg [iv a, iv t.length, tv ((s.drop a).take n)], iv 0], ?_, ?_⟩
  · rw [ares15]
    simp only [hR3.rdN (i := 0) (n := 3) (show 0 + 3 ≤ 3 by omega), splice, v_elPtr, v_ob, ev_tm, reduceIte, Nat.reduceEqDiff, Nat.reduceAdd, List.length_cons, List.length_nil, Nat.zero_add, List.take_succ_cons, List.take_zero, List.drop_succ_cons, List.drop_zero, List.drop_nil, List.take_nil, List.nil_append, List.append_nil]
  · simp only [one_2]
    exact hQ0 _ ((hk2.trans hk3 fun _ _ h => h).trans (Keep.updAt hw3 b2 0 _) fun b hb h => by omega)
set_option maxHeartbeats 1000000 in
theorem wapply_ok {m : M} {w : Nat} {L : List Bs} {s : Bs} {x : AV} {bw : Option Nat} {a n : Nat} {t : Bs} (hF : okF L s a n t) (hL : L.length ≤ 3900000000000) (hs : s.length ≤ 65536) (ht : t.length ≤ 65536) (han : a + n ≤ s.length) (hw : Wf m) (h : WAt m w (L ++ [s]) x bw) {Q : AV → M → Prop}
    (hQ0 : ∀ m' x' bw', WAt m' w (L ++ [s] ++ [s.take a ++ (t ++ s.drop (a + n))]) x' bw' → Keep m m' (ow w bw) → Fs m bw bw' → Q (iv 0) m') : WpF Try.prog tb 18 [.ptr w 0, .agg [iv a, iv n, tv t]] m Q := by
  have hA : (a : Int) + (n : Int) = ((a + n : Nat) : Int) := by omega
  have hE : At (m.addL 31 3 [iv a, iv n, tv t]) m.next 31 true [iv a, iv n, tv t] := At.addL rfl
  have hk1 : Keep m (m.addL 31 3 [iv a, iv n, tv t]) fun _ => False := Keep.addL hw
  refine WpF_intro at18 rfl rfl ?_
  unfold c18
  refine C_sr fun Q' hQ => ?_
  simp only [r18_0, WpO_op, WpO_nil, WpON_some, o_mv, o_box, v_ob, cells_agg, ev_tm, ev_cst, putD_some, fill_cons, fill_nil, reduceIte, Nat.reduceEqDiff, Nat.reduceAdd, List.length_cons, List.length_nil, Nat.zero_add]
  refine hQ _ _ (C_sr fun Q' hQ => ?_)
  generalize m.addL 31 3 [iv a, iv n, tv t] = m1 at hE hk1 ⊢
  simp only [r18_1, hE.rdN (i := 0) (n := 3) (show 0 + 3 ≤ 3 by omega), WpO_op, WpO_call, WpON_some, o_mv, o_loadN, v_elPtr, v_ob, ev_tm, evs_cons, evs_nil, putD_some, reduceIte, Nat.reduceEqDiff, List.take_succ_cons, List.drop_zero, List.take_nil]
  refine WpOC.to (hF m1 w x bw hk1.wf (h.keep0 hw hk1) _ fun m2 hk2 => ?_)
  have hw2 := hk2.wf
  have hE := hE.keep hk1.wf hk2 (fun h => h)
  have h2 := (h.keep0 hw hk1).keep0 hk1.wf hk2
  simp only [WpO_op, WpO_nil, WpON_some, o_mv, ev_tm, putD_some, reduceIte, Nat.reduceEqDiff]
  refine hQ _ _ (WpC_seq (C_sr fun Q' hQ => ?_))
  simp only [r18_2, WpO_op, WpO_nil, WpON_some, o_mv, o_ne, v_rto, b_ne, ev_tm, ev_cst, putD_some, reduceIte, Nat.reduceEqDiff, decide_true, Bool.not_true]
  refine hQ _ _ (WpC_cond (t := false) ?_ (WpC_skip (C_sr fun Q' hQ => ?_)))
  · simp only [ev_tm, reduceIte, Nat.reduceEqDiff]
  simp only [r18_4, WpO_op, WpO_call, WpON_some, o_mv, ev_tm, evs_cons, evs_nil, putD_some, reduceIte, Nat.reduceEqDiff]
  refine WpOC.to ((wtext_spec h2 (by omega)).mono ?_)
  rintro v m' ⟨rfl, rfl⟩
  simp only [WpO_op, WpO_nil, WpON_some, o_mv, ev_tm, putD_some, reduceIte, Nat.reduceEqDiff]
  refine hQ _ _ (C_sd fun Q' hQ => ?_)
  have hk3 : Keep m' (m'.addL 9 1 [tv (s.take a ++ t ++ s.drop (a + n))]) fun _ => False := Keep.addL hw2
  have hw3 := hk3.wf
  have h3 := h2.keep0 hw2 hk3
  have hs3 : SlAt (m'.addL 9 1 [tv (s.take a ++ t ++ s.drop (a + n))]) 9 1 (.slice m'.next 0 1 1 false) 1 [tv (s.take a ++ t ++ s.drop (a + n))] (some m'.next) := SlAt.lit rfl rfl (by omega)
  obtain ⟨s4, m4, o4, ha4, hs4, hk4, ho4⟩ := h3.sl.append (bytes := 16) (z := [tv []]) hw3 hs3.src (room_of (by rw [List.length_append]; show L.length + 1 + 1 ≤ _; omega) (by omega))
  have ho4 : Fs (m'.addL 9 1 [tv (s.take a ++ t ++ s.drop (a + n))]) bw o4 := by rcases ho4 with rfl | ⟨b, hb, hb', _⟩; exact .inl rfl; exact .inr ⟨b, hb, hb'⟩
  have hdoc4 := h3.doc.keep hw3 hk4 h3.nb
  simp only [r18_5, h2.doc.rd, hE.rd, v_sls_hi s (show a ≤ s.length by omega), bs_add 9 (show (s.take a).length + t.length ≤ 9223372036854775807 by rw [List.length_take]; omega), b_add 3 (show -9223372036854775808 ≤ (a : Int) + (n : Int) by omega) (show (a : Int) + (n : Int) ≤ 9223372036854775807 by omega), hA, v_sls_lo s (show a + n ≤ s.length by omega),
    bs_add 9 (show (s.take a ++ t).length + (s.drop (a + n)).length ≤ 9223372036854775807 by rw [List.length_append, List.length_take, List.length_drop]; omega), ha4, hs4.cells1, hdoc4.wr (i := 0) (vs := [s4]) (by show 0 + 1 ≤ 1; omega), WpT_op, WpT_nil, WpTN_some, o_mv, o_bslice, o_load, o_store, o_nil, o_add, o_sls, o_fa, o_app, v_elPtr, v_ob, v_rto, v_nil, v_fa, cells_tv, pv_nil, pv_cons, fillA_nil, fillA_cons, repl_1, ev_tm, evo_some, evo_none, putD_none, putD_some, bc_true, nbeq, nble, reduceIte, Nat.reduceEqDiff, Nat.reduceLeDiff, List.length_cons, List.length_nil, Nat.zero_add, decide_true, Bool.and_true, List.take_zero, List.drop_succ_cons, List.drop_nil, List.nil_append, List.cons_append, List.append_nil, List.getElem?_cons_succ, List.getElem?_cons_zero]
  refine hQ _ ⟨?_, _, rfl, ?_⟩
  · simp only [List.all_cons, List.all_nil, again0, want_none, r18_5, h2.doc.rd, h3.doc.rd, hE.rd, h2.sl.aq, aq_iv, aq_tv, o_load, v_elPtr, v_ob, v_rto, ev_tm, bc_true, reduceIte, Nat.reduceEqDiff, Bool.and_self, List.getElem?_cons_succ, List.getElem?_cons_zero]
  clear hQ
  refine C_sr fun Q' hQ => ?_
  simp only [r18_6, WpO_op, WpO_nil, WpON_some, o_mv, ev_cst, putD_some]
  refine hQ _ _ (WpC_ret ⟨.inr rfl, _, ares1, ?_⟩)
  simp only [ev_tm, one_1, reduceIte, Nat.reduceEqDiff]
  have n1 := hk1.next
  have n2 := hk2.next
  have n3 := hk3.next
  have hlt : w < m'.next := h2.doc.lt hw2
  refine hQ0 _ s4 o4 ⟨?_, ?_, ?_⟩ ?_ (ho4.up (by omega))
  · exact hdoc4.upd (i := 0) (vs := [s4]) (by show 0 + 1 ≤ 1; omega)
  · refine (hs4.cast (by simp) (by simp)).of_get fun b hb => M.get_upd_ne fun e => ?_
    rcases ho4.own hb with h' | h'
    · exact h3.nb (by rw [h', e])
    · omega
  · intro e
    rcases ho4.own e with h' | h'
    · exact h3.nb h'
    · omega
  · exact ((((hk1.trans hk2 fun _ _ h => h).trans hk3 fun _ _ h => h).mono (G := ow w bw) fun _ _ h => h.elim).trans hk4 fun b _ h => .inr h).trans (Keep.updAt hk4.wf w 0 _) fun b _ h => .inl h

/-! ### Undo, New, Pieces -/
theorem wundo_none {m : M} {w : Nat} {s : Bs} {x : AV} {bw : Option Nat} (h : WAt m w [s] x bw) : WpF Try.prog tb 19 [.ptr w 0] m fun v m' => v = iv 11 ∧ m' = m := by
  have hl : lenK false x = some 1 := h.sl.len
  refine WpF_intro at19 rfl rfl ?_
  unfold c19
  refine C_sr fun Q' hQ => ?_
  simp only [r19_0, WpO_op, WpO_nil, WpON_some, o_mv, ev_cst, putD_some, fill_cons, fill_nil, Nat.zero_add]
  refine hQ _ _ (WpC_seq (C_sr fun Q' hQ => ?_))
  simp only [r19_1, h.doc.rd, hl, show (((1 : Nat) : Int) = 1) = True from eq_true rfl, WpO_op, WpO_nil, WpON_some, o_mv, o_load, o_nil, o_eq, o_fa, o_len, v_elPtr, v_ob, v_rto, v_nil, v_fa, b_eq, ev_tm, ev_cst, putD_some, reduceIte, Nat.reduceEqDiff, Nat.zero_add, decide_true, List.getElem?_cons_zero]
  refine hQ _ _ (WpC_cond (t := true) ?_ (C_sr fun Q' hQ => ?_))
  · simp only [ev_tm, reduceIte, Nat.reduceEqDiff]
  simp only [r19_2, WpO_op, WpO_nil, WpON_some, o_mv, ev_cst, putD_some]
  refine hQ _ _ (WpC_ret ⟨.inr rfl, _, ares1, ?_⟩)
  simp only [and_self, ev_tm, one_1, reduceIte, Nat.reduceEqDiff]
theorem wundo_ok {m : M} {w : Nat} {L : List Bs} {s : Bs} {x : AV} {bw : Option Nat} (hL : L.length ≤ 4000000000000) (h0 : L ≠ []) (hw : Wf m) (h : WAt m w (L ++ [s]) x bw) {Q : AV → M → Prop} (hQ0 : ∀ m' x', WAt m' w L x' bw → Keep m m' (fun b => b = w) → Q (iv 0) m') : WpF Try.prog tb 19 [.ptr w 0] m Q := by
  have hpos : 0 < L.length := List.length_pos_iff.2 h0
  have hlen : (L ++ [s]).length = L.length + 1 := by simp
  have hl : lenK false x = some (L.length + 1) := by have := h.sl.len; rw [hlen] at this; exact this
  have hA : ((L.length + 1 : Nat) : Int) - 1 = (L.length : Int) := by omega
  have hle : L.length ≤ (L ++ [s]).length := by omega
  have hs2 := h.sl.take hle
  refine WpF_intro at19 rfl rfl ?_
  unfold c19
  refine C_sr fun Q' hQ => ?_
  simp only [r19_0, WpO_op, WpO_nil, WpON_some, o_mv, ev_cst, putD_some, fill_cons, fill_nil, Nat.zero_add]
  refine hQ _ _ (WpC_seq (C_sr fun Q' hQ => ?_))
  simp only [r19_1, h.doc.rd, hl, show (((L.length + 1 : Nat) : Int) = 1) = False from eq_false (by omega), WpO_op, WpO_nil, WpON_some, o_mv, o_load, o_nil, o_eq, o_fa, o_len, v_elPtr, v_ob, v_rto, v_nil, v_fa, b_eq, ev_tm, ev_cst, putD_some, reduceIte, Nat.reduceEqDiff, Nat.zero_add, decide_false, List.getElem?_cons_zero]
  refine hQ _ _ (WpC_cond (t := false) ?_ (WpC_skip (C_sd fun Q' hQ => ?_)))
  · simp only [ev_tm, reduceIte, Nat.reduceEqDiff]
  simp only [r19_3, h.doc.rd, hl, b_sub 3 (show -9223372036854775808 ≤ ((L.length + 1 : Nat) : Int) - 1 by omega) (show ((L.length + 1 : Nat) : Int) - 1 ≤ 9223372036854775807 by omega), hA, h.sl.run_take hle, hs2.cells1, h.doc.wr (i := 0) (vs := [slTake x L.length]) (by show 0 + 1 ≤ 1; omega), WpT_op, WpT_nil, WpTN_some, o_mv, o_load, o_store, o_nil, o_sub, o_take, o_fa, o_len, v_elPtr, v_ob, v_rto, v_nil, v_fa, ev_tm, ev_cst, putD_none, putD_some, bc_true, nbeq, reduceIte, Nat.reduceEqDiff, List.length_cons, List.length_nil, Nat.zero_add, decide_true, List.nil_append, List.cons_append, List.getElem?_cons_zero]
  refine hQ _ ⟨?_, _, rfl, ?_⟩
  · simp only [List.all_cons, List.all_nil, again0, want_none, r19_3, h.doc.rd, h.sl.aq, hs2.aq, h.sl.run_take hle, o_load, o_take, v_elPtr, v_ob, v_rto, ev_tm, bc_true, reduceIte, Nat.reduceEqDiff, Bool.and_self, List.getElem?_cons_succ, List.getElem?_cons_zero]
  refine C_sr fun Q' hQ => ?_
  simp only [r19_4, WpO_op, WpO_nil, WpON_some, o_mv, ev_cst, putD_some]
  refine hQ _ _ (WpC_ret ⟨.inr rfl, _, ares1, ?_⟩)
  simp only [ev_tm, one_1, reduceIte, Nat.reduceEqDiff]
  refine hQ0 _ (slTake x L.length) ⟨h.doc.upd (i := 0) (vs := [slTake x L.length]) (by show 0 + 1 ≤ 1; omega), ?_, h.nb⟩ (Keep.updAt hw w 0 _)
  refine (hs2.cast rfl ?_).of_get fun b hb => M.get_upd_ne fun e => h.nb (by rw [hb, e])
  rw [Nat.mul_one, List.map_append]
  exact List.take_left' (by simp)
theorem wnew_large {m : M} {t : Bs} (hl : 65536 < t.length) : WpF Try.prog tb 17 [tv t] m fun v m' => v = .tuple [nilp, iv 5] ∧ m' = m := by
  refine WpF_intro at17 rfl rfl ?_
  unfold c17
  refine C_sr fun Q' hQ => ?_
  simp only [r17_0, WpO_op, WpO_nil, WpON_some, o_mv, ev_cst, putD_some, fill_cons, fill_nil, Nat.zero_add]
  refine hQ _ _ (WpC_seq (C_sr fun Q' hQ => ?_))
  simp only [r17_1, show ((65536 : Int) < (t.length : Int)) = True from eq_true (by omega), WpO_op, WpO_nil, WpON_some, o_mv, o_gt, o_len, v_ob, v_rto, b_gt, len_tv, ev_tm, ev_cst, putD_some, reduceIte, Nat.reduceEqDiff, decide_true]
  refine hQ _ _ (WpC_cond (t := true) ?_ (C_sr fun Q' hQ => ?_))
  · simp only [ev_tm, reduceIte, Nat.reduceEqDiff]
  simp only [r17_2, WpO_op, WpO_nil, WpON_some, o_mv, ev_cst, putD_some]
  refine hQ _ _ (WpC_ret ⟨.inr rfl, _, ares2, ?_⟩)
  simp only [and_self, ev_tm, one_2, reduceIte, Nat.reduceEqDiff]
theorem wnew_ok {m : M} {t : Bs} (hw : Wf m) (hl : t.length ≤ 65536) {Q : AV → M → Prop} (hQ0 : ∀ m' w x bw, WAt m' w [t] x bw → Keep m m' (fun _ => False) → (∀ b, ow w bw b → m.next ≤ b) → Q (.tuple [.ptr w 0, iv 0]) m') : WpF Try.prog tb 17 [tv t] m Q := by
  refine WpF_intro at17 rfl rfl ?_
  unfold c17
  refine C_sr fun Q' hQ => ?_
  simp only [r17_0, WpO_op, WpO_nil, WpON_some, o_mv, ev_cst, putD_some, fill_cons, fill_nil, Nat.zero_add]
  refine hQ _ _ (WpC_seq (C_sr fun Q' hQ => ?_))
  simp only [r17_1, show ((65536 : Int) < (t.length : Int)) = False from eq_false (by omega), WpO_op, WpO_nil, WpON_some, o_mv, o_gt, o_len, v_ob, v_rto, b_gt, len_tv, ev_tm, ev_cst, putD_some, reduceIte, Nat.reduceEqDiff, decide_false]
  refine hQ _ _ (WpC_cond (t := false) ?_ (WpC_skip (C_sr fun Q' hQ => ?_)))
  · simp only [ev_tm, reduceIte, Nat.reduceEqDiff]
  have hk1 : Keep m (m.addL 9 1 [tv t]) fun _ => False := Keep.addL hw
  have hs1 : SlAt (m.addL 9 1 [tv t]) 9 1 (.slice m.next 0 1 1 false) 1 [tv t] (some m.next) := SlAt.lit rfl rfl (by omega)
  have hn1 : (m.addL 9 1 [tv t]).next = m.next + 1 := M.next_addL _ _ _ _
  have hc1 : cellsO (.slice m.next 0 1 1 false) = some [.slice m.next 0 1 1 false] := rfl
  simp only [r17_3, hc1, WpO_op, WpO_nil, WpON_some, o_mv, o_box, o_build, o_bslice, v_ob, cells_tv, cells_agg, pv_nil, pv_cons, fillA_nil, fillA_cons, repl_1, ev_tm, ev_cst, putD_some, bc_true, nbeq, nble, reduceIte, Nat.reduceEqDiff, Nat.reduceLeDiff, List.length_cons, List.length_nil, Nat.zero_add, decide_true, Bool.and_true, List.take_zero, List.drop_succ_cons, List.drop_nil, List.nil_append, List.append_nil]
  generalize m.addL 9 1 [tv t] = m1 at hk1 hs1 hn1 ⊢
  have hw1 := hk1.wf
  have hd2 : At (m1.addL 66 1 [.slice m.next 0 1 1 false]) m1.next 66 true [.slice m.next 0 1 1 false] := At.addL rfl
  have hk2 : Keep m1 (m1.addL 66 1 [.slice m.next 0 1 1 false]) fun _ => False := Keep.addL hw1
  refine hQ _ _ (WpC_ret ⟨.inr rfl, _, ares2, ?_⟩)
  simp only [ev_tm, one_2, reduceIte, Nat.reduceEqDiff]
  refine hQ0 _ m1.next _ (some m.next) ⟨hd2, hs1.keep hw1 hk2 fun _ _ h => h, fun e => by have := Option.some.inj e; omega⟩ (hk1.trans hk2 fun _ _ h => h) fun b hb => ?_
  rcases hb with rfl | hb
  · omega
  · cases hb; omega
theorem pieces_spec {m : M} {d : Nat} {D : Doc} {xt xp xu : AV} {bt bp bu : Option Nat} (h : DocAt m d D xt xp xu bt bp bu) : WpF Try.prog tb 24 [.ptr d 0] m fun v m' => v = iv D.pcs.length ∧ m' = m := by
  refine WpF_intro at24 rfl rfl ?_
  unfold c24
  refine C_sr fun Q' hQ => ?_
  simp only [r24_0, WpO_op, WpO_nil, WpON_some, o_mv, ev_cst, putD_some, fill_cons, fill_nil, Nat.zero_add]
  refine hQ _ _ (WpC_seq (C_sr fun Q' hQ => ?_))
  simp only [r24_1, b_nil24, WpO_op, WpO_nil, WpON_some, o_mv, o_eqp, v_rto, v_eqp_n, ev_tm, ev_cst, putD_some, reduceIte, Nat.reduceEqDiff]
  refine hQ _ _ (WpC_cond (t := false) ?_ ?_)
  · simp only [ev_tm, reduceIte, Nat.reduceEqDiff]
  refine WpC_skip ?_
  refine C_sr fun Q' hQ => ?_
  simp only [r24_3, h.doc.rd, h.pcs.len, WpO_op, WpO_nil, WpON_some, o_mv, o_load, o_nil, o_fa, o_len, v_elPtr, v_ob, v_rto, v_nil, v_fa, ev_tm, putD_some, reduceIte, Nat.reduceEqDiff, Nat.zero_add, List.getElem?_cons_succ, List.getElem?_cons_zero]
  refine hQ _ _ (WpC_ret ⟨.inr rfl, _, ares1, ?_⟩)
  simp only [and_self, ev_tm, one_1, reduceIte, Nat.reduceEqDiff]
end Go.Proofs.Ytcbafpfljencdaa
