import Derived.Test.YtmkbjcjlnidjiaaCaL
set_option linter.unusedVariables false
set_option linter.unusedVariables false
/- The law 'skerrylaw08.CachePins', walked: its loops. -/
namespace Go.Proofs.Ytmkbjcjlnidjiaa
open Go Go.Am
section
variable {m : M} {c d cb cap mb : Nat} {ls : List Ln} {L : List Cw} {y : AV} {zs : List Int} {o : Option Nat}
set_option maxHeartbeats 2000000 in
theorem tail2 {fr : Fr} (h : Ok m c d cb cap mb L ls y zs o (pnB 1)) (hc2 : 2 ≤ cap) (hc6 : cap ≤ 6) {l0 : Ln} (h0 : fl ls 0 = some l0) (e0 : ev (tm 0) fr = iv cap) (e9 : ev (tm 9) fr = .ptr c 0) : WpC Try.prog tb code2 fr m Fin := by
  unfold code2
  refine WpC_seq (C_sr fun Q' hQ => ?_)
  simp only [r_l8_CachePins_24, WpO_op, WpO_nil, WpON_some, o_mv, ev_cst, putD_some]
  refine hQ _ _ (WpC_block (WpC_loop (fun j fr mk => ∃ b ls, 1 ≤ b ∧ b ≤ cap ∧ j = cap - b ∧ ev (tm 0) fr = iv cap ∧ ev (tm 9) fr = .ptr c 0 ∧ ev (tm 16) fr = iv (b : Nat) ∧ Ok mk c d cb cap mb L ls y zs o (pnB b) ∧ ∀ j, j < b → ∃ l, fl ls j = some l) (k := cap - 1) ?_ ?_))
  · refine ⟨1, ls, by omega, by omega, rfl, ?_, ?_, ?_, h, fun j hj => ⟨l0, by rw [show j = 0 by omega]; exact h0⟩⟩
    all_goals simp only [e0, e9, ev_tm, reduceIte, Nat.reduceEqDiff]
    rfl
  clear hQ
  rintro j fr mk ⟨b, ls, hb1, hb, rfl, e0, e9, e16, h, hall⟩
  refine WpC_seq (C_sr fun Q' hQ => ?_)
  by_cases hlt : b < cap
  · simp only [r_l8_CachePins_25, e0, e16, show ((b : Int) < (cap : Int)) = True from eq_true (by omega), WpO_op, WpO_nil, WpON_some, o_mv, o_lt, v_rto, b_lt, ev_tm, putD_some, reduceIte, Nat.reduceEqDiff, decide_true]
    refine hQ _ _ (WpC_cond (t := true) ?_ (WpC_skip ?_))
    · simp only [ev_tm, reduceIte, Nat.reduceEqDiff]
    clear hQ
    refine WpC_seq (WpC_block (C_sr fun Q' hQ => ?_))
    simp only [r_l8_CachePins_27, e9, e16, WpO_op, WpO_call, WpON_some, o_mv, ev_tm, evs_cons, evs_nil, putD_some, reduceIte, Nat.reduceEqDiff]
    refine WpOC.to (get_ok (k := b) h (by omega) (fun _ => by unfold pnB; rw [if_neg (by omega)]) (fun m1 s t bt ls' l hb' h1 hf ht hp hor => ?_) (fun hf hl hall' m1 h1 => ?_))
    · simp only [WpO_op, WpO_nil, WpON_some, o_mv, o_ext, v_elTup, v_rto, ev_tm, putD_some, reduceIte, Nat.reduceEqDiff, List.getElem?_cons_succ, List.getElem?_cons_zero]
      refine hQ _ _ (C_sr fun Q' hQ => ?_)
      simp only [r_l8_CachePins_28, e9, e16, WpO_op, WpO_call, WpON_some, o_mv, ev_tm, evs_cons, evs_nil, putD_some, reduceIte, Nat.reduceEqDiff]
      obtain ⟨hlm, hlb⟩ := fl_some hf
      have hl0 : l.pins = 0 := by
        rw [(h1.each l hlm).2.2.1, hlb]
        unfold pnB
        rw [if_neg (by omega)]
      obtain ⟨pv, ps, po, hca⟩ := h1.ca
      refine WpOC.to (pin_spec (k := b) h1.wf hca h1.dev (by rw [h1.l8]; omega) hf (by omega) fun m2 hca2 hk2 => ?_)
      generalize hn4 : ({ l with pins := l.pins + 1 } : Ln) = n4 at hca2
      have n4b : n4.b = b := by rw [← hn4]; exact hlb
      have n4p : n4.pins = 1 := by rw [← hn4]; show l.pins + 1 = 1; omega
      have n4q : n4.p = l.p := by rw [← hn4]
      have n4l : n4.dl = l.dl := by rw [← hn4]
      have hmem : ∀ x ∈ setl ls' n4, x = n4 ∨ (x ∈ ls' ∧ x.b ≠ b) := by
        intro x hx
        obtain ⟨q, hq, ⟨e, rfl⟩ | ⟨e, rfl⟩⟩ := setl_mem hx
        · exact .inl rfl
        · exact .inr ⟨hq, by rw [← n4b]; exact e⟩
      have hin : n4 ∈ setl ls' n4 := by
        unfold setl
        refine List.mem_map.2 ⟨l, hlm, ?_⟩
        rw [if_pos (by rw [hlb, n4b])]
      have hfb : fl (setl ls' n4) b = some n4 := by
        rw [← n4b]
        exact fl_mem hca2.nb hin
      have h2 : Ok m2 c d cb cap mb L (setl ls' n4) y zs o (pnB (b + 1)) := by
        refine ⟨hk2.wf, ⟨_, _, _, hca2⟩, h1.dev.keep h1.wf hk2 fun b hb e => (h1.sep b hb).2.2 l hlm e.symm, h1.l8, h1.fr, fun b hb => ⟨(h1.sep b hb).1, (h1.sep b hb).2.1, fun x hx => ?_⟩, h1.ly.keep h1.wf hk2 fun b hb e => (h1.sepy b hb).2.2 l hlm e.symm, fun b hb => ⟨(h1.sepy b hb).1, (h1.sepy b hb).2.1, fun x hx => ?_⟩, ?_, h1.cap1, h1.cap2, fun x hx => ?_⟩
        · rcases hmem x hx with rfl | hx
          · rw [n4q]; exact (h1.sep b hb).2.2 l hlm
          · exact (h1.sep b hb).2.2 x hx.1
        · rcases hmem x hx with rfl | hx
          · rw [n4q]; exact (h1.sepy b hb).2.2 l hlm
          · exact (h1.sepy b hb).2.2 x hx.1
        · have := h1.len
          unfold setl
          rw [List.length_map]
          omega
        · rcases hmem x hx with rfl | hx
          · refine ⟨by omega, by rw [n4l]; exact (h1.each l hlm).2.1, ?_, by omega⟩
            rw [n4p, n4b]
            unfold pnB
            rw [if_pos (by omega)]
          · obtain ⟨q1, q2, q3, q4⟩ := h1.each x hx.1
            refine ⟨q1, q2, ?_, q4⟩
            rw [q3]
            unfold pnB
            have := hx.2
            by_cases hxb : x.b < b
            · rw [if_pos hxb, if_pos (by omega)]
            · rw [if_neg hxb, if_neg (by omega)]
      have hall2 : ∀ j, j < b + 1 → ∃ l, fl (setl ls' n4) j = some l := by
        intro j hj
        by_cases hjb : j = b
        · exact ⟨n4, by rw [hjb]; exact hfb⟩
        · obtain ⟨x, hx⟩ := hall j (by omega)
          obtain ⟨q1, q2⟩ := fl_some hx
          have hpin : 0 < x.pins := by
            rw [(h.each x q1).2.2.1]
            unfold pnB
            rw [if_pos (by omega)]
            omega
          have hx' := fl_some (hp x q1 hpin)
          refine ⟨x, ?_⟩
          rw [← q2]
          refine fl_mem hca2.nb (List.mem_map.2 ⟨x, hx'.1, ?_⟩)
          rw [if_neg (by rw [n4b, q2]; exact hjb)]
      simp only [WpO_op, WpO_nil, WpON_some, o_mv, ev_tm, putD_some, reduceIte, Nat.reduceEqDiff]
      refine hQ _ _ (C_sr fun Q' hQ => ?_)
      simp only [r_l8_CachePins_29, WpO_op, WpO_opG, WpO_nil, WpON_some, WpOG_true, o_mv, o_pick, o_ne, v_elB, v_rto, b_ne, ev_tm, ev_cst, putD_some, want_b, bc_false, reduceIte, Nat.reduceEqDiff, decide_true, Bool.not_true, Bool.not_false]
      refine hQ _ _ (WpC_cond (t := false) ?_ (WpC_skip ?_))
      · simp only [ev_tm, reduceIte, Nat.reduceEqDiff]
      clear hQ
      have hC : (b : Int) + 1 = ((b + 1 : Nat) : Int) := by omega
      refine C_reg fun Q' hQ => ?_
      simp only [r_l8_CachePins_26, e16, b_add ty_int (show -9223372036854775808 ≤ (b : Int) + 1 by omega) (show (b : Int) + 1 ≤ 9223372036854775807 by omega), hC, WpO_op, WpO_nil, WpON_some, o_mv, o_add, v_rto, ev_tm, ev_cst, putD_some, reduceIte, Nat.reduceEqDiff]
      refine hQ _ _ ⟨cap - (b + 1), by omega, b + 1, setl ls' n4, by omega, by omega, rfl, ?_, ?_, ?_, h2, hall2⟩
      all_goals simp only [e0, e9, e16, ev_tm, reduceIte, Nat.reduceEqDiff]
    · exfalso
      obtain ⟨pv, ps, po, hca⟩ := h.ca
      have := sub_len (ls.map (·.b)) (List.range b) hca.nb fun a ha => by
        obtain ⟨l, hlm, rfl⟩ := List.mem_map.1 ha
        have h1 := hall' l hlm
        rw [(h.each l hlm).2.2.1] at h1
        unfold pnB at h1
        by_cases hx : l.b < b
        · exact List.mem_range.2 hx
        · rw [if_neg hx] at h1
          omega
      simp at this
      omega
  · have hbc : b = cap := by omega
    subst hbc
    simp only [r_l8_CachePins_25, e0, e16, show ((b : Int) < (b : Int)) = False from eq_false (by omega), WpO_op, WpO_nil, WpON_some, o_mv, o_lt, v_rto, b_lt, ev_tm, putD_some, reduceIte, Nat.reduceEqDiff, decide_false]
    refine hQ _ _ (WpC_cond (t := false) ?_ (WpC_exit ?_))
    · simp only [ev_tm, reduceIte, Nat.reduceEqDiff]
    refine tail3 h hc2 hc6 hall ?_
    simp only [e9, ev_tm, reduceIte, Nat.reduceEqDiff]
set_option maxHeartbeats 2000000 in
theorem tail1 {fr : Fr} (h : Ok m c d cb cap mb L ls y zs o (pnB 1)) (hc2 : 2 ≤ cap) (hc6 : cap ≤ 6) {l0 : Ln} (h0 : fl ls 0 = some l0) (hd0 : l0.dl = List.replicate 64 9) (e0 : ev (tm 0) fr = iv cap) (e2 : ev (tm 2) fr = y) (e9 : ev (tm 9) fr = .ptr c 0) : WpC Try.prog tb code1 fr m Fin := by
  unfold code1
  refine WpC_seq (C_sr fun Q' hQ => ?_)
  simp only [r_l8_CachePins_13, WpO_op, WpO_nil, WpON_some, o_mv, ev_cst, putD_some]
  refine hQ _ _ (WpC_block (WpC_loop (fun j fr mk => ∃ i ls, i ≤ 60 ∧ j = 60 - i ∧ ev (tm 0) fr = iv cap ∧ ev (tm 2) fr = y ∧ ev (tm 9) fr = .ptr c 0 ∧ ev (tm 12) fr = iv (i : Nat) ∧ Ok mk c d cb cap mb L ls y zs o (pnB 1) ∧ fl ls 0 = some l0) (k := 60) ?_ ?_))
  · refine ⟨0, ls, by omega, rfl, ?_, ?_, ?_, ?_, h, h0⟩
    all_goals simp only [e0, e2, e9, ev_tm, reduceIte, Nat.reduceEqDiff]
    rfl
  clear hQ
  rintro j fr mk ⟨i, ls, hi, rfl, e0, e2, e9, e12, h, h0⟩
  have hyl : lenK false y = some zs.length := by rw [h.ly.len, List.length_map]
  refine WpC_seq (C_sr fun Q' hQ => ?_)
  -- behind the loop
  have out : ∀ fr : Fr, ev (tm 0) fr = iv cap → ev (tm 9) fr = .ptr c 0 → WpC Try.prog tb (.seq (.reg r_l8_CachePins_20) (.seq (.reg r_l8_CachePins_21) (.seq (.seq (.reg r_l8_CachePins_22) (.cond (tm 109) (.seq (.reg r_l8_CachePins_23) .ret) .skip)) code2))) fr mk Fin := by
    intro fr e0 e9
    refine C_sr fun Q' hQ => ?_
    simp only [r_l8_CachePins_20, e9, WpO_op, WpO_call, WpON_some, o_mv, ev_tm, ev_cst, evs_cons, evs_nil, putD_some, reduceIte]
    refine WpOC.to (get_ok (k := 0) h (by omega) (fun hf => by rw [h0] at hf; cases hf) (fun m1 s t bt ls' l hb' h1 hf ht hp hor => ?_) (fun hf => by rw [h0] at hf; cases hf))
    rcases hor with hor | rfl
    · rw [h0] at hor; cases hor
    rw [h0] at hf
    cases hf
    obtain ⟨hlm, hlb⟩ := fl_some h0
    have hlp : l0.pins = 1 := by
      rw [(h1.each l0 hlm).2.2.1, hlb]
      rfl
    obtain ⟨pv, ps, po, hca⟩ := h1.ca
    simp only [WpO_op, WpO_nil, WpON_some, o_mv, o_ext, v_elTup, v_rto, ev_tm, putD_some, reduceIte, Nat.reduceEqDiff, List.getElem?_cons_succ, List.getElem?_cons_zero]
    refine hQ _ _ (C_sr fun Q' hQ => ?_)
    simp only [r_l8_CachePins_21, e9, WpO_op, WpO_call, WpON_some, o_mv, ev_tm, ev_cst, evs_cons, evs_nil, putD_some, reduceIte, Nat.reduceEqDiff]
    refine WpOC.to (drop_spec (k := 0) h1.wf hca h1.dev (by rw [h1.l8]; omega) h0 (fun _ => ?_) fun hp => by omega)
    simp only [WpO_op, WpO_nil, WpON_some, o_mv, ev_tm, putD_some, reduceIte, Nat.reduceEqDiff]
    refine hQ _ _ (WpC_seq (C_sr fun Q' hQ => ?_))
    simp only [r_l8_CachePins_22, WpO_op, WpO_opG, WpO_callW, WpOCG_true, WpON_some, WpOG_true, o_mv, o_pick, o_ne, v_elB, v_rto, b_ne, ev_tm, ev_cst, evs_cons, evs_nil, putD_some, want_b, bc_false, reduceIte, Nat.reduceEqDiff, decide_true, Bool.not_true, Bool.not_false]
    refine WpOC.to (full_spec h1.wf 9 fun m2 s2 b2 hb2 hk2 hn2 => ?_)
    have h2 := h1.keep0 hk2
    have hs2 := hb'.keep h1.wf hk2 fun h => h
    simp only [WpO_callW, WpOCG_true, ev_tm, evs_cons, evs_nil, putD_some, want_b, bc_false, reduceIte, Nat.reduceEqDiff, Bool.not_false]
    refine WpOC.to ((same_spec hs2 hb2).mono ?_)
    rintro v m3 ⟨rfl, hm⟩
    rw [hm]
    clear hm m3
    simp only [← ht, hd0, WpO_op, WpO_opG, WpO_nil, WpON_some, WpOG_true, o_pick, o_un, v_elB, v_rto, v_not, ev_tm, ev_cst, putD_some, want_b, bc_false, reduceIte, Nat.reduceEqDiff, decide_true, Bool.not_true, Bool.not_false]
    refine hQ _ _ (WpC_cond (t := false) ?_ (WpC_skip ?_))
    · simp only [ev_tm, reduceIte, Nat.reduceEqDiff]
    refine tail2 h2 hc2 hc6 h0 ?_ ?_
    · simp only [e0, ev_tm, reduceIte, Nat.reduceEqDiff]
    · simp only [e9, ev_tm, reduceIte, Nat.reduceEqDiff]
  by_cases hlt : i < zs.length ∧ i < 60
  · obtain ⟨hlt, hlt2⟩ := hlt
    simp only [r_l8_CachePins_14, e2, e12, hyl, show ((i : Int) < (zs.length : Int)) = True from eq_true (by omega), show ((i : Int) < 60) = True from eq_true (by omega), WpO_op, WpO_opG, WpO_nil, WpON_some, WpOG_true, o_mv, o_pick, o_lt, o_len, v_elB, v_ob, v_rto, b_lt, ev_tm, ev_cst, putD_some, want_b, bc_true, reduceIte, Nat.reduceEqDiff, decide_true, Bool.not_true]
    refine hQ _ _ (WpC_cond (t := true) ?_ (WpC_skip ?_))
    · simp only [ev_tm, reduceIte, Nat.reduceEqDiff]
    clear hQ
    have hz : zs[i]? = some zs[i] := List.getElem?_eq_getElem hlt
    generalize zs[i] = z at hz
    obtain ⟨b, cp, lim, hx, hil, hrd⟩ := h.ly.elem (k := i) (v := iv z) (by rw [List.getElem?_map, hz]; rfl)
    rw [List.length_map] at hx hil
    obtain ⟨k, hk8, hand⟩ := b_and7 z
    refine WpC_seq (WpC_block (C_sr fun Q' hQ => ?_))
    simp only [r_l8_CachePins_16, e2, e9, e12, hx, v_iaS 1 b 0 zs.length cp lim hlt, Nat.mul_one, hrd, o_and, hand, WpO_op, WpO_call, WpON_some, o_mv, o_load, o_iaS, v_elPtr, v_rto, ev_tm, ev_cst, evs_cons, evs_nil, putD_some, reduceIte, Nat.reduceEqDiff, Nat.zero_add]
    refine WpOC.to (get_ok (k := k) h hk8 (fun hf => ?_) (fun m1 s t bt ls' l hb' h1 hf ht hp hor => ?_) (fun hf hl hall' m1 h1 => ?_))
    · unfold pnB
      rw [if_neg ?_]
      intro hk
      rw [show k = 0 by omega, h0] at hf
      cases hf
    · simp only [WpO_op, WpO_nil, WpON_some, o_mv, o_ext, v_elTup, v_rto, ev_tm, putD_some, reduceIte, Nat.reduceEqDiff, List.getElem?_cons_succ, List.getElem?_cons_zero]
      have h0' : fl ls' 0 = some l0 := by
        obtain ⟨hlm, hlb⟩ := fl_some h0
        have hlp : l0.pins = 1 := by
          rw [(h.each l0 hlm).2.2.1, hlb]
          rfl
        have := hp l0 hlm (by omega)
        rwa [hlb] at this
      refine hQ _ _ (C_sr fun Q' hQ => ?_)
      simp only [r_l8_CachePins_17, e9, WpO_op, WpO_call, WpON_some, o_mv, ev_tm, evs_cons, evs_nil, putD_some, reduceIte, Nat.reduceEqDiff]
      refine WpOC.to (h1.held h0' fun m2 B n h2 hn hr0 => ?_)
      simp only [WpO_op, WpO_nil, WpON_some, o_mv, ev_tm, putD_some, reduceIte, Nat.reduceEqDiff]
      refine hQ _ _ (C_sr fun Q' hQ => ?_)
      have hia : rIaS 1 (.cst (.slice B 0 n n false)) (.cst (iv 0)) .leaf m2 = some (.ptr B (0 + 0 * 1), m2) := v_iaS (m := m2) 1 B 0 n n false hn
      simp only [r_l8_CachePins_18, hia, hr0, show ((n : Int) = 0) = False from eq_false (by omega), WpO_op, WpO_opG, WpO_nil, WpON_some, WpOG_true, o_mv, o_pick, o_load, o_eq, o_ne, o_iaS, o_len, v_elB, v_elPtr, v_ob, v_rto, b_eq, b_ne, len_sl, ev_tm, ev_cst, putD_some, want_b, bc_false, reduceIte, Nat.reduceEqDiff, Nat.reduceMul, Nat.zero_add, decide_true, decide_false, Bool.not_true, Bool.not_false]
      refine hQ _ _ (WpC_cond (t := false) ?_ (WpC_skip ?_))
      · simp only [ev_tm, reduceIte, Nat.reduceEqDiff]
      clear hQ
      have hC : (i : Int) + 1 = ((i + 1 : Nat) : Int) := by omega
      refine C_reg fun Q' hQ => ?_
      simp only [r_l8_CachePins_15, e12, b_add ty_int (show -9223372036854775808 ≤ (i : Int) + 1 by omega) (show (i : Int) + 1 ≤ 9223372036854775807 by omega), hC, WpO_op, WpO_nil, WpON_some, o_mv, o_add, v_rto, ev_tm, ev_cst, putD_some, reduceIte, Nat.reduceEqDiff]
      refine hQ _ _ ⟨60 - (i + 1), by omega, i + 1, ls', by omega, rfl, ?_, ?_, ?_, ?_, h2, h0'⟩
      all_goals simp only [e0, e2, e9, e12, ev_tm, reduceIte, Nat.reduceEqDiff]
    · exfalso
      obtain ⟨pv, ps, po, hca⟩ := h.ca
      have := sub_len (ls.map (·.b)) [0] hca.nb fun a ha => by
        obtain ⟨l, hlm, rfl⟩ := List.mem_map.1 ha
        have h1 := hall' l hlm
        rw [(h.each l hlm).2.2.1] at h1
        unfold pnB at h1
        by_cases hx : l.b < 1
        · rw [show l.b = 0 by omega]; exact List.mem_singleton.2 rfl
        · rw [if_neg hx] at h1
          omega
      simp at this
      omega
  · by_cases hlt : i < zs.length
    · have h60 : ¬ i < 60 := fun h => by omega
      simp only [r_l8_CachePins_14, e2, e12, hyl, show ((i : Int) < (zs.length : Int)) = True from eq_true (by omega), show ((i : Int) < 60) = False from eq_false (by omega), WpO_op, WpO_opG, WpO_nil, WpON_some, WpOG_true, o_mv, o_pick, o_lt, o_len, v_elB, v_ob, v_rto, b_lt, ev_tm, ev_cst, putD_some, want_b, bc_true, reduceIte, Nat.reduceEqDiff, decide_true, decide_false, Bool.not_true]
      refine hQ _ _ (WpC_cond (t := false) ?_ (WpC_exit ?_))
      · simp only [ev_tm, reduceIte, Nat.reduceEqDiff]
      refine out _ ?_ ?_
      · simp only [e0, ev_tm, reduceIte, Nat.reduceEqDiff]
      · simp only [e9, ev_tm, reduceIte, Nat.reduceEqDiff]
    · simp only [r_l8_CachePins_14, e2, e12, hyl, show ((i : Int) < (zs.length : Int)) = False from eq_false (by omega), WpO_op, WpO_opG, WpO_nil, WpON_some, WpOG_false, o_mv, o_pick, o_lt, o_len, v_elB, v_ob, v_rto, b_lt, ev_tm, ev_cst, putD_some, want_b, bc_false, reduceIte, Nat.reduceEqDiff, decide_false, Bool.not_true]
      refine hQ _ _ (WpC_cond (t := false) ?_ (WpC_exit ?_))
      · simp only [ev_tm, reduceIte, Nat.reduceEqDiff]
      refine out _ ?_ ?_
      · simp only [e0, ev_tm, reduceIte, Nat.reduceEqDiff]
      · simp only [e9, ev_tm, reduceIte, Nat.reduceEqDiff]
set_option maxHeartbeats 2000000 in
theorem pins_spec {m : M} {a : Int} {x y : AV} {ps zs : List Int} {po o : Option Nat} (hw : Wf m) (hx : RsAt m x (ps.map iv) po) (hxl : ps.length * 8 ≤ 140737488355328) (hy : RsAt m y (zs.map iv) o) : WpF Try.prog tb fn_l8_CachePins [iv a, x, y] m fun v _ => v = .b true := by
  refine WpF_intro at_l8_CachePins rfl rfl ?_
  unfold c_l8_CachePins
  refine C_sr fun Q' hQ => ?_
  simp only [r_l8_CachePins_0, WpO_op, WpO_nil, WpON_some, o_mv, ev_cst, putD_some, fill_cons, fill_nil, Nat.reduceAdd, Nat.zero_add]
  refine hQ _ _ (WpC_seq (C_sr fun Q' hQ => ?_))
  simp only [r_l8_CachePins_1, WpO_call, evs_nil]
  refine WpOC.to (wakes_spec ?_)
  simp only [WpO_op, WpO_nil, WpON_some, o_un, v_rto, v_not, ev_tm, putD_some, reduceIte, Nat.reduceEqDiff, Bool.not_true]
  refine hQ _ _ (WpC_cond (t := false) ?_ (WpC_skip ?_))
  · simp only [ev_tm, reduceIte, Nat.reduceEqDiff]
  clear hQ
  -- behind the capacity
  have go : ∀ (fr : Fr) (cap : Nat), 2 ≤ cap → cap ≤ 6 → ev (tm 0) fr = iv cap → ev (tm 1) fr = x → ev (tm 2) fr = y → WpC Try.prog tb (.seq (.reg r_l8_CachePins_5) (.seq (.reg r_l8_CachePins_6) (.seq (.seq (.reg r_l8_CachePins_7) (.cond (tm 44) (.seq (.reg r_l8_CachePins_8) .ret) .skip)) (.seq (.reg r_l8_CachePins_9) (.seq (.reg r_l8_CachePins_10) (.seq (.seq (.reg r_l8_CachePins_11) (.cond (tm 55) (.seq (.reg r_l8_CachePins_12) .ret) .skip)) code1)))))) fr m Fin := by
    intro fr cap hc2 hc6 e0 e1 e2
    refine C_sr fun Q' hQ => ?_
    simp only [r_l8_CachePins_5, WpO_call, ev_cst, evs_cons, evs_nil]
    refine WpOC.to (dnew_spec hw fun m1 d cb L hd1 hL8 hFr hdn hk1 => ?_)
    have hw1 := hk1.wf
    have hn1 := hk1.next
    simp only [WpO_op, WpO_nil, WpON_some, o_mv, o_ext, v_elTup, v_rto, ev_tm, putD_some, reduceIte, Nat.reduceEqDiff, List.getElem?_cons_succ, List.getElem?_cons_zero]
    refine hQ _ _ (C_sr fun Q' hQ => ?_)
    simp only [r_l8_CachePins_6, e0, e1, WpO_op, WpO_call, WpON_some, o_mv, ev_tm, evs_cons, evs_nil, putD_some, reduceIte, Nat.reduceEqDiff]
    refine WpOC.to (cnew_spec hw1 (by omega) (by omega) (hx.keep hw hk1 fun _ _ h => h) hxl fun m2 c mb pv po2 hca2 hcn hmn hpn hk2 => ?_)
    have hw2 := hk2.wf
    have hn2 := hk2.next
    have hd2 := hd1.keep hw1 hk2 fun _ _ h => h
    simp only [WpO_op, WpO_nil, WpON_some, o_mv, o_ext, v_elTup, v_rto, ev_tm, putD_some, reduceIte, Nat.reduceEqDiff, List.getElem?_cons_succ, List.getElem?_cons_zero]
    refine hQ _ _ (WpC_seq (C_sr fun Q' hQ => ?_))
    simp only [r_l8_CachePins_7, b_np28, WpO_op, WpO_opG, WpO_nil, WpON_some, WpOG_true, o_mv, o_pick, o_ne, o_eqp, v_elB, v_rto, v_eqp_n, b_ne, ev_tm, ev_cst, putD_some, want_b, bc_false, reduceIte, Nat.reduceEqDiff, decide_true, Bool.not_true, Bool.not_false]
    refine hQ _ _ (WpC_cond (t := false) ?_ (WpC_skip (C_sr fun Q' hQ => ?_)))
    · simp only [ev_tm, reduceIte, Nat.reduceEqDiff]
    simp only [r_l8_CachePins_9, WpO_op, WpO_call, WpON_some, o_mv, ev_tm, ev_cst, evs_cons, evs_nil, putD_some, reduceIte, Nat.reduceEqDiff]
    refine WpOC.to (full_spec hw2 9 fun m3 s3 b3 hb3 hk3 hn3 => ?_)
    have hw3 := hk3.wf
    have hnx3 := hk3.next
    have hd3 := hd2.keep hw2 hk3 fun _ _ h => h
    have hca3 := hca2.keep0 hw2 hk3
    have hcl := hca2.lt hw2 (.inl rfl)
    have hml := hca2.mp.lt hw2
    simp only [WpO_call, ev_tm, ev_cst, evs_cons, evs_nil, putD_some, reduceIte, Nat.reduceEqDiff]
    refine WpOC.to (put_spec (k := 0) hw3 hca3 hd3 (by omega) (by simp) (fun _ h => by cases h) (fun _ h => by cases h) (by rw [hL8]; omega) hb3 (by simp) ⟨by omega, by omega⟩ (fun _ h => by cases h) (fun l hf => by cases hf) (fun _ hlt => absurd (show 0 < cap by omega) hlt) (fun hf m4 ls0 n pv' zs' hls hnb hnp hnd hndl hnpn hndn hca4 hk4 => ?_))
    have hls0 : ls0 = [] := by
      rcases hls with ⟨_, q⟩ | ⟨_, v, hv, _⟩
      · exact q
      · cases hv
    subst hls0
    have hw4 := hk4.wf
    have hd4 := hd3.keep hw3 hk4 fun b hb e => by
      have := hd1.lt hw1 hb
      omega
    simp only [WpO_op, WpO_nil, WpON_some, o_mv, ev_tm, putD_some, reduceIte, Nat.reduceEqDiff]
    refine hQ _ _ (C_sr fun Q' hQ => ?_)
    simp only [r_l8_CachePins_10, WpO_op, WpO_call, WpON_some, o_mv, ev_tm, ev_cst, evs_cons, evs_nil, putD_some, reduceIte, Nat.reduceEqDiff]
    have hf4 : fl ([] ++ [n]) 0 = some n := fl_app rfl hnb
    refine WpOC.to (pin_spec (k := 0) hw4 hca4 hd4 (by rw [hL8]; omega) hf4 (by omega) fun m5 hca5 hk5 => ?_)
    have hs5 : setl ([] ++ [n]) { n with pins := n.pins + 1 } = [{ n with pins := n.pins + 1 }] := by
      unfold setl
      show [if n.b = n.b then _ else _] = _
      rw [if_pos rfl]
    rw [hs5] at hca5
    have hw5 := hk5.wf
    have hd5 := hd4.keep hw4 hk5 fun b hb e => by
      have := hd1.lt hw1 hb
      omega
    have hol : ∀ b, o = some b → b < m.next := fun b hb => hy.lt hw hb
    have hy4 : RsAt m4 y (zs.map iv) o := (((hy.keep hw hk1 fun _ _ h => h).keep hw1 hk2 fun _ _ h => h).keep hw2 hk3 fun _ _ h => h).keep hw3 hk4 fun b hb e => by
      have := hol b hb
      omega
    have hok : Ok m5 c d cb cap mb L [{ n with pins := n.pins + 1 }] y zs o (pnB 1) := by
      refine ⟨hw5, ⟨_, _, _, hca5⟩, hd5, hL8, hFr, fun b hb => ?_, hy4.keep hw4 hk5 fun b hb e => ?_, fun b hb => ?_, ?_, by omega, by omega, fun l hl => ?_⟩
      · have := hd1.lt hw1 hb
        refine ⟨by omega, by omega, fun l hl => ?_⟩
        cases List.mem_singleton.1 hl
        show n.p ≠ b
        omega
      · have := hol b hb
        omega
      · have := hol b hb
        refine ⟨by omega, by omega, fun l hl => ?_⟩
        cases List.mem_singleton.1 hl
        show n.p ≠ b
        omega
      · show 1 ≤ cap; omega
      · cases List.mem_singleton.1 hl
        refine ⟨by show n.b < 8; omega, by show n.dl.length = 64; rw [hndl]; simp, ?_, fun h => by have : n.pins + 1 = 0 := h; omega⟩
        show n.pins + 1 = pnB 1 n.b
        rw [hnp, hnb]; rfl
    simp only [WpO_op, WpO_nil, WpON_some, o_mv, ev_tm, putD_some, reduceIte, Nat.reduceEqDiff]
    refine hQ _ _ (WpC_seq (C_sr fun Q' hQ => ?_))
    simp only [r_l8_CachePins_11, WpO_op, WpO_opG, WpO_nil, WpON_some, WpOG_true, o_mv, o_pick, o_ne, v_elB, v_rto, b_ne, ev_tm, ev_cst, putD_some, want_b, bc_false, reduceIte, Nat.reduceEqDiff, decide_true, Bool.not_true, Bool.not_false]
    refine hQ _ _ (WpC_cond (t := false) ?_ (WpC_skip ?_))
    · simp only [ev_tm, reduceIte, Nat.reduceEqDiff]
    refine tail1 hok hc2 hc6 (l0 := { n with pins := n.pins + 1 }) (fl_app (ls := []) rfl hnb) hndl ?_ ?_ ?_
    · simp only [e0, ev_tm, reduceIte, Nat.reduceEqDiff]
    · simp only [e2, ev_tm, reduceIte, Nat.reduceEqDiff]
    · simp only [ev_tm, reduceIte, Nat.reduceEqDiff]
  refine WpC_seq (C_sr fun Q' hQ => ?_)
  by_cases h2 : a < 2
  · simp only [r_l8_CachePins_3, show (a < 2) = True from eq_true h2, WpO_op, WpO_opG, WpO_nil, WpON_some, WpOG_false, o_mv, o_pick, o_lt, v_elB, v_rto, b_lt, ev_tm, ev_cst, putD_some, want_b, bc_true, reduceIte, Nat.reduceEqDiff, decide_true, Bool.not_false]
    refine hQ _ _ (WpC_cond (t := true) ?_ (C_reg fun Q' hQ => ?_))
    · simp only [ev_tm, reduceIte, Nat.reduceEqDiff]
    simp only [r_l8_CachePins_4, WpO_op, WpO_nil, WpON_some, o_mv, ev_cst, putD_some]
    refine hQ _ _ (go _ 3 (by omega) (by omega) ?_ ?_ ?_)
    all_goals simp only [ev_tm, reduceIte, Nat.reduceEqDiff]
    rfl
  · by_cases h6 : 6 < a
    · simp only [r_l8_CachePins_3, show (a < 2) = False from eq_false h2, show (6 < a) = True from eq_true h6, WpO_op, WpO_opG, WpO_nil, WpON_some, WpOG_true, o_mv, o_pick, o_lt, o_gt, v_elB, v_rto, b_lt, b_gt, ev_tm, ev_cst, putD_some, want_b, bc_false, reduceIte, Nat.reduceEqDiff, decide_true, decide_false, Bool.not_false]
      refine hQ _ _ (WpC_cond (t := true) ?_ (C_reg fun Q' hQ => ?_))
      · simp only [ev_tm, reduceIte, Nat.reduceEqDiff]
      simp only [r_l8_CachePins_4, WpO_op, WpO_nil, WpON_some, o_mv, ev_cst, putD_some]
      refine hQ _ _ (go _ 3 (by omega) (by omega) ?_ ?_ ?_)
      all_goals simp only [ev_tm, reduceIte, Nat.reduceEqDiff]
      rfl
    · simp only [r_l8_CachePins_3, show (a < 2) = False from eq_false h2, show (6 < a) = False from eq_false h6, WpO_op, WpO_opG, WpO_nil, WpON_some, WpOG_true, o_mv, o_pick, o_lt, o_gt, v_elB, v_rto, b_lt, b_gt, ev_tm, ev_cst, putD_some, want_b, bc_false, reduceIte, Nat.reduceEqDiff, decide_false, Bool.not_false]
      refine hQ _ _ (WpC_cond (t := false) ?_ (WpC_skip ?_))
      · simp only [ev_tm, reduceIte, Nat.reduceEqDiff]
      refine go _ a.toNat (by omega) (by omega) ?_ ?_ ?_
      all_goals simp only [ev_tm, reduceIte, Nat.reduceEqDiff]
      rw [show ((a.toNat : Nat) : Int) = a by omega]
end
end Go.Proofs.Ytmkbjcjlnidjiaa
