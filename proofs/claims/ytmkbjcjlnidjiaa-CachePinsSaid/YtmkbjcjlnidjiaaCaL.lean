import Derived.Test.YtmkbjcjlnidjiaaCaK
set_option linter.unusedVariables false
set_option linter.unusedVariables false
/- The law 'skerrylaw08.CachePins', walked. -/
namespace Go.Proofs.Ytmkbjcjlnidjiaa
open Go Go.Am
theorem wakes_spec {m : M} {Q : AV → M → Prop} (h : Q (.b true) m) : WpF Try.prog tb fn_l8_wakes [] m Q := WpF_known (tab_get Try.func6) rfl h
def Fin (x : X) (fr' : Fr) (m' : M) : Prop := (x = .normal ∨ x = .ret) ∧ ∃ l, ares Try.prog ⟨fr', m', [], none⟩ [.tmp 6] = some l ∧ one l = .b true
noncomputable def code3 : CC := (.seq (.reg r_l8_CachePins_31) (.seq (.reg r_l8_CachePins_32) (.seq (.seq (.reg r_l8_CachePins_33) (.cond (tm 143) (.seq (.reg r_l8_CachePins_34) .ret) .skip)) (.seq (.reg r_l8_CachePins_35) (.seq (.reg r_l8_CachePins_36) (.seq (.reg r_l8_CachePins_37) (.seq (.reg r_l8_CachePins_38) (.seq (.reg r_l8_CachePins_39) .ret))))))))
noncomputable def code2 : CC := (.seq (.seq (.reg r_l8_CachePins_24) (.block 2 (.loop (.seq (.seq (.reg r_l8_CachePins_25) (.cond (tm 112) .skip (.exit 2))) (.seq (.block 3 (.seq (.reg r_l8_CachePins_27) (.seq (.reg r_l8_CachePins_28) (.seq (.reg r_l8_CachePins_29) (.cond (tm 129) (.seq (.reg r_l8_CachePins_30) .ret) .skip))))) (.reg r_l8_CachePins_26)))))) code3)
noncomputable def code1 : CC := (.seq (.seq (.reg r_l8_CachePins_13) (.block 0 (.loop (.seq (.seq (.reg r_l8_CachePins_14) (.cond (tm 63) .skip (.exit 0))) (.seq (.block 1 (.seq (.reg r_l8_CachePins_16) (.seq (.reg r_l8_CachePins_17) (.seq (.reg r_l8_CachePins_18) (.cond (tm 90) (.seq (.reg r_l8_CachePins_19) .ret) .skip))))) (.reg r_l8_CachePins_15)))))) (.seq (.reg r_l8_CachePins_20) (.seq (.reg r_l8_CachePins_21) (.seq (.seq (.reg r_l8_CachePins_22) (.cond (tm 109) (.seq (.reg r_l8_CachePins_23) .ret) .skip)) code2))))
def pnB (b x : Nat) : Nat := if x < b then 1 else 0
section
variable {m : M} {c d cb cap mb : Nat} {ls : List Ln} {L : List Cw} {y : AV} {zs : List Int} {o : Option Nat}
theorem range_sub {ls : List Ln} {b : Nat} (h : ∀ j, j < b → ∃ l, fl ls j = some l) : ∀ a ∈ List.range b, a ∈ ls.map (·.b) := by
  intro a ha
  obtain ⟨l, hl⟩ := h a (List.mem_range.1 ha)
  obtain ⟨h1, h2⟩ := fl_some hl
  exact List.mem_map.2 ⟨l, h1, h2⟩
/-- All places are taken by the pinned: nothing else is held. -/
theorem no_more {ls : List Ln} {cap : Nat} (h : ∀ j, j < cap → ∃ l, fl ls j = some l) (hl : ls.length ≤ cap) {l : Ln} (hm : l ∈ ls) : l.b < cap := by
  by_cases hb : l.b < cap
  · exact hb
  · have hn : (l.b :: List.range cap).Nodup := List.nodup_cons.2 ⟨fun h => hb (List.mem_range.1 h), List.nodup_range⟩
    have := sub_len _ (ls.map (·.b)) hn fun a ha => by
      rcases List.mem_cons.1 ha with rfl | ha
      · exact List.mem_map_of_mem hm
      · exact range_sub h a ha
    simp at this
    omega
theorem full_len {ls : List Ln} {cap : Nat} (h : ∀ j, j < cap → ∃ l, fl ls j = some l) : cap ≤ ls.length := by
  have := sub_len _ (ls.map (·.b)) (List.nodup_range (n := cap)) (range_sub h)
  simpa using this
set_option maxHeartbeats 2000000 in
theorem tail3 {fr : Fr} (h : Ok m c d cb cap mb L ls y zs o (pnB cap)) (hc2 : 2 ≤ cap) (hc6 : cap ≤ 6) (hall : ∀ j, j < cap → ∃ l, fl ls j = some l) (e9 : ev (tm 9) fr = .ptr c 0) : WpC Try.prog tb code3 fr m Fin := by
  have hlen : ls.length = cap := by have := full_len hall; have := h.len; omega
  have hlt : ∀ l ∈ ls, l.b < cap := fun l hl => no_more hall h.len hl
  have hno : ∀ k, cap ≤ k → fl ls k = none := by
    intro k hk
    cases hf : fl ls k with
    | none => rfl
    | some l =>
      obtain ⟨h1, h2⟩ := fl_some hf
      have := hlt l h1
      omega
  unfold code3
  refine C_sr fun Q' hQ => ?_
  simp only [r_l8_CachePins_31, e9, WpO_op, WpO_call, WpON_some, o_mv, ev_tm, ev_cst, evs_cons, evs_nil, putD_some, reduceIte]
  refine WpOC.to (get_ok (k := 7) h (by omega) (fun _ => by unfold pnB; rw [if_neg (by omega)]) (fun m1 s t b ls' l hb h1 hf ht hp hor => ?_) (fun hf hl hall' m1 h1 => ?_))
  · exfalso
    rcases hor with hor | rfl
    · have hl := h1.len
      have : ∀ j, j < cap → ∃ l, fl ls' j = some l := by
        intro j hj
        obtain ⟨l0, hl0⟩ := hall j hj
        obtain ⟨q1, q2⟩ := fl_some hl0
        have hpin : 0 < l0.pins := by
          rw [(h.each l0 q1).2.2.1]
          unfold pnB
          rw [if_pos (by omega)]
          omega
        exact ⟨l0, by rw [← q2]; exact hp l0 q1 hpin⟩
      have := no_more this hl (fl_some hf).1
      rw [(fl_some hf).2] at this
      omega
    · rw [hno 7 (by omega)] at hf
      cases hf
  simp only [WpO_op, WpO_nil, WpON_some, o_mv, o_ext, v_elTup, v_rto, ev_tm, putD_some, reduceIte, Nat.reduceEqDiff, List.getElem?_cons_succ, List.getElem?_cons_zero]
  clear hf hl hall'
  refine hQ _ _ (C_sr fun Q' hQ => ?_)
  simp only [r_l8_CachePins_32, e9, WpO_op, WpO_call, WpON_some, o_mv, ev_tm, ev_cst, evs_cons, evs_nil, putD_some, reduceIte, Nat.reduceEqDiff]
  refine WpOC.to (full_spec h1.wf 1 fun m2 s2 b2 hb2 hk2 hn2 => ?_)
  have h2 := h1.keep0 hk2
  simp only [WpO_call, ev_tm, ev_cst, evs_cons, evs_nil, putD_some, reduceIte, Nat.reduceEqDiff]
  obtain ⟨pv, ps, po, hca⟩ := h2.ca
  obtain ⟨pv1, ps1, po1, hca1⟩ := h1.ca
  have hcl := hca1.lt h1.wf (.inl rfl)
  have hml := hca1.mp.lt h1.wf
  obtain ⟨g1, g2, g3, g4⟩ := h2.lb
  have hf6 := hno 6 (by omega)
  refine WpOC.to (put_spec (k := 6) h2.wf hca h2.dev h2.cap1 g1 g2 g3 (by rw [h2.l8]; omega) hb2 (by simp) ⟨by omega, by omega⟩ (fun l hl => by have := (hca1.ln l hl).lt h1.wf; omega) (fun l hf => by rw [hf6] at hf; cases hf) (fun hf hlt2 hall2 m3 hk3 => ?_) (fun hf m3 ls0 n pv' zs' hls => ?_))
  rotate_left
  · exfalso
    rcases hls with ⟨q, _⟩ | ⟨_, v, hv, hvp, _⟩
    · omega
    · rw [(h2.each v hv).2.2.1] at hvp
      unfold pnB at hvp
      rw [if_pos (hlt v hv)] at hvp
      cases hvp
  have h3 := h2.keep0 hk3
  simp only [WpO_op, WpO_nil, WpON_some, o_mv, ev_tm, putD_some, reduceIte, Nat.reduceEqDiff]
  refine hQ _ _ (WpC_seq (C_sr fun Q' hQ => ?_))
  simp only [r_l8_CachePins_33, WpO_op, WpO_opG, WpO_nil, WpON_some, WpOG_true, o_mv, o_pick, o_ne, v_elB, v_rto, b_ne, ev_tm, ev_cst, putD_some, want_b, bc_false, reduceIte, Nat.reduceEqDiff, decide_true, Bool.not_true, Bool.not_false]
  refine hQ _ _ (WpC_cond (t := false) ?_ (WpC_skip (C_sr fun Q' hQ => ?_)))
  · simp only [ev_tm, reduceIte, Nat.reduceEqDiff]
  obtain ⟨l, hl⟩ := hall 0 (by omega)
  obtain ⟨hlm, hlb⟩ := fl_some hl
  have hlp : l.pins = 1 := by
    rw [(h3.each l hlm).2.2.1, hlb]
    unfold pnB
    rw [if_pos (by omega)]
  obtain ⟨pv3, ps3, po3, hca3⟩ := h3.ca
  simp only [r_l8_CachePins_35, e9, WpO_op, WpO_call, WpON_some, o_mv, ev_tm, ev_cst, evs_cons, evs_nil, putD_some, reduceIte, Nat.reduceEqDiff]
  refine WpOC.to (unpin_spec (k := 0) h3.wf hca3 h3.dev (by rw [h3.l8]; omega) hl (by omega) (fun hp => by omega) fun _ m4 hca4 hk4 => ?_)
  have hw4 := hk4.wf
  have hd4 := h3.dev.keep h3.wf hk4 fun b hb e => (h3.sep b hb).2.2 l hlm e.symm
  simp only [WpO_op, WpO_nil, WpON_some, o_mv, ev_tm, putD_some, reduceIte, Nat.reduceEqDiff]
  generalize hn4 : ({ l with pins := l.pins - 1 } : Ln) = n4 at hca4
  have n4b : n4.b = 0 := by rw [← hn4]; exact hlb
  have n4p : n4.pins = 0 := by rw [← hn4]; show l.pins - 1 = 0; omega
  have n4q : n4.p = l.p := by rw [← hn4]
  have n4l : n4.dl = l.dl := by rw [← hn4]
  have hmem4 : ∀ x ∈ setl ls n4, x = n4 ∨ (x ∈ ls ∧ x.b ≠ 0) := by
    intro x hx
    obtain ⟨q, hq, ⟨e, rfl⟩ | ⟨e, rfl⟩⟩ := setl_mem hx
    · exact .inl rfl
    · exact .inr ⟨hq, by rw [← n4b]; exact e⟩
  have hf4 : fl (setl ls n4) 0 = some n4 := by
    have hm : n4 ∈ setl ls n4 := by
      unfold setl
      refine List.mem_map.2 ⟨l, hlm, ?_⟩
      rw [if_pos (by rw [hlb, n4b])]
    rw [← n4b]
    exact fl_mem hca4.nb hm
  refine hQ _ _ (C_sr fun Q' hQ => ?_)
  simp only [r_l8_CachePins_36, e9, WpO_op, WpO_call, WpON_some, o_mv, ev_tm, ev_cst, evs_cons, evs_nil, putD_some, reduceIte, Nat.reduceEqDiff]
  refine WpOC.to (unpin_spec (k := 0) hw4 hca4 hd4 (by rw [h3.l8]; omega) hf4 (by omega) (fun hp => ?_) fun hp => by omega)
  simp only [WpO_op, WpO_nil, WpON_some, o_mv, ev_tm, putD_some, reduceIte, Nat.reduceEqDiff]
  refine hQ _ _ (C_sr fun Q' hQ => ?_)
  simp only [r_l8_CachePins_37, e9, WpO_op, WpO_call, WpON_some, o_mv, ev_tm, ev_cst, evs_cons, evs_nil, putD_some, reduceIte, Nat.reduceEqDiff]
  refine WpOC.to (drop_spec (k := 0) hw4 hca4 hd4 (by rw [h3.l8]; omega) hf4 (fun hp => by omega) fun _ m5 hca5 hk5 => ?_)
  have hw5 := hk5.wf
  have hd5 := hd4.keep hw4 hk5 fun b hb e => (h3.sep b hb).2.1 e
  simp only [WpO_op, WpO_nil, WpON_some, o_mv, ev_tm, putD_some, reduceIte, Nat.reduceEqDiff]
  have hmem5 : ∀ x ∈ rm (setl ls n4) 0, x ∈ ls ∧ x.b ≠ 0 := by
    intro x hx
    obtain ⟨q1, q2⟩ := rm_mem hx
    rcases hmem4 x q1 with rfl | q
    · exact absurd n4b q2
    · exact q
  have hlen5 : (rm (setl ls n4) 0).length < cap := by
    have h1 := rm_len (fl_some hf4).1
    rw [n4b] at h1
    have : (setl ls n4).length = ls.length := by unfold setl; rw [List.length_map]
    omega
  have h5 : Ok m5 c d cb cap mb L (rm (setl ls n4) 0) y zs o (pnB cap) := by
    refine ⟨hw5, ⟨_, _, _, hca5⟩, hd5, h3.l8, h3.fr, fun b hb => ⟨(h3.sep b hb).1, (h3.sep b hb).2.1, fun x hx => (h3.sep b hb).2.2 x (hmem5 x hx).1⟩, ?_, fun b hb => ⟨(h3.sepy b hb).1, (h3.sepy b hb).2.1, fun x hx => (h3.sepy b hb).2.2 x (hmem5 x hx).1⟩, by omega, h3.cap1, h3.cap2, fun x hx => h3.each x (hmem5 x hx).1⟩
    exact (h3.ly.keep h3.wf hk4 fun b hb e => (h3.sepy b hb).2.2 l hlm e.symm).keep hw4 hk5 fun b hb e => (h3.sepy b hb).2.1 e
  refine hQ _ _ (C_sr fun Q' hQ => ?_)
  simp only [r_l8_CachePins_38, e9, WpO_op, WpO_call, WpON_some, o_mv, ev_tm, ev_cst, evs_cons, evs_nil, putD_some, reduceIte, Nat.reduceEqDiff]
  refine WpOC.to (get_ok (k := 7) h5 (by omega) (fun _ => by unfold pnB; rw [if_neg (by omega)]) (fun m6 s t b ls' l hb h1 hf ht hp hor => ?_) (fun hf hl hall' m1 h1 => by omega))
  simp only [WpO_op, WpO_nil, WpON_some, o_mv, o_ext, v_elTup, v_rto, ev_tm, putD_some, reduceIte, Nat.reduceEqDiff, List.getElem?_cons_succ, List.getElem?_cons_zero]
  refine hQ _ _ (C_sr fun Q' hQ => ?_)
  simp only [r_l8_CachePins_39, WpO_op, WpO_opG, WpO_nil, WpON_some, WpOG_true, o_mv, o_pick, o_eq, v_elB, v_rto, b_eq, ev_tm, ev_cst, putD_some, want_b, bc_true, reduceIte, Nat.reduceEqDiff, decide_true, Bool.not_true]
  refine hQ _ _ (WpC_ret ⟨.inr rfl, _, ares1, ?_⟩)
  simp only [ev_tm, one_1, reduceIte, Nat.reduceEqDiff]
end
end Go.Proofs.Ytmkbjcjlnidjiaa
