import Derived.Test.YtmkbjcjlnidjiaaCaF
set_option linter.unusedVariables false
set_option linter.unusedVariables false
/- The cache: Get. -/
namespace Go.Proofs.Ytmkbjcjlnidjiaa
open Go Go.Am
section
variable {m : M} {c d cb cap mb : Nat} {pv : AV} {zs : List Int} {po : Option Nat} {ls : List Ln} {L : List Cw} {fused dead : Bool} {fuse writes : Int}
theorem CwOk.lst {c : Cw} (h : CwOk m c) : BsAt m c.last.1 c.last.2.1 c.last.2.2 := by
  unfold Cw.last
  cases hg : c.wl.getLast? with
  | none => exact h.ar
  | some e => exact h.ws e (List.mem_of_getLast? hg)
theorem CaAt.addl {m m' : M} {n : Ln} (h : CaAt m c d cap mb pv zs po ls) (hw : Wf m) (hk : Keep m m' fun b => b = mb) (hm : MpAt m' mb (al (ls ++ [n]))) (hln : At m n.p ty_cache_line true [n.dv, .b n.dirty, iv n.pins]) (hda : BsAt m n.dv n.dl n.db) (hp : ¬ cOwn c mb po ls n.p) (hd : ¬ cOwn c mb po ls n.db) (hpd : n.p ≠ n.db) (hn : fl ls n.b = none) : CaAt m' c d cap mb pv zs po (ls ++ [n]) := by
  have hnb := fl_none hn
  refine ⟨h.ca.keep hw hk (ne_map h.ca h.mp), hm, fun l hl => ?_, fun l hl => ?_, h.pk.keep hw hk fun b hb => ?_, ?_, ?_, fun l hl => ?_, fun l hl => ⟨?_, fun l' hl' => ?_⟩, fun b hb => ⟨(h.pw b hb).1, fun l hl => ?_⟩⟩
  · rcases List.mem_append.1 hl with hl | hl
    · exact (h.ln l hl).keep hw hk (ne_map (h.ln l hl) h.mp)
    · cases List.mem_singleton.1 hl
      exact hln.keep hw hk (ne_map hln h.mp)
  · rcases List.mem_append.1 hl with hl | hl
    · exact (h.da l hl).keep hw hk (ne_mapB (h.da l hl) h.mp)
    · cases List.mem_singleton.1 hl
      exact hda.keep hw hk (ne_mapB hda h.mp)
  · have hp := h.pk
    rw [hb] at hp
    exact ne_mapI hp h.mp
  · rw [List.map_append, List.nodup_append]
    refine ⟨h.nb, by simp, fun a ha b hb => ?_⟩
    obtain ⟨l, hl, rfl⟩ := List.mem_map.1 ha
    cases List.mem_singleton.1 hb
    exact hnb l hl
  · rw [List.map_append, List.nodup_append]
    refine ⟨h.np, by simp, fun a ha b hb => ?_⟩
    obtain ⟨l, hl, rfl⟩ := List.mem_map.1 ha
    cases List.mem_singleton.1 hb
    exact fun e => hp (.inr (.inr (.inr ⟨l, hl, .inl e⟩)))
  · rcases List.mem_append.1 hl with hl | hl
    · exact h.cp l hl
    · cases List.mem_singleton.1 hl
      exact fun e => hp (.inl e)
  · rcases List.mem_append.1 hl with hl | hl
    · exact (h.dw l hl).1
    · cases List.mem_singleton.1 hl
      exact fun e => hd (.inl e)
  · rcases List.mem_append.1 hl with hl | hl <;> rcases List.mem_append.1 hl' with hl' | hl'
    · exact (h.dw l hl).2 l' hl'
    · cases List.mem_singleton.1 hl'
      exact fun e => hp (.inr (.inr (.inr ⟨l, hl, .inr e.symm⟩)))
    · cases List.mem_singleton.1 hl
      exact fun e => hd (.inr (.inr (.inr ⟨l', hl', .inl e⟩)))
    · cases List.mem_singleton.1 hl
      cases List.mem_singleton.1 hl'
      exact hpd
  · rcases List.mem_append.1 hl with hl | hl
    · exact (h.pw b hb).2 l hl
    · cases List.mem_singleton.1 hl
      exact fun e => hp (.inr (.inr (.inl (e ▸ hb))))
theorem rm_none {ls : List Ln} {k j : Nat} (h : fl ls k = none) : fl (rm ls j) k = none := by
  unfold fl
  rw [List.find?_eq_none]
  intro l hl
  have := fl_none h l (rm_mem hl).1
  simp [this]
theorem fits_spec (h : CaAt m c d cap mb pv zs po ls) (hd : DevAt m d cb L fused dead fuse writes) {k : Nat} (hk : k < L.length) {s : AV} {t : Bs} {b : Nat} (hs : BsAt m s t b) (h64 : t.length = 64) : WpF Try.prog tb fn_Ca_fits [.ptr c 0, iv k, s] m fun v m' => v = iv 0 ∧ m' = m := by
  refine WpF_intro at_Ca_fits rfl rfl ?_
  unfold c_Ca_fits
  refine C_sr fun Q' hQ => ?_
  simp only [r_Ca_fits_0, WpO_op, WpO_nil, WpON_some, o_mv, ev_cst, putD_some, fill_cons, fill_nil, Nat.reduceAdd, Nat.zero_add]
  refine hQ _ _ (C_sr fun Q' hQ => ?_)
  simp only [r_Ca_fits_1, WpO_op, WpO_call, WpON_some, o_mv, ev_tm, evs_cons, evs_nil, putD_some, reduceIte, Nat.reduceEqDiff]
  refine WpOC.to ((known_spec h hd hk).mono ?_)
  rintro v m' ⟨rfl, rfl⟩
  simp only [WpO_op, WpO_nil, WpON_some, o_mv, ev_tm, putD_some, reduceIte, Nat.reduceEqDiff]
  refine hQ _ _ (WpC_seq (C_sr fun Q' hQ => ?_))
  simp only [r_Ca_fits_2, hs.len, h.ca.rd, WpO_op, WpO_opG, WpO_callW, WpOCG_true, WpON_some, WpOG_true, o_mv, o_load, o_nil, o_eq, o_fa, o_len, v_elPtr, v_ob, v_rto, v_nil, v_fa, b_eq, ev_tm, ev_cst, evs_cons, evs_nil, putD_some, want_b, bc_true, reduceIte, Nat.reduceEqDiff, Nat.zero_add, decide_true, Bool.not_true, List.getElem?_cons_zero]
  refine WpOC.to ((block_spec hd).mono ?_)
  rintro v m' ⟨rfl, rfl⟩
  simp only [h64, show (((64 : Nat) : Int) = 64) = True from eq_true rfl, WpO_op, WpO_opG, WpO_nil, WpON_some, WpOG_true, o_pick, o_ne, v_elB, v_rto, b_ne, ev_tm, ev_cst, putD_some, want_b, bc_true, reduceIte, Nat.reduceEqDiff, decide_true, Bool.not_true]
  refine hQ _ _ (WpC_cond (t := false) ?_ (WpC_skip (C_sr fun Q' hQ => ?_)))
  · simp only [ev_tm, reduceIte, Nat.reduceEqDiff]
  simp only [r_Ca_fits_4, WpO_op, WpO_nil, WpON_some, o_mv, ev_tm, putD_some, reduceIte, Nat.reduceEqDiff]
  refine hQ _ _ (WpC_ret ⟨.inr rfl, _, ares1, ?_⟩)
  simp only [and_self, ev_tm, one_1, reduceIte, Nat.reduceEqDiff]
set_option maxHeartbeats 2000000 in
theorem get_spec (hw : Wf m) (h : CaAt m c d cap mb pv zs po ls) (hd : DevAt m d cb L fused false fuse writes) (hs : ∀ b, dOwn d cb L b → b ≠ c ∧ b ≠ mb) (hcap : 1 ≤ cap) (hl : ls.length ≤ 1000000) (hb : ∀ l ∈ ls, l.b ≤ 1000000) (hcl : ∀ l ∈ ls, l.pins = 0 → l.dirty = false)
    {k : Nat} {C : Cw} (hC : L[k]? = some C) (hC1 : C.wl.length ≤ 1000000) (hC2 : C.last.2.1 ≠ []) (hC3 : C.last.2.1.length ≤ 1000000) (hdl : ∀ l ∈ ls, l.dl ≠ [] ∧ l.dl.length ≤ 1000000) {Q : AV → M → Prop}
    (hQ1 : ∀ l, fl ls k = some l → ∀ m' s b', BsAt m' s l.dl b' → Keep m m' (fun _ => False) → Q (.tuple [s, iv 0]) m')
    (hQ2 : fl ls k = none → ¬ ls.length < cap → (∀ l ∈ ls, 0 < l.pins) → ∀ m', Keep m m' (fun _ => False) → Q (.tuple [nils, iv 8]) m')
    (hQ3 : fl ls k = none → ∀ m' ls0 n pv' zs' s b', (ls.length < cap ∧ ls0 = ls ∨ ¬ ls.length < cap ∧ ∃ v ∈ ls, v.pins = 0 ∧ ls0 = rm ls v.b) → n.b = k → n.pins = 0 → n.dirty = false → n.dl = C.last.2.1 → m.next ≤ n.p → m.next ≤ n.db → CaAt m' c d cap mb pv' zs' po (ls0 ++ [n]) → Keep m m' (fun b => b = c ∨ b = mb) → BsAt m' s n.dl b' → Q (.tuple [s, iv 0]) m') : WpF Try.prog tb fn_Ca_Get [.ptr c 0, iv k] m Q := by
  have hkL := (List.getElem?_eq_some_iff.1 hC).1
  refine WpF_intro at_Ca_Get rfl rfl ?_
  unfold c_Ca_Get
  refine C_sr fun Q' hQ => ?_
  simp only [r_Ca_Get_0, WpO_op, WpO_nil, WpON_some, o_mv, ev_cst, putD_some, fill_cons, fill_nil, Nat.reduceAdd, Nat.zero_add]
  refine hQ _ _ (WpC_scope hb_Ca_Get ?_)
  unfold cb_Ca_Get
  refine C_sr fun Q' hQ => ?_
  simp only [r_Ca_Get_1, WpO_op, WpO_call, WpON_some, o_mv, ev_tm, evs_cons, evs_nil, putD_some, reduceIte, Nat.reduceEqDiff]
  refine WpOC.to ((known_spec h hd hkL).mono ?_)
  rintro v m' ⟨rfl, hm⟩
  rw [hm]
  clear hm m'
  simp only [WpO_op, WpO_nil, WpON_some, o_mv, ev_tm, putD_some, reduceIte, Nat.reduceEqDiff]
  refine hQ _ _ (WpC_seq (C_sr fun Q' hQ => ?_))
  simp only [r_Ca_Get_2, WpO_op, WpO_nil, WpON_some, o_mv, o_ne, v_rto, b_ne, ev_tm, ev_cst, putD_some, reduceIte, Nat.reduceEqDiff, decide_true, Bool.not_true]
  refine hQ _ _ (WpC_cond (t := false) ?_ (WpC_skip (C_sr fun Q' hQ => ?_)))
  · simp only [ev_tm, reduceIte, Nat.reduceEqDiff]
  cases hf : fl ls k with
  | some l =>
    obtain ⟨hlm, hlb⟩ := fl_some hf
    simp only [r_Ca_Get_4, h.ca.rd, h.mp.look, lkp_al, hf, Option.map_some, Option.getD_some, WpO_op, o_look, WpO_nil, WpON_some, o_mv, o_load, o_nil, o_fa, v_elPtr, v_rto, v_nil, v_fa, ev_tm, putD_some, reduceIte, Nat.reduceEqDiff, Nat.zero_add, List.getElem?_cons_succ, List.getElem?_cons_zero]
    refine hQ _ _ (WpC_seq (C_sr fun Q' hQ => ?_))
    simp only [r_Ca_Get_5, b_nq63, WpO_op, WpO_nil, WpON_some, o_mv, o_eqp, v_rto, v_eqp_n, ev_tm, ev_cst, putD_some, reduceIte, Nat.reduceEqDiff]
    refine hQ _ _ (WpC_cond (t := true) ?_ (WpC_goto ⟨_, _, hl_Ca_Get_0, hc_Ca_Get_0, ?_⟩))
    · simp only [ev_tm, reduceIte, Nat.reduceEqDiff]
    unfold cr_Ca_Get_0
    refine WpC_seq (WpC_skip (C_sr fun Q' hQ => ?_))
    simp only [r_Ca_Get_14, (h.ln l hlm).rd, WpO_op, WpO_call, WpON_some, o_mv, o_load, o_nil, o_fa, v_elPtr, v_rto, v_nil, v_fa, ev_tm, evs_cons, evs_nil, putD_some, reduceIte, Nat.reduceEqDiff, Nat.zero_add, List.getElem?_cons_zero]
    refine WpOC.to (cloneB_spec hw (h.da l hlm) (hdl l hlm).1 (hdl l hlm).2 fun m1 s' b' hb hk1 hn => ?_)
    simp only [WpO_op, WpO_nil, WpON_some, o_mv, ev_tm, ev_cst, putD_some, reduceIte, Nat.reduceEqDiff]
    refine hQ _ _ (WpC_ret ?_)
    refine ⟨(fun _ h => nomatch h), .inr rfl, _, ares2, ?_⟩
    simp only [ev_tm, one_2, reduceIte, Nat.reduceEqDiff]
    exact hQ1 l hf m1 s' b' hb hk1
  | none =>
    simp only [r_Ca_Get_4, h.ca.rd, h.mp.look, lkp_al, hf, Option.map_none, Option.getD_none, WpO_op, o_look, WpO_nil, WpON_some, o_mv, o_load, o_nil, o_fa, v_elPtr, v_rto, v_nil, v_fa, ev_tm, putD_some, reduceIte, Nat.reduceEqDiff, Nat.zero_add, List.getElem?_cons_succ, List.getElem?_cons_zero]
    refine hQ _ _ (WpC_seq (C_sr fun Q' hQ => ?_))
    simp only [r_Ca_Get_5, b_nqn63, WpO_op, WpO_nil, WpON_some, o_mv, o_eqp, v_rto, v_eqp_nn, ev_tm, ev_cst, putD_some, reduceIte, Nat.reduceEqDiff]
    refine hQ _ _ (WpC_cond (t := false) ?_ (WpC_skip (WpC_seq (C_sr fun Q' hQ => ?_))))
    · simp only [ev_tm, reduceIte, Nat.reduceEqDiff]
    simp only [r_Ca_Get_6, WpO_op, WpO_call, WpON_some, o_mv, ev_tm, evs_cons, evs_nil, putD_some, reduceIte, Nat.reduceEqDiff]
    have hR : WpF Try.prog tb fn_Ca_room [.ptr c 0] m fun v m1 => (v = iv 0 ∧ ∃ ls0 pv' zs', (ls.length < cap ∧ ls0 = ls ∨ ¬ ls.length < cap ∧ ∃ v ∈ ls, v.pins = 0 ∧ ls0 = rm ls v.b) ∧ fl ls0 k = none ∧ CaAt m1 c d cap mb pv' zs' po ls0 ∧ Keep m m1 (fun b => b = c ∨ b = mb)) ∨ (v = iv 8 ∧ ¬ ls.length < cap ∧ (∀ l ∈ ls, 0 < l.pins) ∧ Keep m m1 (fun _ => False)) := by
      refine room_spec hw h hcap hl hb hcl (fun hlt => ?_) (fun hlt hall m1 hk1 => ?_) (fun hlt m1 l pv' zs' hlm hlp h1 hk1 => ?_)
      · exact .inl ⟨rfl, ls, pv, zs, .inl ⟨hlt, rfl⟩, hf, h, Keep.refl hw _⟩
      · exact .inr ⟨rfl, hlt, hall, hk1⟩
      · exact .inl ⟨rfl, _, pv', zs', .inr ⟨hlt, l, hlm, hlp, rfl⟩, rm_none hf, h1, hk1⟩
    refine WpOC.to (hR.mono ?_)
    rintro v m1 (⟨rfl, ls0, pv', zs', hls, hf0, h1, hk1⟩ | ⟨rfl, hlt, hall, hk1⟩)
    · have hw1 := hk1.wf
      have hd1 := hd.keep hw hk1 fun b hb hx => by
        rcases hx with hx | hx
        · exact (hs b hb).1 hx
        · exact (hs b hb).2 hx
      have hn1 := hk1.next
      simp only [WpO_op, WpO_nil, WpON_some, o_mv, ev_tm, putD_some, reduceIte, Nat.reduceEqDiff]
      refine hQ _ _ (C_sr fun Q' hQ => ?_)
      simp only [r_Ca_Get_7, WpO_op, WpO_nil, WpON_some, o_mv, o_ne, v_rto, b_ne, ev_tm, ev_cst, putD_some, reduceIte, Nat.reduceEqDiff, decide_true, Bool.not_true]
      refine hQ _ _ (WpC_cond (t := false) ?_ (WpC_skip (C_sr fun Q' hQ => ?_)))
      · simp only [ev_tm, reduceIte, Nat.reduceEqDiff]
      simp only [r_Ca_Get_9, WpO_op, WpO_nil, WpON_some, o_mv, o_box, o_build, v_ob, cells_agg, pv_nil, fillA_nil, ev_tm, putD_some, reduceIte, Nat.reduceEqDiff, Nat.reduceAdd, List.length_cons, List.length_nil, Nat.zero_add]
      have hk2 : Keep m1 (m1.addL ty_cache_line 3 [nils, .b false, iv 0]) fun _ => False := Keep.addL hw1
      have hP2 : At (m1.addL ty_cache_line 3 [nils, .b false, iv 0]) m1.next ty_cache_line true [nils, .b false, iv 0] := At.addL rfl
      have hn2 : (m1.addL ty_cache_line 3 [nils, .b false, iv 0]).next = m1.next + 1 := M.next_addL ..
      generalize m1.addL ty_cache_line 3 [nils, .b false, iv 0] = m2 at hk2 hP2 hn2 ⊢
      have hw2 := hk2.wf
      have h2 := h1.keep0 hw1 hk2
      have hd2 := hd1.keep hw1 hk2 fun _ _ h => h
      refine hQ _ _ (WpC_seq (C_sr fun Q' hQ => ?_))
      simp only [r_Ca_Get_10, h2.ca.rd, WpO_op, WpO_call, WpON_some, o_mv, o_load, o_nil, o_fa, v_elPtr, v_rto, v_nil, v_fa, ev_tm, evs_cons, evs_nil, putD_some, reduceIte, Nat.reduceEqDiff, Nat.zero_add, List.getElem?_cons_zero]
      refine WpOC.to (read_spec hw2 hd2 hC hC1 hC2 hC3 (hd2.ok C (List.mem_of_getElem? hC)).lst fun m3 s' b' hb3 hk3 hn3 => ?_)
      have hw3 := hk3.wf
      have h3 := h2.keep0 hw2 hk3
      have hP3 := hP2.keep hw2 hk3 fun h => h
      have hwr := hP3.wr (i := 0) (vs := [s']) (by show 0 + 1 ≤ 3; omega)
      have hup := hP3.upd (i := 0) (vs := [s']) (by show 0 + 1 ≤ 3; omega)
      have hk4 : Keep m3 (m3.upd m1.next 0 [s']) fun b => b = m1.next := Keep.upd hw3 fun _ => rfl
      simp only [hb3.cells1, hwr, WpO_op, WpO_nil, WpON_some, o_mv, o_store, o_nil, o_fa, o_ext, v_elPtr, v_elTup, v_ob, v_rto, v_nil, v_fa, ev_tm, putD_none, putD_some, bc_true, nbeq, reduceIte, Nat.reduceEqDiff, List.length_cons, List.length_nil, Nat.zero_add, decide_true, List.getElem?_cons_succ, List.getElem?_cons_zero]
      generalize m3.upd m1.next 0 [s'] = m4 at hup hk4 hwr ⊢
      have hw4 := hk4.wf
      have hpo : ¬ cOwn c mb po ls0 m1.next := fun hx => by have := h1.lt hw1 hx; omega
      have hbo : ¬ cOwn c mb po ls0 b' := fun hx => by have := h1.lt hw1 hx; omega
      have h4 := h3.keep hw3 hk4 fun b hb e => hpo (e ▸ hb)
      have hb4 := hb3.keep hw3 hk4 (by omega)
      have hP4 : At m4 m1.next ty_cache_line true [s', .b false, iv 0] := hup
      refine hQ _ _ (C_sr fun Q' hQ => ?_)
      simp only [r_Ca_Get_11, WpO_op, WpO_nil, WpON_some, o_mv, o_ne, v_rto, b_ne, ev_tm, ev_cst, putD_some, reduceIte, Nat.reduceEqDiff, decide_true, Bool.not_true]
      refine hQ _ _ (WpC_cond (t := false) ?_ (WpC_skip (C_sr fun Q' hQ => ?_)))
      · simp only [ev_tm, reduceIte, Nat.reduceEqDiff]
      obtain ⟨m5, hr5, hm5, hk5, hn5⟩ := h4.mp.upd hw4 k (.ptr m1.next 0)
      have hnl := put_al (ls := ls0) (k := k) (p := m1.next) hf0 (l := ⟨k, m1.next, s', C.last.2.1, b', false, 0⟩) rfl rfl
      rw [hnl] at hm5
      simp only [r_Ca_Get_13, h4.ca.rd, hr5, WpO_op, o_mupd, WpO_nil, WpON_some, o_mv, o_load, o_nil, o_fa, v_elPtr, v_rto, v_nil, v_fa, ev_tm, putD_none, putD_some, reduceIte, Nat.reduceEqDiff, Nat.zero_add, List.getElem?_cons_succ, List.getElem?_cons_zero]
      have hw5 := hk5.wf
      have h5 := h4.addl (n := ⟨k, m1.next, s', C.last.2.1, b', false, 0⟩) hw4 hk5 hm5 hP4 hb4 hpo hbo (by show m1.next ≠ b'; omega) hf0
      have hln5 := h5.ln _ (List.mem_append_right _ (List.mem_singleton.2 rfl))
      have hda5 := h5.da _ (List.mem_append_right _ (List.mem_singleton.2 rfl))
      refine hQ _ _ (WpC_seq (WpC_skip (C_sr fun Q' hQ => ?_)))
      simp only [r_Ca_Get_14, hln5.rd, WpO_op, WpO_call, WpON_some, o_mv, o_load, o_nil, o_fa, v_elPtr, v_rto, v_nil, v_fa, ev_tm, evs_cons, evs_nil, putD_some, reduceIte, Nat.reduceEqDiff, Nat.zero_add, List.getElem?_cons_zero]
      refine WpOC.to (cloneB_spec hw5 hda5 hC2 hC3 fun m6 s6 b6 hb6 hk6 hn6 => ?_)
      simp only [WpO_op, WpO_nil, WpON_some, o_mv, ev_tm, ev_cst, putD_some, reduceIte, Nat.reduceEqDiff]
      refine hQ _ _ (WpC_ret ⟨.inr rfl, _, ares2, ?_⟩)
      simp only [ev_tm, one_2, reduceIte, Nat.reduceEqDiff]
      refine hQ3 hf m6 ls0 ⟨k, m1.next, s', C.last.2.1, b', false, 0⟩ pv' zs' s6 b6 hls rfl rfl rfl rfl hn1 (by show m.next ≤ b'; omega) (h5.keep0 hw5 hk6) ?_ hb6
      have k12 : Keep m m2 (fun b => b = c ∨ b = mb) := hk1.trans hk2 fun _ _ h => h.elim
      have k13 : Keep m m3 (fun b => b = c ∨ b = mb) := k12.trans hk3 fun _ _ h => h.elim
      have k14 : Keep m m4 (fun b => b = c ∨ b = mb) := k13.trans hk4 fun b hb e => by omega
      have k15 : Keep m m5 (fun b => b = c ∨ b = mb) := k14.trans hk5 fun b hb e => .inr e
      exact k15.trans hk6 fun _ _ h => h.elim
    · simp only [WpO_op, WpO_nil, WpON_some, o_mv, ev_tm, putD_some, reduceIte, Nat.reduceEqDiff]
      refine hQ _ _ (C_sr fun Q' hQ => ?_)
      simp only [r_Ca_Get_7, show ((8 : Int) = 0) = False from eq_false (by omega), WpO_op, WpO_nil, WpON_some, o_mv, o_ne, v_rto, b_ne, ev_tm, ev_cst, putD_some, reduceIte, Nat.reduceEqDiff, decide_false, Bool.not_false]
      refine hQ _ _ (WpC_cond (t := true) ?_ (C_sr fun Q' hQ => ?_))
      · simp only [ev_tm, reduceIte, Nat.reduceEqDiff]
      simp only [r_Ca_Get_8, WpO_op, WpO_nil, WpON_some, o_mv, ev_tm, ev_cst, putD_some, reduceIte, Nat.reduceEqDiff]
      refine hQ _ _ (WpC_ret ⟨.inr rfl, _, ares2, ?_⟩)
      simp only [ev_tm, one_2, reduceIte, Nat.reduceEqDiff]
      exact hQ2 hf hlt hall m1 hk1
end
end Go.Proofs.Ytmkbjcjlnidjiaa
