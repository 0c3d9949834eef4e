import Derived.Test.YtmkbjcjlnidjiaaCaE
set_option linter.unusedVariables false
set_option linter.unusedVariables false
/- The cache: who goes, and the room that is made. -/
namespace Go.Proofs.Ytmkbjcjlnidjiaa
open Go Go.Am
section
variable {m : M} {c d cb cap mb : Nat} {pv : AV} {zs : List Int} {po : Option Nat} {ls : List Ln} {L : List Cw} {fused dead : Bool} {fuse writes : Int}
theorem pinned_at (h : CaAt m c d cap mb pv zs po ls) {l : Ln} (hl : l ∈ ls) : pinned ls (l.b : Int) = decide (0 < l.pins) := by
  unfold pinned
  rw [find_cast, fl_mem h.nb hl]
theorem CaAt.setpk {m' : M} {pv' : AV} {zs' : List Int} (h : CaAt m c d cap mb pv zs po ls) (hw : Wf m) (hk : Keep m m' fun b => b = c) (hc : At m' c ty_cache_Cache true [.ptr d 0, iv cap, pv', .map mb]) (hp : IsAt m pv' zs' po) : CaAt m' c d cap mb pv' zs' po ls :=
  ⟨hc, h.mp.keep hw hk fun e => ne_map h.ca h.mp e.symm, fun l hl => (h.ln l hl).keep hw hk (h.cp l hl), fun l hl => (h.da l hl).keep hw hk (h.dw l hl).1, hp.keep hw hk fun b hb => (h.pw b hb).1, h.nb, h.np, h.cp, h.dw, h.pw⟩
set_option maxHeartbeats 2000000 in
theorem victim_spec (hw : Wf m) (h : CaAt m c d cap mb pv zs po ls) (h0 : ls ≠ []) (hl : ls.length ≤ 1000000) (hb : ∀ l ∈ ls, l.b ≤ 1000000) {Q : AV → M → Prop}
    (hQ1 : (∀ l ∈ ls, 0 < l.pins) → ∀ m', Keep m m' (fun _ => False) → Q (.tuple [iv 0, .b false]) m')
    (hQ2 : ∀ m' l pv' zs', l ∈ ls → l.pins = 0 → CaAt m' c d cap mb pv' zs' po ls → Keep m m' (fun b => b = c) → Q (.tuple [iv l.b, .b true]) m') : WpF Try.prog tb fn_Ca_victim [.ptr c 0] m Q := by
  have hcl := h.ca.lt hw
  refine WpF_intro at_Ca_victim rfl rfl ?_
  unfold c_Ca_victim
  have hV : At (m.addL ty_pcache_Cache 1 [.ptr c 0]) m.next ty_pcache_Cache true [.ptr c 0] := At.addL rfl
  have hk1 : Keep m (m.addL ty_pcache_Cache 1 [.ptr c 0]) fun _ => False := Keep.addL hw
  refine C_sr fun Q' hQ => ?_
  simp only [r_Ca_victim_0, WpO_op, WpO_nil, WpON_some, o_mv, o_box, v_ob, cells_ptr, ev_tm, ev_cst, putD_some, fill_cons, fill_nil, reduceIte, List.length_cons, List.length_nil, Nat.zero_add]
  refine hQ _ _ (C_sr fun Q' hQ => ?_)
  generalize m.addL ty_pcache_Cache 1 [.ptr c 0] = m1 at hV hk1 ⊢
  have hw1 := hk1.wf
  have h1 := h.keep0 hw hk1
  have hVn : m.next < m1.next := hV.lt hw1
  simp only [r_Ca_victim_1, hV.rd, WpO_op, WpO_call, WpON_some, o_load, v_elPtr, v_rto, ev_tm, evs_cons, evs_nil, putD_some, reduceIte, Nat.reduceEqDiff, List.getElem?_cons_zero]
  refine WpOC.to (held_spec hw1 h1 h0 hl hb fun m2 B hB hk2 hBn => ?_)
  have hw2 := hk2.wf
  have h2 := h1.keep0 hw1 hk2
  have hV2 := hV.keep hw1 hk2 fun h => h
  have hSl : (Sk (al ls)).length = ls.length := by rw [len_Sk, len_al]
  have hS0 : Sk (al ls) ≠ [] := fun e => h0 (List.length_eq_zero_iff.1 (by rw [← hSl, e]; rfl))
  have hSm : ∀ z ∈ Sk (al ls), ∃ l ∈ ls, (l.b : Int) = z := by
    intro z hz
    obtain ⟨e, he, rfl⟩ := mem_Sk.1 hz
    obtain ⟨l, hl, rfl⟩ := List.mem_map.1 he
    exact ⟨l, hl, rfl⟩
  have hBo : ¬ cOwn c mb po ls B := fun hx => by have := h1.lt hw1 hx; omega
  have hT : Tells m2 (fun x => x = B) (.func fn_Ca_victim_1 [.ptr m.next 0]) (Sk (al ls)) (pinned ls) := by
    refine ⟨_, _, rfl, fun z hz m' hk' => ?_⟩
    obtain ⟨l, hlm, rfl⟩ := hSm z hz
    have h' := h2.keep hw2 hk' fun b hb e => hBo (e ▸ hb)
    exact pinned_spec h' (hV2.keep hw2 hk' fun e => by omega) (fl_mem h.nb hlm)
  simp only [WpO_op, o_fn, WpO_call, WpON_some, ev_tm, evs_cons, evs_nil, putD_some, reduceIte, Nat.reduceEqDiff]
  rw [← hSl]
  refine WpOC.to (del_spec hw2 hB hS0 (by omega) hT fun m3 k hB3 hk hk3 => ?_)
  have hw3 := hk3.wf
  have h3 := h2.keep hw2 hk3 fun b hb e => hBo (e ▸ hb)
  have hV3 := hV2.keep hw2 hk3 fun e => by omega
  have hk03 : Keep m m3 fun _ => False := (hk1.trans hk2 fun _ _ h => h).trans hk3 fun b hb e => by have := hk1.next; omega
  have hfree : ∀ z ∈ (Sk (al ls)).filter (fun y => !pinned ls y), ∃ l ∈ ls, (l.b : Int) = z ∧ l.pins = 0 := by
    intro z hz
    rw [List.mem_filter] at hz
    obtain ⟨l, hlm, rfl⟩ := hSm z hz.1
    have := hz.2
    rw [pinned_at h hlm] at this
    refine ⟨l, hlm, rfl, ?_⟩
    simp at this
    exact this
  have hkl : k ≤ (Sk (al ls)).length := by rw [hk]; exact List.length_filter_le _ _
  generalize hF : (Sk (al ls)).filter (fun y => !pinned ls y) = free at hB3 hk hfree
  simp only [WpO_op, WpO_nil, WpON_some, o_mv, ev_tm, putD_some, reduceIte, Nat.reduceEqDiff]
  refine hQ _ _ (WpC_seq (C_sr fun Q' hQ => ?_))
  by_cases hk0 : k = 0
  · subst hk0
    simp only [r_Ca_victim_2, show (((0 : Nat) : Int) = 0) = True from eq_true rfl, WpO_op, WpO_nil, WpON_some, o_mv, o_eq, o_len, v_ob, v_rto, b_eq, len_sl, ev_tm, ev_cst, putD_some, reduceIte, Nat.reduceEqDiff, decide_true]
    refine hQ _ _ (WpC_cond (t := true) ?_ (C_sr fun Q' hQ => ?_))
    · simp only [ev_tm, reduceIte, Nat.reduceEqDiff]
    simp only [r_Ca_victim_3, WpO_op, WpO_nil, WpON_some, o_mv, ev_cst, putD_some]
    refine hQ _ _ (WpC_ret ⟨.inr rfl, _, ares2, ?_⟩)
    simp only [ev_tm, one_2, reduceIte, Nat.reduceEqDiff]
    refine hQ1 (fun l hlm => ?_) m3 hk03
    have hz : (l.b : Int) ∈ Sk (al ls) := mem_Sk.2 ⟨(l.b, .ptr l.p 0), List.mem_map_of_mem hlm, rfl⟩
    rcases Nat.eq_zero_or_pos l.pins with hp | hp
    · have : (l.b : Int) ∈ free := by
        rw [← hF, List.mem_filter]
        exact ⟨hz, by rw [pinned_at h hlm, hp]; rfl⟩
      rw [List.length_eq_zero_iff.1 hk.symm] at this
      cases this
    · exact hp
  simp only [r_Ca_victim_2, show ((k : Int) = 0) = False from eq_false (by omega), WpO_op, WpO_nil, WpON_some, o_mv, o_eq, o_len, v_ob, v_rto, b_eq, len_sl, ev_tm, ev_cst, putD_some, reduceIte, Nat.reduceEqDiff, decide_false]
  refine hQ _ _ (WpC_cond (t := false) ?_ (WpC_skip (C_sr fun Q' hQ => ?_)))
  · simp only [ev_tm, reduceIte, Nat.reduceEqDiff]
  simp only [r_Ca_victim_4, WpO_op, WpO_nil, WpON_some, o_mv, ev_cst, putD_some]
  have hA : (k : Int) - 1 = ((k - 1 : Nat) : Int) := by omega
  -- what comes behind the pick
  have fin : ∀ (fr : Fr) (m4 : M) (pick : Int) (pv' : AV) (zs' : List Int), ev (tm 4) fr = .slice B 0 k (Sk (al ls)).length false → ev (tm 5) fr = iv pick → At m4 B ty_int false (free.map iv ++ List.replicate ((Sk (al ls)).length - k) (iv 0)) → CaAt m4 c d cap mb pv' zs' po ls → Keep m m4 (fun b => b = c) →
      WpC Try.prog tb (.seq (.reg r_Ca_victim_7) .ret) fr m4 fun x fr' m' => (x = .normal ∨ x = .ret) ∧ ∃ l, ares Try.prog ⟨fr', m', [], none⟩ [.tmp 2, .tmp 3] = some l ∧ Q (one l) m' := by
    intro fr m4 pick pv' zs' e4 e5 hB4 h4 hk4
    obtain ⟨j, hj, hjl⟩ : ∃ j : Nat, max 0 (min pick ((k - 1 : Nat) : Int)) = (j : Int) ∧ j < k := ⟨(max 0 (min pick ((k - 1 : Nat) : Int))).toNat, by omega, by omega⟩
    have hz : free[j]? = some (free[j]'(by omega)) := List.getElem?_eq_getElem _
    obtain ⟨l, hlm, hlb, hlp⟩ := hfree _ (List.mem_of_getElem? hz)
    have hr : m4.rd B j = some (iv l.b) := by
      rw [hB4.rd, List.getElem?_append_left (by simp; omega), List.getElem?_map, hz, ← hlb]; rfl
    refine C_sr fun Q' hQ => ?_
    simp only [r_Ca_victim_7, e4, e5, b_sub ty_int (show -9223372036854775808 ≤ (k : Int) - 1 by omega) (show (k : Int) - 1 ≤ 9223372036854775807 by omega), hA, hj, v_iaS 1 B 0 k (Sk (al ls)).length false hjl, Nat.mul_one, hr, WpO_op, WpO_nil, WpON_some, o_mv, o_load, o_sub, o_iaS, o_len, o_min, o_max, v_elPtr, v_ob, v_rto, v_min, v_max, len_sl, ev_tm, ev_cst, putD_some, reduceIte, Nat.reduceEqDiff, Nat.zero_add]
    refine hQ _ _ (WpC_ret ⟨.inr rfl, _, ares2, ?_⟩)
    simp only [ev_tm, one_2, reduceIte, Nat.reduceEqDiff]
    exact hQ2 m4 l pv' zs' hlm hlp h4 hk4
  refine hQ _ _ (WpC_seq (WpC_seq (C_reg fun Q' hQ => ?_)))
  cases zs with
  | nil =>
    have hz0 : lenK false pv = some 0 := h3.pk.len
    simp only [r_Ca_victim_5, hV3.rd, h3.ca.rd, hz0, show ((0 : Int) < ((0 : Nat) : Int)) = False from eq_false (by omega), WpO_op, WpO_nil, WpON_some, o_load, o_nil, o_gt, o_fa, o_len, v_elPtr, v_ob, v_rto, v_nil, v_fa, b_gt, ev_tm, ev_cst, putD_some, reduceIte, Nat.reduceEqDiff, Nat.zero_add, decide_false, List.getElem?_cons_succ, List.getElem?_cons_zero]
    refine hQ _ _ (WpC_cond (t := false) ?_ (WpC_skip ?_))
    · simp only [ev_tm, reduceIte, Nat.reduceEqDiff]
    refine fin _ _ 0 pv [] ?_ ?_ hB3 h3 (hk03.mono fun _ _ h => h.elim)
    all_goals simp only [ev_tm, reduceIte, Nat.reduceEqDiff]
  | cons z zs =>
    obtain ⟨pb, off, pc, hx, hr, y, hy, hIs⟩ := h3.pk.tail
    have hz1 : lenK false pv = some (zs.length + 1) := h3.pk.len
    simp only [r_Ca_victim_5, hV3.rd, h3.ca.rd, hz1, show ((0 : Int) < ((zs.length + 1 : Nat) : Int)) = True from eq_true (by omega), WpO_op, WpO_nil, WpON_some, o_load, o_nil, o_gt, o_fa, o_len, v_elPtr, v_ob, v_rto, v_nil, v_fa, b_gt, ev_tm, ev_cst, putD_some, reduceIte, Nat.reduceEqDiff, Nat.zero_add, decide_true, List.getElem?_cons_succ, List.getElem?_cons_zero]
    have hwr := h3.ca.wr (i := 2) (vs := [y]) (by show 2 + 1 ≤ 4; omega)
    have hup := h3.ca.upd (i := 2) (vs := [y]) (by show 2 + 1 ≤ 4; omega)
    have hk4 : Keep m3 (m3.upd c 2 [y]) fun b => b = c := Keep.upd hw3 fun _ => rfl
    have hq := h3.pk.aq
    have hrs : rSl 1 false (.cst (.slice pb off (zs.length + 1) pc false)) (some (.cst (iv 1))) none none .leaf m3 = some (y, m3) := by rw [← hx]; exact hy m3 rfl
    rw [hx] at hq
    have hia : rIaS 1 (.cst (.slice pb off (zs.length + 1) pc false)) (.cst (iv 0)) .leaf m3 = some (.ptr pb (off + 0), m3) := by
      have := v_iaS (m := m3) 1 pb off (zs.length + 1) pc false (show 0 < zs.length + 1 by omega)
      rw [Nat.zero_mul] at this
      exact this
    refine hQ _ _ (WpC_cond (t := true) ?_ (C_drawn fun Q' hQ => ?_))
    · simp only [ev_tm, reduceIte, Nat.reduceEqDiff]
    simp only [r_Ca_victim_6, hV3.rd, h3.ca.rd, hx, hia, hr, hrs, hIs.cells1, hwr, WpT_op, WpT_nil, WpTN_some, o_mv, o_load, o_store, o_nil, o_drop, o_fa, o_iaS, v_elPtr, v_ob, v_rto, v_nil, v_fa, ev_tm, ev_cst, putD_none, putD_some, bc_true, nbeq, reduceIte, Nat.reduceEqDiff, List.length_cons, List.length_nil, Nat.zero_add, decide_true, List.nil_append, List.cons_append, List.getElem?_cons_succ, List.getElem?_cons_zero]
    refine hQ _ ⟨?_, _, rfl, ?_⟩
    · simp only [List.all_cons, List.all_nil, again0, want_none, r_Ca_victim_6, hV3.rd, h3.ca.rd, hx, hr, hrs, hIs.aq, hq, aq_iv, show ∀ (b o : Nat), aveq 40 (.ptr b o) (.ptr b o) = true from fun b o => by simp [aveq, Nat.beq_refl], o_load, o_drop, v_elPtr, v_ob, v_rto, ev_tm, ev_cst, bc_true, reduceIte, Nat.reduceEqDiff, Bool.and_self, List.getElem?_cons_succ, List.getElem?_cons_zero]
    refine fin _ _ z y zs ?_ ?_ (hB3.keep hw3 hk4 fun e => hBo (.inl e)) (h3.setpk hw3 hk4 hup hIs) ((hk03.mono fun _ _ h => h.elim).trans hk4 fun _ _ h => h)
    all_goals simp only [ev_tm, reduceIte, Nat.reduceEqDiff]
theorem clean_spec (h : CaAt m c d cap mb pv zs po ls) {l : Ln} {k : Nat} (hf : fl ls k = some l) (hd : l.dirty = false) : WpF Try.prog tb fn_Ca_write [.ptr c 0, iv k] m fun v m' => v = iv 0 ∧ m' = m := by
  have hr := (h.ln l (fl_some hf).1).rd
  rw [hd] at hr
  refine WpF_intro at_Ca_write rfl rfl ?_
  unfold c_Ca_write
  refine C_sr fun Q' hQ => ?_
  simp only [r_Ca_write_0, WpO_op, WpO_nil, WpON_some, o_mv, ev_cst, putD_some, fill_cons, fill_nil, Nat.reduceAdd, Nat.zero_add]
  refine hQ _ _ (C_sr fun Q' hQ => ?_)
  simp only [r_Ca_write_1, h.ca.rd, h.mp.look, lkp_al, hf, Option.map_some, Option.getD_some, WpO_op, o_look, WpO_nil, WpON_some, o_mv, o_load, o_nil, o_fa, v_elPtr, v_rto, v_nil, v_fa, ev_tm, putD_some, reduceIte, Nat.reduceEqDiff, Nat.zero_add, List.getElem?_cons_succ, List.getElem?_cons_zero]
  refine hQ _ _ (WpC_seq (C_sr fun Q' hQ => ?_))
  simp only [r_Ca_write_2, b_np63, hr, WpO_op, WpO_opG, WpO_nil, WpON_some, WpOG_true, o_mv, o_pick, o_load, o_nil, o_eqp, o_un, o_fa, v_elB, v_elPtr, v_rto, v_nil, v_eqp_n, v_not, v_fa, ev_tm, ev_cst, putD_some, want_b, bc_false, reduceIte, Nat.reduceEqDiff, Nat.zero_add, Bool.not_false, List.getElem?_cons_succ, List.getElem?_cons_zero]
  refine hQ _ _ (WpC_cond (t := true) ?_ (C_sr fun Q' hQ => ?_))
  · simp only [ev_tm, reduceIte, Nat.reduceEqDiff]
  simp only [r_Ca_write_3, WpO_op, WpO_nil, WpON_some, o_mv, ev_cst, putD_some]
  refine hQ _ _ (WpC_ret ⟨.inr rfl, _, ares1, ?_⟩)
  simp only [and_self, ev_tm, one_1, reduceIte, Nat.reduceEqDiff]
theorem rm_mem {ls : List Ln} {k : Nat} {l : Ln} (h : l ∈ rm ls k) : l ∈ ls ∧ l.b ≠ k := by
  unfold rm at h
  rw [List.mem_filter] at h
  exact ⟨h.1, by simpa using h.2⟩
theorem CaAt.rmv {m' : M} {k : Nat} (h : CaAt m c d cap mb pv zs po ls) (hw : Wf m) (hk : Keep m m' fun b => b = mb) (hm : MpAt m' mb (al (rm ls k))) : CaAt m' c d cap mb pv zs po (rm ls k) :=
  ⟨h.ca.keep hw hk (ne_map h.ca h.mp), hm, fun l hl => (h.ln l (rm_mem hl).1).keep hw hk (ne_map (h.ln l (rm_mem hl).1) h.mp), fun l hl => (h.da l (rm_mem hl).1).keep hw hk (ne_mapB (h.da l (rm_mem hl).1) h.mp), h.pk.keep hw hk fun b hb => by
      have hp := h.pk
      rw [hb] at hp
      exact ne_mapI hp h.mp,
    h.nb.sublist (List.Sublist.map _ List.filter_sublist), h.np.sublist (List.Sublist.map _ List.filter_sublist), fun l hl => h.cp l (rm_mem hl).1, fun l hl => ⟨(h.dw l (rm_mem hl).1).1, fun l' hl' => (h.dw l (rm_mem hl).1).2 l' (rm_mem hl').1⟩, fun b hb => ⟨(h.pw b hb).1, fun l hl => (h.pw b hb).2 l (rm_mem hl).1⟩⟩
theorem room_spec (hw : Wf m) (h : CaAt m c d cap mb pv zs po ls) (hcap : 1 ≤ cap) (hl : ls.length ≤ 1000000) (hb : ∀ l ∈ ls, l.b ≤ 1000000) (hcl : ∀ l ∈ ls, l.pins = 0 → l.dirty = false) {Q : AV → M → Prop}
    (hQ1 : ls.length < cap → Q (iv 0) m)
    (hQ2 : ¬ ls.length < cap → (∀ l ∈ ls, 0 < l.pins) → ∀ m', Keep m m' (fun _ => False) → Q (iv 8) m')
    (hQ3 : ¬ ls.length < cap → ∀ m' l pv' zs', l ∈ ls → l.pins = 0 → CaAt m' c d cap mb pv' zs' po (rm ls l.b) → Keep m m' (fun b => b = c ∨ b = mb) → Q (iv 0) m') : WpF Try.prog tb fn_Ca_room [.ptr c 0] m Q := by
  have hml := h.mp.mlen
  rw [len_al] at hml
  refine WpF_intro at_Ca_room rfl rfl ?_
  unfold c_Ca_room
  refine C_sr fun Q' hQ => ?_
  simp only [r_Ca_room_0, WpO_op, WpO_nil, WpON_some, o_mv, ev_cst, putD_some, fill_cons, fill_nil, Nat.zero_add]
  refine hQ _ _ (WpC_seq (C_sd fun Q' hQ => ?_))
  have hqm : aveq 40 (.map mb) (.map mb) = true := by simp [aveq, Nat.beq_refl]
  by_cases hlt : ls.length < cap
  · simp only [r_Ca_room_1, h.ca.rd, hml, show ((ls.length : Int) < (cap : Int)) = True from eq_true (by omega), o_mlen, WpT_op, WpT_nil, WpTN_some, o_mv, o_load, o_nil, o_lt, o_fa, v_elPtr, v_rto, v_nil, v_fa, b_lt, ev_tm, putD_some, reduceIte, Nat.reduceEqDiff, Nat.zero_add, decide_true, List.nil_append, List.cons_append, List.getElem?_cons_succ, List.getElem?_cons_zero]
    refine hQ _ ⟨?_, _, rfl, ?_⟩
    · simp only [List.all_cons, List.all_nil, again0, want_none, r_Ca_room_1, h.ca.rd, hml, hqm, aq_iv, o_mlen, o_load, v_elPtr, v_ob, v_rto, ev_tm, bc_true, reduceIte, Nat.reduceEqDiff, Bool.and_self, List.getElem?_cons_succ, List.getElem?_cons_zero]
    refine WpC_cond (t := true) ?_ (C_sr fun Q' hQ => ?_)
    · simp only [ev_tm, reduceIte, Nat.reduceEqDiff]
    simp only [r_Ca_room_2, WpO_op, WpO_nil, WpON_some, o_mv, ev_cst, putD_some]
    refine hQ _ _ (WpC_ret ⟨.inr rfl, _, ares1, ?_⟩)
    simp only [ev_tm, one_1, reduceIte, Nat.reduceEqDiff]
    exact hQ1 hlt
  simp only [r_Ca_room_1, h.ca.rd, hml, show ((ls.length : Int) < (cap : Int)) = False from eq_false (by omega), o_mlen, WpT_op, WpT_nil, WpTN_some, o_mv, o_load, o_nil, o_lt, o_fa, v_elPtr, v_rto, v_nil, v_fa, b_lt, ev_tm, putD_some, reduceIte, Nat.reduceEqDiff, Nat.zero_add, decide_false, List.nil_append, List.cons_append, List.getElem?_cons_succ, List.getElem?_cons_zero]
  refine hQ _ ⟨?_, _, rfl, ?_⟩
  · simp only [List.all_cons, List.all_nil, again0, want_none, r_Ca_room_1, h.ca.rd, hml, hqm, aq_iv, o_mlen, o_load, v_elPtr, v_ob, v_rto, ev_tm, bc_true, reduceIte, Nat.reduceEqDiff, Bool.and_self, List.getElem?_cons_succ, List.getElem?_cons_zero]
  refine WpC_cond (t := false) ?_ (WpC_skip (C_sr fun Q' hQ => ?_))
  · simp only [ev_tm, reduceIte, Nat.reduceEqDiff]
  have h0 : ls ≠ [] := fun e => by rw [e] at hlt; simp at hlt; omega
  simp only [r_Ca_room_3, WpO_op, WpO_call, WpON_some, o_mv, ev_tm, evs_cons, evs_nil, putD_some, reduceIte, Nat.reduceEqDiff]
  refine WpOC.to (victim_spec hw h h0 hl hb (fun hall m1 hk1 => ?_) (fun m1 l pv' zs' hlm hlp h1 hk1 => ?_))
  · simp only [WpO_op, WpO_nil, WpON_some, o_mv, o_ext, v_elTup, v_rto, ev_tm, putD_some, reduceIte, Nat.reduceEqDiff, List.getElem?_cons_succ, List.getElem?_cons_zero]
    refine hQ _ _ (WpC_seq (C_sr fun Q' hQ => ?_))
    simp only [r_Ca_room_4, WpO_op, WpO_nil, WpON_some, o_mv, o_un, v_rto, v_not, ev_tm, putD_some, reduceIte, Nat.reduceEqDiff, Bool.not_false]
    refine hQ _ _ (WpC_cond (t := true) ?_ (C_sr fun Q' hQ => ?_))
    · simp only [ev_tm, reduceIte, Nat.reduceEqDiff]
    simp only [r_Ca_room_5, WpO_op, WpO_nil, WpON_some, o_mv, ev_cst, putD_some]
    refine hQ _ _ (WpC_ret ⟨.inr rfl, _, ares1, ?_⟩)
    simp only [ev_tm, one_1, reduceIte, Nat.reduceEqDiff]
    exact hQ2 hlt hall m1 hk1
  · have hw1 := hk1.wf
    simp only [WpO_op, WpO_nil, WpON_some, o_mv, o_ext, v_elTup, v_rto, ev_tm, putD_some, reduceIte, Nat.reduceEqDiff, List.getElem?_cons_succ, List.getElem?_cons_zero]
    refine hQ _ _ (WpC_seq (C_sr fun Q' hQ => ?_))
    simp only [r_Ca_room_4, WpO_op, WpO_nil, WpON_some, o_mv, o_un, v_rto, v_not, ev_tm, putD_some, reduceIte, Nat.reduceEqDiff, Bool.not_true]
    refine hQ _ _ (WpC_cond (t := false) ?_ (WpC_skip (WpC_seq (C_sr fun Q' hQ => ?_))))
    · simp only [ev_tm, reduceIte, Nat.reduceEqDiff]
    simp only [r_Ca_room_6, WpO_op, WpO_call, WpON_some, o_mv, ev_tm, evs_cons, evs_nil, putD_some, reduceIte, Nat.reduceEqDiff]
    refine WpOC.to ((clean_spec h1 (fl_mem h.nb hlm) (hcl l hlm hlp)).mono ?_)
    rintro v m2 ⟨rfl, rfl⟩
    simp only [WpO_op, WpO_nil, WpON_some, o_mv, ev_tm, putD_some, reduceIte, Nat.reduceEqDiff]
    refine hQ _ _ (C_sr fun Q' hQ => ?_)
    simp only [r_Ca_room_7, WpO_op, WpO_nil, WpON_some, o_mv, o_ne, v_rto, b_ne, ev_tm, ev_cst, putD_some, reduceIte, Nat.reduceEqDiff, decide_true, Bool.not_true]
    refine hQ _ _ (WpC_cond (t := false) ?_ (WpC_skip (C_sr fun Q' hQ => ?_)))
    · simp only [ev_tm, reduceIte, Nat.reduceEqDiff]
    obtain ⟨m3, hr3, hm3, hk3, hn3⟩ := h1.mp.del hw1 l.b
    rw [del_al h1.nb] at hm3
    simp only [r_Ca_room_9, h1.ca.rd, hr3, WpO_op, o_mdel, WpO_nil, WpON_some, o_mv, o_load, o_nil, o_fa, v_elPtr, v_rto, v_nil, v_fa, ev_tm, putD_none, putD_some, reduceIte, Nat.reduceEqDiff, Nat.zero_add, List.getElem?_cons_succ, List.getElem?_cons_zero]
    refine hQ _ _ (C_sr fun Q' hQ => ?_)
    simp only [r_Ca_room_10, WpO_op, WpO_nil, WpON_some, o_mv, ev_cst, putD_some]
    refine hQ _ _ (WpC_ret ⟨.inr rfl, _, ares1, ?_⟩)
    simp only [ev_tm, one_1, reduceIte, Nat.reduceEqDiff]
    exact hQ3 hlt m3 l pv' zs' hlm hlp (h1.rmv hw1 hk3 hm3) ((hk1.mono fun _ _ h => .inl h).trans hk3 fun _ _ h => .inr h)
end
end Go.Proofs.Ytmkbjcjlnidjiaa
