import Derived.Test.YtmkbjcjlnidjiaaCaD
set_option linter.unusedVariables false
set_option linter.unusedVariables false
/- The cache: what is held, who goes. -/
namespace Go.Proofs.Ytmkbjcjlnidjiaa
open Go Go.Am
section
variable {m : M} {c d cb cap mb : Nat} {pv : AV} {zs : List Int} {po : Option Nat} {ls : List Ln} {L : List Cw} {fused dead : Bool} {fuse writes : Int}
theorem known_spec (h : CaAt m c d cap mb pv zs po ls) (hd : DevAt m d cb L fused dead fuse writes) {k : Nat} (hk : k < L.length) : WpF Try.prog tb fn_Ca_known [.ptr c 0, iv k] m fun v m' => v = iv 0 ∧ m' = m := by
  refine WpF_intro at_Ca_known rfl rfl ?_
  unfold c_Ca_known
  refine C_sr fun Q' hQ => ?_
  simp only [r_Ca_known_0, WpO_op, WpO_nil, WpON_some, o_mv, ev_cst, putD_some, fill_cons, fill_nil, Nat.reduceAdd, Nat.zero_add]
  refine hQ _ _ (WpC_seq (WpC_block (C_sr fun Q' hQ => ?_)))
  simp only [r_Ca_known_1, b_np28, WpO_op, WpO_nil, WpON_some, o_mv, o_eqp, v_rto, v_eqp_n, ev_tm, ev_cst, putD_some, reduceIte, Nat.reduceEqDiff]
  refine hQ _ _ (WpC_cond (t := false) ?_ (C_sr fun Q' hQ => ?_))
  · simp only [ev_tm, reduceIte, Nat.reduceEqDiff]
  simp only [r_Ca_known_3, h.ca.rd, show ((k : Int) < 0) = False from eq_false (by omega), WpO_op, WpO_opG, WpO_callW, WpOCG_true, WpON_some, WpOG_true, o_mv, o_load, o_nil, o_lt, o_fa, v_elPtr, v_rto, v_nil, v_fa, b_lt, ev_tm, ev_cst, evs_cons, evs_nil, putD_some, want_b, bc_false, reduceIte, Nat.reduceEqDiff, Nat.zero_add, decide_false, Bool.not_false, List.getElem?_cons_zero]
  refine WpOC.to ((blocks_spec hd).mono ?_)
  rintro v m' ⟨rfl, rfl⟩
  simp only [show ((L.length : Int) ≤ (k : Int)) = False from eq_false (by omega), WpO_op, WpO_opG, WpO_nil, WpON_some, WpOG_true, o_mv, o_pick, o_ge, v_elB, v_rto, b_ge, ev_tm, ev_cst, putD_some, want_b, bc_false, reduceIte, Nat.reduceEqDiff, decide_false, Bool.not_false]
  refine hQ _ _ (WpC_cond (t := false) ?_ (WpC_skip ?_))
  · simp only [ev_tm, reduceIte, Nat.reduceEqDiff]
  clear hQ
  refine C_sr fun Q' hQ => ?_
  simp only [r_Ca_known_5, WpO_op, WpO_nil, WpON_some, o_mv, ev_cst, putD_some]
  refine hQ _ _ (WpC_ret ⟨.inr rfl, _, ares1, ?_⟩)
  simp only [and_self, ev_tm, one_1, reduceIte, Nat.reduceEqDiff]
theorem heldl_spec (h : CaAt m c d cap mb pv zs po ls) (hd : DevAt m d cb L fused dead fuse writes) {k : Nat} (hk : k < L.length) : WpF Try.prog tb fn_Ca_held [.ptr c 0, iv k] m fun v m' => v = (match fl ls k with | some l => .tuple [.ptr l.p 0, iv 0] | none => .tuple [nilp, iv 11]) ∧ m' = m := by
  refine WpF_intro at_Ca_held rfl rfl ?_
  unfold c_Ca_held
  refine C_sr fun Q' hQ => ?_
  simp only [r_Ca_held_0, WpO_op, WpO_nil, WpON_some, o_mv, ev_cst, putD_some, fill_cons, fill_nil, Nat.reduceAdd, Nat.zero_add]
  refine hQ _ _ (WpC_seq (C_sr fun Q' hQ => ?_))
  simp only [r_Ca_held_1, WpO_op, WpO_call, WpON_some, o_mv, ev_tm, evs_cons, evs_nil, putD_some, reduceIte, Nat.reduceEqDiff]
  refine WpOC.to ((known_spec h hd hk).mono ?_)
  rintro v m' ⟨rfl, rfl⟩
  simp only [WpO_op, WpO_nil, WpON_some, o_mv, ev_tm, putD_some, reduceIte, Nat.reduceEqDiff]
  refine hQ _ _ (C_sr fun Q' hQ => ?_)
  simp only [r_Ca_held_2, WpO_op, WpO_nil, WpON_some, o_mv, o_ne, v_rto, b_ne, ev_tm, ev_cst, putD_some, reduceIte, Nat.reduceEqDiff, decide_true, Bool.not_true]
  refine hQ _ _ (WpC_cond (t := false) ?_ (WpC_skip (C_sr fun Q' hQ => ?_)))
  · simp only [ev_tm, reduceIte, Nat.reduceEqDiff]
  cases hf : fl ls k with
  | none =>
    simp only [r_Ca_held_4, h.ca.rd, h.mp.look, lkp_al, hf, Option.map_none, Option.getD_none, WpO_op, o_look, WpO_nil, WpON_some, o_mv, o_load, o_nil, o_fa, v_elPtr, v_rto, v_nil, v_fa, ev_tm, putD_some, reduceIte, Nat.reduceEqDiff, Nat.zero_add, List.getElem?_cons_succ, List.getElem?_cons_zero]
    refine hQ _ _ (WpC_seq (C_sr fun Q' hQ => ?_))
    simp only [r_Ca_held_5, b_nn63, WpO_op, WpO_nil, WpON_some, o_mv, o_eqp, v_rto, v_eqp_nn, ev_tm, ev_cst, putD_some, reduceIte, Nat.reduceEqDiff]
    refine hQ _ _ (WpC_cond (t := true) ?_ (C_sr fun Q' hQ => ?_))
    · simp only [ev_tm, reduceIte, Nat.reduceEqDiff]
    simp only [r_Ca_held_6, WpO_op, WpO_nil, WpON_some, o_mv, ev_cst, putD_some]
    refine hQ _ _ (WpC_ret ⟨.inr rfl, _, ares2, ?_⟩)
    simp only [hf, and_self, ev_tm, one_2, reduceIte, Nat.reduceEqDiff]
  | some l =>
    simp only [r_Ca_held_4, h.ca.rd, h.mp.look, lkp_al, hf, Option.map_some, Option.getD_some, WpO_op, o_look, WpO_nil, WpON_some, o_mv, o_load, o_nil, o_fa, v_elPtr, v_rto, v_nil, v_fa, ev_tm, putD_some, reduceIte, Nat.reduceEqDiff, Nat.zero_add, List.getElem?_cons_succ, List.getElem?_cons_zero]
    refine hQ _ _ (WpC_seq (C_sr fun Q' hQ => ?_))
    simp only [r_Ca_held_5, b_np63, WpO_op, WpO_nil, WpON_some, o_mv, o_eqp, v_rto, v_eqp_n, ev_tm, ev_cst, putD_some, reduceIte, Nat.reduceEqDiff]
    refine hQ _ _ (WpC_cond (t := false) ?_ (WpC_skip (C_sr fun Q' hQ => ?_)))
    · simp only [ev_tm, reduceIte, Nat.reduceEqDiff]
    simp only [r_Ca_held_7, WpO_op, WpO_nil, WpON_some, o_mv, ev_tm, ev_cst, putD_some, reduceIte, Nat.reduceEqDiff]
    refine hQ _ _ (WpC_ret ⟨.inr rfl, _, ares2, ?_⟩)
    simp only [hf, and_self, ev_tm, one_2, reduceIte, Nat.reduceEqDiff]
theorem keys_spec (hw : Wf m) {Q : AV → M → Prop} (hQ0 : ∀ m' B, At m' B ty_map_int_pcache_line true [.map mb] → Keep m m' (fun _ => False) → m.next ≤ B → Q (.func fn_Keys_line_1 [.ptr B 0]) m') : WpF Try.prog tb fn_Keys_line [.map mb] m Q := by
  refine WpF_intro at_Keys_line rfl rfl ?_
  unfold c_Keys_line
  refine C_sr fun Q' hQ => ?_
  simp only [r_Keys_line_0, WpO_op, cells_map, WpO_nil, WpON_some, o_mv, o_box, v_ob, ev_tm, ev_cst, putD_some, fill_cons, fill_nil, reduceIte, List.length_cons, List.length_nil, Nat.zero_add]
  refine hQ _ _ (C_sr fun Q' hQ => ?_)
  simp only [r_Keys_line_1, WpO_op, o_fn, WpO_nil, WpON_some, o_mv, ev_tm, evs_cons, evs_nil, putD_some, reduceIte, Nat.reduceEqDiff]
  refine hQ _ _ (WpC_ret ⟨.inr rfl, _, ares1, ?_⟩)
  simp only [ev_tm, one_1, reduceIte, Nat.reduceEqDiff]
  exact hQ0 _ m.next (At.addL rfl) (Keep.addL hw) (Nat.le_refl _)
theorem held_spec (hw : Wf m) (h : CaAt m c d cap mb pv zs po ls) (h0 : ls ≠ []) (hl : ls.length ≤ 1000000) (hb : ∀ l ∈ ls, l.b ≤ 1000000) {Q : AV → M → Prop}
    (hQ0 : ∀ m' B, At m' B ty_int false ((Sk (al ls)).map iv) → Keep m m' (fun _ => False) → m.next ≤ B → Q (.slice B 0 ls.length ls.length false) m') : WpF Try.prog tb fn_Ca_Held [.ptr c 0] m Q := by
  refine WpF_intro at_Ca_Held rfl rfl ?_
  unfold c_Ca_Held
  refine C_sr fun Q' hQ => ?_
  simp only [r_Ca_Held_0, WpO_op, WpO_nil, WpON_some, o_mv, ev_cst, putD_some, fill_cons, fill_nil, Nat.zero_add]
  refine hQ _ _ (WpC_seq (C_sr fun Q' hQ => ?_))
  simp only [r_Ca_Held_1, b_np28, WpO_op, WpO_nil, WpON_some, o_mv, o_eqp, v_rto, v_eqp_n, ev_tm, ev_cst, putD_some, reduceIte, Nat.reduceEqDiff]
  refine hQ _ _ (WpC_cond (t := false) ?_ (WpC_skip (C_sr fun Q' hQ => ?_)))
  · simp only [ev_tm, reduceIte, Nat.reduceEqDiff]
  simp only [r_Ca_Held_3, h.ca.rd, WpO_op, WpO_call, WpON_some, o_mv, o_load, o_nil, o_fa, v_elPtr, v_rto, v_nil, v_fa, ev_tm, evs_cons, evs_nil, putD_some, reduceIte, Nat.reduceEqDiff, Nat.zero_add, List.getElem?_cons_succ, List.getElem?_cons_zero]
  refine WpOC.to (keys_spec hw fun m1 B1 hB1 hk1 hn1 => ?_)
  have hw1 := hk1.wf
  have h1 := h.keep0 hw hk1
  have h0' : al ls ≠ [] := fun e => h0 (List.map_eq_nil_iff.1 e)
  obtain ⟨m2, hr, ha, hk2⟩ := sortedR_at (L := al ls) 3 h0' (by rw [len_al]; exact hl) (fun e he => by
    obtain ⟨l, hl, rfl⟩ := List.mem_map.1 he
    exact hb l hl) hw1
  simp only [WpO_call, ev_tm, evs_cons, evs_nil, putD_some, reduceIte, Nat.reduceEqDiff]
  have hkn : tb.it 31 [.func 51 [.ptr B1 0]] m1 = some (some (.slice m1.next 0 (al ls).length (al ls).length false, m2)) := by
    have := sorted_known (P := Try.prog) (g := 31) (et := 3) (kf := 51) hB1 h1.mp
    rw [hr] at this
    exact this
  refine WpOC.to (WpF_known (tab_get Try.func31) hkn ?_)
  simp only [WpO_op, WpO_nil, WpON_some, o_mv, ev_tm, putD_some, reduceIte, Nat.reduceEqDiff]
  refine hQ _ _ (WpC_ret ⟨.inr rfl, _, ares1, ?_⟩)
  simp only [ev_tm, one_1, reduceIte, Nat.reduceEqDiff]
  rw [len_al]
  exact hQ0 m2 m1.next ha (hk1.trans hk2 fun _ _ h => h) (by have := hk1.next; omega)
/-- Is the block of a number pinned? -/
def pinned (ls : List Ln) (z : Int) : Bool := match ls.find? fun l => decide ((l.b : Int) = z) with
  | some l => decide (0 < l.pins)
  | none => false
theorem find_cast (ls : List Ln) (k : Nat) : (ls.find? fun l => decide ((l.b : Int) = (k : Int))) = fl ls k := by
  unfold fl
  congr 1
  funext l
  exact decide_eq_decide.2 (by omega)
theorem pinned_spec (h : CaAt m c d cap mb pv zs po ls) {V : Nat} (hV : At m V ty_pcache_Cache true [.ptr c 0]) {l : Ln} {k : Nat} (hf : fl ls k = some l) : WpF Try.prog tb fn_Ca_victim_1 [iv k, .ptr V 0] m fun v m' => v = .b (pinned ls k) ∧ m' = m := by
  have hl := (h.ln l (fl_some hf).1).rd
  have hp : pinned ls k = decide ((0 : Int) < (l.pins : Int)) := by
    unfold pinned
    rw [find_cast, hf]
    exact decide_eq_decide.2 (by omega)
  refine WpF_intro at_Ca_victim_1 rfl rfl ?_
  unfold c_Ca_victim_1
  refine C_sr fun Q' hQ => ?_
  simp only [r_Ca_victim_1_0, WpO_op, WpO_nil, WpON_some, o_mv, ev_cst, putD_some, fill_cons, fill_nil, Nat.reduceAdd, Nat.zero_add]
  refine hQ _ _ (C_sr fun Q' hQ => ?_)
  simp only [r_Ca_victim_1_1, hV.rd, h.ca.rd, h.mp.look, lkp_al, hf, Option.map_some, Option.getD_some, hl, WpO_op, o_look, WpO_nil, WpON_some, o_mv, o_load, o_nil, o_gt, o_fa, v_elPtr, v_rto, v_nil, v_fa, b_gt, ev_tm, ev_cst, putD_some, reduceIte, Nat.reduceEqDiff, Nat.zero_add, List.getElem?_cons_succ, List.getElem?_cons_zero]
  refine hQ _ _ (WpC_ret ⟨.inr rfl, _, ares1, ?_⟩)
  simp only [hp, and_self, ev_tm, one_1, reduceIte, Nat.reduceEqDiff]
end
end Go.Proofs.Ytmkbjcjlnidjiaa
