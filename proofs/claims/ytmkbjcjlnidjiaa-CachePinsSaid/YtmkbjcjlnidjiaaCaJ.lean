import Derived.Test.YtmkbjcjlnidjiaaCaI
set_option linter.unusedVariables false
set_option linter.unusedVariables false
/- A new device of eight blocks, a new cache. -/
namespace Go.Proofs.Ytmkbjcjlnidjiaa
open Go Go.Am
section
variable {m : M}
theorem n_and : binS Try.prog .and ty_int (iv 64) (iv 63) = some (iv 0) := by kernel_rfl
theorem n_sub : binS Try.prog .sub ty_int (iv 64) (iv 1) = some (iv 63) := by kernel_rfl
theorem n_mul : binS Try.prog .mul ty_int (iv 64) (iv 8) = some (iv 512) := by kernel_rfl
theorem o_and (t : TypeId) (x y : RO) (fr : Fr) (m : M) : run (.and (binS Try.prog .and t) x y) fr m = rto m (binS Try.prog .and t (ev x fr) (ev y fr)) := quick_and
def Z64 : Bs := List.replicate 64 0
/-- A device that nothing was written to. -/
def Fresh (L : List Cw) : Prop := ∀ c ∈ L, c.al = Z64 ∧ c.wl = []
theorem mkc (m : M) : rMkSl ty_device_cell 2 48 [nils, nils] (.cst (iv 8)) (.cst (iv 8)) .leaf m = some (.slice m.next 0 8 8 false, m.addZ ty_device_cell (8 * 2) [nils, nils]) := v_mksl ty_device_cell 2 48 [nils, nils] (n := 8) (by omega) (by omega)
theorem splice_cells {L : List Cw} {k : Nat} (hL : L.length = k) (hk : k < 8) (c : Cw) (hc : c.wv = nils) : splice (dflat L ++ List.replicate ((8 - k) * 2) nils) (k * 2) [c.av] = dflat (L ++ [c]) ++ List.replicate ((8 - (k + 1)) * 2) nils := by
  have hd : (dflat L).length = k * 2 := by rw [dflat_len, hL]
  have hr : List.replicate ((8 - k) * 2) nils = nils :: nils :: List.replicate ((8 - (k + 1)) * 2) nils := by
    rw [show (8 - k) * 2 = (8 - (k + 1)) * 2 + 1 + 1 by omega, List.replicate_succ, List.replicate_succ]
  have hf : dflat (L ++ [c]) = dflat L ++ [c.av, nils] := by
    unfold dflat
    rw [List.flatMap_append, ← hc]
    rfl
  unfold splice
  rw [hf, hr, List.take_append_of_le_length (by omega), List.take_of_length_le (by omega), show [c.av].length = 1 from rfl, List.drop_append, List.drop_of_length_le (by omega), hd, show k * 2 + 1 - k * 2 = 1 by omega]
  simp
set_option maxHeartbeats 2000000 in
theorem dnew_spec (hw : Wf m) {Q : AV → M → Prop} (hQ0 : ∀ m' d cb L, DevAt m' d cb L false false 0 0 → L.length = 8 → Fresh L → (∀ b, dOwn d cb L b → m.next ≤ b) → Keep m m' (fun _ => False) → Q (.tuple [.ptr d 0, iv 0]) m') : WpF Try.prog tb fn_device_New [iv 64, iv 8] m Q := by
  refine WpF_intro at_device_New rfl rfl ?_
  unfold c_device_New
  refine C_sr fun Q' hQ => ?_
  simp only [r_device_New_0, WpO_op, WpO_nil, WpON_some, o_mv, ev_cst, putD_some, fill_cons, fill_nil, Nat.reduceAdd, Nat.zero_add]
  refine hQ _ _ (WpC_seq (WpC_block (C_sr fun Q' hQ => ?_)))
  simp only [r_device_New_1, o_and, n_and, n_sub, show ((64 : Int) < 64) = False from eq_false (by omega), show ((4096 : Int) < 64) = False from eq_false (by omega), show ((8 : Int) < 1) = False from eq_false (by omega), show ((4096 : Int) < 8) = False from eq_false (by omega), WpO_op, WpO_opG, WpO_nil, WpON_some, WpOG_true, o_mv, o_pick, o_sub, o_lt, o_gt, o_ne, v_elB, v_rto, b_lt, b_gt, b_ne, ev_tm, ev_cst, putD_some, want_b, bc_false, reduceIte, Nat.reduceEqDiff, decide_true, decide_false, Bool.not_true, Bool.not_false]
  refine hQ _ _ (WpC_cond (t := false) ?_ (C_sr fun Q' hQ => ?_))
  · simp only [ev_tm, reduceIte, Nat.reduceEqDiff]
  simp only [r_device_New_3, n_mul, show ((1048576 : Int) < 512) = False from eq_false (by omega), WpO_op, WpO_nil, WpON_some, o_mv, o_mul, o_gt, v_rto, b_gt, ev_tm, ev_cst, putD_some, reduceIte, Nat.reduceEqDiff, decide_false]
  refine hQ _ _ (WpC_cond (t := false) ?_ (WpC_skip ?_))
  · simp only [ev_tm, reduceIte, Nat.reduceEqDiff]
  clear hQ
  refine C_sr fun Q' hQ => ?_
  have hb1 : At (m.addZ ty_device_cell (8 * 2) [nils, nils]) m.next ty_device_cell true (List.replicate 16 nils) := At.addZr (m := m) (e := ty_device_cell) (k := 8 * 2) (z := [nils, nils]) 8 rfl
  have hk1 : Keep m (m.addZ ty_device_cell (8 * 2) [nils, nils]) fun _ => False := Keep.addZ hw
  have hn1 : (m.addZ ty_device_cell (8 * 2) [nils, nils]).next = m.next + 1 := M.next_addZ ..
  simp only [r_device_New_5, mkc, cells_sl, WpO_op, o_mksl, WpO_nil, WpON_some, o_mv, o_box, o_build, v_ob, cells_iv, cells_agg, pv_nil, pv_cons, fillA_nil, fillA_cons, ev_tm, putD_some, bc_true, nbeq, nble, reduceIte, Nat.reduceEqDiff, Nat.reduceAdd, Nat.reduceMul, Nat.reduceLeDiff, List.length_cons, List.length_nil, Nat.zero_add, decide_true, Bool.true_and, Bool.and_true, List.take_succ_cons, List.take_zero, List.drop_succ_cons, List.drop_zero, List.nil_append, List.cons_append]
  generalize m.addZ ty_device_cell (8 * 2) [nils, nils] = m1 at hb1 hk1 hn1 ⊢
  have hw1 := hk1.wf
  have hd2 : At (m1.addL ty_device_Device 6 [iv 64, .slice m.next 0 8 8 false, .b false, iv 0, .b false, iv 0]) m1.next ty_device_Device true [iv 64, .slice m.next 0 8 8 false, .b false, iv 0, .b false, iv 0] := At.addL rfl
  have hk2 : Keep m1 (m1.addL ty_device_Device 6 [iv 64, .slice m.next 0 8 8 false, .b false, iv 0, .b false, iv 0]) fun _ => False := Keep.addL hw1
  have hn2 : (m1.addL ty_device_Device 6 [iv 64, .slice m.next 0 8 8 false, .b false, iv 0, .b false, iv 0]).next = m1.next + 1 := M.next_addL ..
  generalize m1.addL ty_device_Device 6 [iv 64, .slice m.next 0 8 8 false, .b false, iv 0, .b false, iv 0] = m2 at hd2 hk2 hn2 ⊢
  have hw2 := hk2.wf
  have hb2 := hb1.keep hw1 hk2 fun h => h
  refine hQ _ _ (WpC_seq (C_sr fun Q' hQ => ?_))
  simp only [r_device_New_6, hd2.rd, WpO_op, WpO_nil, WpON_some, o_mv, o_load, o_nil, o_fa, o_len, v_elPtr, v_ob, v_rto, v_nil, v_fa, len_sl, ev_tm, ev_cst, putD_some, reduceIte, Nat.reduceEqDiff, Nat.zero_add, List.getElem?_cons_succ, List.getElem?_cons_zero]
  refine hQ _ _ (WpC_block (WpC_loop (fun j fr mk => ∃ k L, k ≤ 8 ∧ j = 8 - k ∧ ev (tm 0) fr = iv 64 ∧ ev (tm 6) fr = .ptr m1.next 0 ∧ ev (tm 44) fr = iv ((8 : Nat) : Int) ∧ ev (tm 45) fr = iv (k : Nat) ∧ L.length = k ∧ Fresh L ∧ (∀ c ∈ L, c.wv = nils ∧ c.wb = none ∧ m2.next ≤ c.ab ∧ BsAt mk c.av c.al c.ab) ∧ Keep m2 mk (fun b => b = m.next) ∧ At mk m.next ty_device_cell true (dflat L ++ List.replicate ((8 - k) * 2) nils)) (k := 8) ?_ ?_))
  · refine ⟨0, [], by omega, rfl, ?_, ?_, ?_, ?_, rfl, (fun _ h => by cases h), (fun _ h => by cases h), Keep.refl hw2 _, hb2⟩
    all_goals simp only [ev_tm, reduceIte, Nat.reduceEqDiff]
    rfl
  clear hQ
  rintro j fr mk ⟨k, L, hk, rfl, e0, e6, e44, e45, hL, hF, hX, hkk, hbk⟩
  have hwk := hkk.wf
  have hnk := hkk.next
  have hdk := hd2.keep hw2 hkk (by omega)
  refine C_sr fun Q' hQ => ?_
  by_cases hlt : k < 8
  · simp only [r_device_New_7, e44, e45, show ((k : Int) < ((8 : Nat) : Int)) = True from eq_true (by omega), WpO_op, WpO_nil, WpON_some, o_lt, v_rto, b_lt, putD_some, decide_true]
    refine hQ _ _ (WpC_seq (WpC_cond (t := true) ?_ (WpC_skip ?_)))
    · simp only [ev_tm, reduceIte]
    clear hQ
    refine WpC_seq (WpC_block (C_sr fun Q' hQ => ?_))
    simp only [r_device_New_8, e45, WpO_op, WpO_nil, WpON_some, o_mv, ev_tm, putD_some, reduceIte, Nat.reduceEqDiff]
    refine hQ _ _ (C_drawn fun Q' hQ => ?_)
    have hb3 : At (mk.addZ ty_uint8 (64 * 1) [.y 0]) mk.next ty_uint8 true (List.replicate 64 (.y 0)) := by
      have := At.addZr (m := mk) (e := ty_uint8) (k := 64 * 1) (z := [.y 0]) 64 rfl
      rwa [rep_flat] at this
    have hk3 : Keep mk (mk.addZ ty_uint8 (64 * 1) [.y 0]) fun _ => False := Keep.addZ hwk
    have hn3 : (mk.addZ ty_uint8 (64 * 1) [.y 0]).next = mk.next + 1 := M.next_addZ ..
    have hd3 := hdk.keep hwk hk3 fun h => h
    have hr3 := hbk.keep hwk hk3 fun h => h
    simp only [r_device_New_9, e0, e6, hdk.rd, mk64, o_mksl, WpT_op, WpTN_some, o_mv, o_load, o_nil, o_fa, o_iaS, v_elPtr, v_rto, v_nil, v_fa, ev_tm, putD_some, reduceIte, Nat.reduceEqDiff, Nat.reduceMul, Nat.zero_add, List.nil_append, List.cons_append, List.getElem?_cons_succ, List.getElem?_cons_zero]
    generalize mk.addZ ty_uint8 (64 * 1) [.y 0] = m3 at hb3 hk3 hn3 hd3 hr3 ⊢
    have hw3 := hk3.wf
    have hlen : (dflat L ++ List.replicate ((8 - k) * 2) nils).length = 16 := by rw [List.length_append, dflat_len, List.length_replicate]; omega
    have hwr : m3.wr m.next (k * 2 + 0) [.slice mk.next 0 64 64 false] = some (m3.upd m.next (k * 2) [.slice mk.next 0 64 64 false]) := hr3.wr (i := k * 2) (vs := [.slice mk.next 0 64 64 false]) (by rw [hlen]; show k * 2 + 1 ≤ 16; omega)
    have hup := hr3.upd (i := k * 2) (vs := [.slice mk.next 0 64 64 false]) (by rw [hlen]; show k * 2 + 1 ≤ 16; omega)
    have hk4 : Keep m3 (m3.upd m.next (k * 2) [.slice mk.next 0 64 64 false]) fun b => b = m.next := Keep.upd hw3 fun _ => rfl
    rw [splice_cells (c := ⟨.slice mk.next 0 64 64 false, Z64, mk.next, nils, [], none⟩) hL hlt rfl] at hup
    simp only [v_iaS 2 m.next 0 8 8 false hlt, cells_sl, hwr, WpT_op, WpT_nil, WpTN_some, o_store, o_fa, v_elPtr, v_ob, v_fa, ev_tm, putD_none, putD_some, bc_true, nbeq, reduceIte, Nat.reduceEqDiff, List.length_cons, List.length_nil, Nat.zero_add, decide_true, List.nil_append, List.cons_append]
    generalize m3.upd m.next (k * 2) [.slice mk.next 0 64 64 false] = m4 at hup hk4 hwr ⊢
    have hbs : BsAt m4 (.slice mk.next 0 64 64 false) Z64 mk.next := by
      have : BsAt m3 (.slice mk.next 0 64 64 false) Z64 mk.next := by
        refine .row (l := Z64) hb3.r (by simp [Z64]) ?_
        unfold Z64
        rw [ycells_rep]
        simp
      exact this.keep hw3 hk4 (by omega)
    have hC : (k : Int) + 1 = ((k + 1 : Nat) : Int) := by omega
    refine hQ _ ⟨?_, _, rfl, ?_⟩
    · simp only [List.all_cons, List.all_nil, again0, want_none, r_device_New_9, hdk.rd, hd3.rd, show ∀ (b n c : Nat) (q : Bool), aveq 40 (.slice b 0 n c q) (.slice b 0 n c q) = true from fun b n c q => by simp [aveq, Nat.beq_refl], o_load, v_elPtr, v_ob, v_rto, ev_tm, bc_true, reduceIte, Nat.reduceEqDiff, Bool.and_self, List.getElem?_cons_succ, List.getElem?_cons_zero]
    refine C_reg fun Q' hQ => ?_
    simp only [r_device_New_10, e45, b_add ty_int (show -9223372036854775808 ≤ (k : Int) + 1 by omega) (show (k : Int) + 1 ≤ 9223372036854775807 by omega), hC, WpO_op, WpO_nil, WpON_some, o_mv, o_add, v_rto, ev_tm, ev_cst, putD_some, reduceIte, Nat.reduceEqDiff]
    refine hQ _ _ ⟨8 - (k + 1), by omega, k + 1, L ++ [⟨.slice mk.next 0 64 64 false, Z64, mk.next, nils, [], none⟩], by omega, rfl, ?_, ?_, ?_, ?_, by simp [hL], ?_, ?_, (hkk.trans hk3 fun _ _ h => h.elim).trans hk4 fun _ _ h => h, hup⟩
    · simp only [e0, ev_tm, reduceIte, Nat.reduceEqDiff]
    · simp only [e6, ev_tm, reduceIte, Nat.reduceEqDiff]
    · simp only [e44, ev_tm, reduceIte, Nat.reduceEqDiff]
    · simp only [e45, ev_tm, reduceIte, Nat.reduceEqDiff]
    · intro c hc
      rcases List.mem_append.1 hc with hc | hc
      · exact hF c hc
      · cases List.mem_singleton.1 hc
        exact ⟨rfl, rfl⟩
    · intro c hc
      rcases List.mem_append.1 hc with hc | hc
      · obtain ⟨x1, x2, x3, x4⟩ := hX c hc
        exact ⟨x1, x2, x3, (x4.keep hwk hk3 fun h => h).keep hw3 hk4 (by omega)⟩
      · cases List.mem_singleton.1 hc
        exact ⟨rfl, rfl, by show m2.next ≤ mk.next; omega, hbs⟩
  · have hk8 : k = 8 := by omega
    subst hk8
    simp only [r_device_New_7, e44, e45, show (((8 : Nat) : Int) < ((8 : Nat) : Int)) = False from eq_false (by omega), WpO_op, WpO_nil, WpON_some, o_lt, v_rto, b_lt, putD_some, decide_false]
    refine hQ _ _ (WpC_seq (WpC_cond (t := false) ?_ (WpC_exit ?_)))
    · simp only [ev_tm, reduceIte]
    clear hQ
    refine C_sr fun Q' hQ => ?_
    simp only [r_device_New_11, e6, WpO_op, WpO_nil, WpON_some, o_mv, ev_tm, ev_cst, putD_some, reduceIte, Nat.reduceEqDiff]
    refine hQ _ _ (WpC_ret ⟨.inr rfl, _, ares2, ?_⟩)
    simp only [ev_tm, one_2, reduceIte, Nat.reduceEqDiff]
    refine hQ0 mk m1.next m.next L ⟨?_, ?_, fun c hc => ?_⟩ hL hF (fun b hb => ?_) ((hk1.trans hk2 fun _ _ h => h).trans hkk fun b hb e => by omega)
    · rw [hL]; exact hdk
    · simpa using hbk
    · obtain ⟨x1, x2, x3, x4⟩ := hX c hc
      refine ⟨x4, ?_, fun e he => ?_⟩
      · rw [x1, x2, (hF c hc).2]; exact .nil
      · rw [(hF c hc).2] at he; cases he
    · rcases hb with rfl | rfl | ⟨c, hc, hb | rfl | ⟨e, he, rfl⟩⟩
      · omega
      · exact Nat.le_refl _
      · rw [(hX c hc).2.1] at hb; cases hb
      · have := (hX c hc).2.2.1; omega
      · rw [(hF c hc).2] at he; cases he
theorem cnew_spec {d cap : Nat} {x : AV} {zs : List Int} {o : Option Nat} (hw : Wf m) (h1 : 1 ≤ cap) (h2 : cap ≤ 512) (h : RsAt m x (zs.map iv) o) (hl : zs.length * 8 ≤ 140737488355328) {Q : AV → M → Prop}
    (hQ0 : ∀ m' c mb pv po, CaAt m' c d cap mb pv zs po [] → m.next ≤ c → m.next ≤ mb → (∀ b, po = some b → m.next ≤ b) → Keep m m' (fun _ => False) → Q (.tuple [.ptr c 0, iv 0]) m') : WpF Try.prog tb fn_cache_New [.ptr d 0, iv cap, x] m Q := by
  refine WpF_intro at_cache_New rfl rfl ?_
  unfold c_cache_New
  refine C_sr fun Q' hQ => ?_
  simp only [r_cache_New_0, WpO_op, WpO_nil, WpON_some, o_mv, ev_cst, putD_some, fill_cons, fill_nil, Nat.reduceAdd, Nat.zero_add]
  refine hQ _ _ (WpC_seq (C_sr fun Q' hQ => ?_))
  simp only [r_cache_New_1, b_np24, show ((cap : Int) < 1) = False from eq_false (by omega), show ((512 : Int) < (cap : Int)) = False from eq_false (by omega), WpO_op, WpO_opG, WpO_nil, WpON_some, WpOG_true, o_mv, o_pick, o_lt, o_gt, o_eqp, v_elB, v_rto, v_eqp_n, b_lt, b_gt, ev_tm, ev_cst, putD_some, want_b, bc_false, reduceIte, Nat.reduceEqDiff, decide_false, Bool.not_false]
  refine hQ _ _ (WpC_cond (t := false) ?_ (WpC_skip (C_sr fun Q' hQ => ?_)))
  · simp only [ev_tm, reduceIte, Nat.reduceEqDiff]
  simp only [r_cache_New_3, WpO_op, WpO_call, WpON_some, o_mv, ev_tm, evs_cons, evs_nil, putD_some, reduceIte, Nat.reduceEqDiff]
  refine WpOC.to (cloneI_spec hw h hl fun m1 y o' hy hyn hk1 => ?_)
  have hw1 := hk1.wf
  have hn1 := hk1.next
  obtain ⟨hm2, hk2⟩ := MpAt.new0 hw1
  have hn2 : (m1.new (.obj (.map [] (some ([], 0))))).next = m1.next + 1 := M.next_new _ _
  simp only [hy.cells1, WpO_op, cells_map, o_mkmap, WpO_nil, WpON_some, o_mv, o_box, o_build, v_ob, cells_iv, cells_agg, cells_ptr, pv_nil, pv_cons, fillA_nil, fillA_cons, ev_tm, ev_cst, putD_some, bc_true, nbeq, nble, reduceIte, Nat.reduceEqDiff, Nat.reduceAdd, Nat.reduceLeDiff, List.length_cons, List.length_nil, Nat.zero_add, decide_true, Bool.true_and, Bool.and_true, List.take_succ_cons, List.take_zero, List.drop_succ_cons, List.drop_zero, List.drop_nil, List.nil_append, List.cons_append, List.append_nil]
  generalize m1.new (.obj (.map [] (some ([], 0)))) = m2 at hm2 hk2 hn2 ⊢
  have hw2 := hk2.wf
  have hc3 : At (m2.addL ty_cache_Cache 4 [.ptr d 0, iv cap, y, .map m1.next]) m2.next ty_cache_Cache true [.ptr d 0, iv cap, y, .map m1.next] := At.addL rfl
  have hk3 : Keep m2 (m2.addL ty_cache_Cache 4 [.ptr d 0, iv cap, y, .map m1.next]) fun _ => False := Keep.addL hw2
  refine hQ _ _ (WpC_ret ⟨.inr rfl, _, ares2, ?_⟩)
  simp only [ev_tm, one_2, reduceIte, Nat.reduceEqDiff]
  have hk13 : Keep m1 (m2.addL ty_cache_Cache 4 [.ptr d 0, iv cap, y, .map m1.next]) fun _ => False := hk2.trans hk3 fun _ _ h => h
  refine hQ0 _ m2.next m1.next y o' ⟨hc3, hm2.keep hw2 hk3 fun h => h, (fun _ h => by cases h), (fun _ h => by cases h), hy.keep hw1 hk13 (fun _ _ h => h), by simp, by simp, (fun _ h => by cases h), (fun _ h => by cases h), fun b hb => ⟨?_, fun _ h => by cases h⟩⟩ (by omega) hn1 hyn (hk1.trans hk13 fun _ _ h => h)
  have := hy.lt hw1 hb
  omega
end
end Go.Proofs.Ytmkbjcjlnidjiaa
