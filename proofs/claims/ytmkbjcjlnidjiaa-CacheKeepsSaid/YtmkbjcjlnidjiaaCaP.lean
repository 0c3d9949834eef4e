import Derived.Test.YtmkbjcjlnidjiaaCaO
set_option linter.unusedVariables false
set_option linter.unusedVariables false
/- slices.Sorted of slices.Values. -/
namespace Go.Proofs.Ytmkbjcjlnidjiaa
open Go Go.Am
/-- A slice of numbers, to be read. -/
structure Vs (m : M) (x : AV) (zs : List Int) : Prop where
  len : lenK false x = some zs.length
  el : ∀ (k : Nat) (z : Int), zs[k]? = some z → ∃ b off cap lim, x = .slice b off zs.length cap lim ∧ m.rd b (off + k * 1) = some (iv z)
theorem vs_rs {m : M} {x : AV} {zs : List Int} {o : Option Nat} (h : RsAt m x (zs.map iv) o) : Vs m x zs := by
  refine ⟨by rw [h.len, List.length_map], fun k z hz => ?_⟩
  obtain ⟨b, cap, lim, hx, _, hr⟩ := h.elem (k := k) (v := iv z) (by rw [List.getElem?_map, hz]; rfl)
  rw [List.length_map] at hx
  exact ⟨b, 0, cap, lim, hx, by rw [Nat.zero_add, Nat.mul_one]; exact hr⟩
theorem vs_at {m : M} {b len : Nat} {e : TypeId} {xt : Bool} {cells : List AV} {zs : List Int} {cap : Nat} {lim : Bool} (h : At m b e xt cells) (hl : len = zs.length) (hc : cells.take zs.length = zs.map iv) : Vs m (.slice b 0 len cap lim) zs := by
  subst hl
  refine ⟨rfl, fun k z hz => ⟨b, 0, cap, lim, rfl, ?_⟩⟩
  have hk := (List.getElem?_eq_some_iff.1 hz).1
  rw [Nat.zero_add, Nat.mul_one, h.rd]
  have : (cells.take zs.length)[k]? = some (iv z) := by rw [hc, List.getElem?_map, hz]; rfl
  rwa [List.getElem?_take_of_lt hk] at this
theorem cells_nilsL : cellsO nils = some [nils] := rfl
theorem vs_nil {m : M} : Vs m nils [] := ⟨rfl, fun k z h => by cases h⟩
set_option maxHeartbeats 1000000 in
theorem values1_spec {m : M} {l B : Nat} {x : AV} {zs : List Int} (hzl : zs.length ≤ 1000000000000000) (I : Nat → M → Prop) (hI : ∀ k mk, I k mk → At mk B ty_sint true [x] ∧ Vs mk x zs) (hY : ∀ k mk z, zs[k]? = some z → I k mk → WpY Try.prog tb l [iv z] mk fun v m' => v = .b true ∧ I (k + 1) m') (h0 : I 0 m) :
    WpF Try.prog tb fn_Values_1 [.yield l, .ptr B 0] m fun _ m' => I zs.length m' := by
  refine WpF_intro at_Values_1 rfl rfl ?_
  unfold c_Values_1
  obtain ⟨hB, hV⟩ := hI 0 m h0
  refine C_sr fun Q' hQ => ?_
  simp only [r_Values_1_0, hB.rd, hV.len, WpO_op, WpO_nil, WpON_some, o_mv, o_load, o_len, v_elPtr, v_ob, v_rto, ev_tm, ev_cst, putD_some, fill_cons, fill_nil, reduceIte, Nat.reduceEqDiff, Nat.reduceAdd, Nat.zero_add, List.getElem?_cons_zero]
  refine hQ _ _ (WpC_block (WpC_loop (fun j fr mk => ∃ k, k ≤ zs.length ∧ j = zs.length - k ∧ ev (tm 0) fr = .yield l ∧ ev (tm 5) fr = x ∧ ev (tm 6) fr = iv (zs.length : Nat) ∧ ev (tm 7) fr = iv (k : Nat) ∧ I k mk) (k := zs.length) ?_ ?_))
  · refine ⟨0, Nat.zero_le _, rfl, ?_, ?_, ?_, ?_, h0⟩
    all_goals simp only [ev_tm, reduceIte, Nat.reduceEqDiff]
    rfl
  clear hQ
  rintro j fr mk ⟨k, hk, rfl, e0, e5, e6, e7, hIk⟩
  obtain ⟨hBk, hVk⟩ := hI k mk hIk
  refine C_sr fun Q' hQ => ?_
  by_cases hlt : k < zs.length
  · have hz : zs[k]? = some zs[k] := List.getElem?_eq_getElem hlt
    generalize zs[k] = z at hz
    obtain ⟨b, off, cap, lim, hx, hr⟩ := hVk.el k z hz
    simp only [r_Values_1_1, e6, e7, show ((k : Int) < ((zs.length : Nat) : Int)) = True from eq_true (by omega), WpO_op, WpO_nil, WpON_some, o_lt, v_rto, b_lt, putD_some, decide_true]
    refine hQ _ _ (WpC_seq (WpC_cond (t := true) ?_ (WpC_skip ?_)))
    · simp only [ev_tm, reduceIte]
    clear hQ
    refine WpC_seq (WpC_block (C_sr fun Q' hQ => ?_))
    simp only [r_Values_1_2, e5, e7, hx, v_iaS 1 b off zs.length cap lim hlt, hr, WpO_op, WpO_nil, WpON_some, o_mv, o_load, o_iaS, v_elPtr, v_rto, ev_tm, putD_some, reduceIte, Nat.reduceEqDiff]
    refine hQ _ _ (C_sr fun Q' hQ => ?_)
    simp only [r_Values_1_3, WpO_op, o_mv, WpON_some, putD_some]
    refine WpO_yv (l := l) (by simp only [e0, ev_tm, reduceIte, Nat.reduceEqDiff]) ?_
    simp only [e0, WpO_op, o_un, ev_tm, evs_cons, evs_nil, putD_some, reduceIte, Nat.reduceEqDiff]
    obtain ⟨N, v, m1, y1, rfl, hI1⟩ := hY k mk z hz hIk
    refine ⟨N, _, m1, y1, ?_⟩
    simp only [WpO_nil, WpON_some, v_rto, v_not, putD_some, Bool.not_true]
    refine hQ _ _ (WpC_cond (t := false) ?_ (WpC_skip ?_))
    · simp only [ev_tm, reduceIte, Nat.reduceEqDiff]
    clear hQ
    have hC : (k : Int) + 1 = ((k + 1 : Nat) : Int) := by omega
    refine C_reg fun Q' hQ => ?_
    simp only [r_Values_1_4, e7, b_add ty_int (show -9223372036854775808 ≤ (k : Int) + 1 by omega) (show (k : Int) + 1 ≤ 9223372036854775807 by omega), hC, WpO_op, WpO_nil, WpON_some, o_mv, o_add, v_rto, ev_tm, ev_cst, putD_some, reduceIte, Nat.reduceEqDiff]
    refine hQ _ _ ⟨zs.length - (k + 1), by omega, k + 1, by omega, rfl, ?_, ?_, ?_, ?_, hI1⟩
    · simp only [e0, ev_tm, reduceIte, Nat.reduceEqDiff]
    · simp only [e5, hx, ev_tm, reduceIte, Nat.reduceEqDiff]
    · simp only [e6, ev_tm, reduceIte, Nat.reduceEqDiff]
    · simp only [e7, ev_tm, reduceIte, Nat.reduceEqDiff]
  · have hke : k = zs.length := by omega
    subst hke
    simp only [r_Values_1_1, e6, e7, show (((zs.length : Nat) : Int) < ((zs.length : Nat) : Int)) = False from eq_false (by omega), WpO_op, WpO_nil, WpON_some, o_lt, v_rto, b_lt, putD_some, decide_false]
    refine hQ _ _ (WpC_seq (WpC_cond (t := false) ?_ (WpC_exit ?_)))
    · simp only [ev_tm, reduceIte]
    exact ⟨.inl rfl, _, ares0, hIk⟩
theorem ap_code : ∃ (i0 i1 i4 id i2 bi i3 : Nat) (o0 o1 o4 o2 o3 : Array Oper) (f : Operand) (ps : Array Tmp),
    Try.f54.body = some (.seq (.region i0 o0 false) (.seq (.seq (.region i1 o1 false) (.block id (.rangeFunc f ps (.region i2 o2 false) (.block bi (.region i3 o3 false))))) (.seq (.region i4 o4 false) .ret))) ∧
    slotsB Try.f54.ntmps (.seq (.region i0 o0 false) (.seq (.seq (.region i1 o1 false) (.block id (.rangeFunc f ps (.region i2 o2 false) (.block bi (.region i3 o3 false))))) (.seq (.region i4 o4 false) .ret))) = true ∧
    cOpers Try.prog o0.toList o0.toList = r_AppSeq_0 ∧ cOpers Try.prog o1.toList o1.toList = r_AppSeq_1 ∧ cOpers Try.prog o4.toList o4.toList = r_AppSeq_4 ∧ cOpers Try.prog o2.toList o2.toList = r_AppSeq_2 ∧ cOpers Try.prog o3.toList o3.toList = r_AppSeq_3 ∧
    cO f = tm 6 ∧ ps.toList = [7] :=
  ⟨_, _, _, _, _, _, _, _, _, _, _, _, _, _, rfl, by kernel_rfl, by kernel_rfl, by kernel_rfl, by kernel_rfl, by kernel_rfl, by kernel_rfl, by kernel_rfl, by kernel_rfl⟩
set_option maxHeartbeats 1000000 in
theorem append_spec {m : M} {B : Nat} {x : AV} {zs : List Int} (hw : Wf m) (hB : At m B ty_sint true [x]) (hx : ∀ m', Keep m m' (fun _ => False) → Vs m' x zs) (hl : zs.length * 8 ≤ 140737488355328) {Q : AV → M → Prop}
    (hQ : ∀ v m' o, SlAt m' ty_int 1 v zs.length (zs.map iv) o → Keep m m' (fun _ => False) → (∀ b, o = some b → m.next ≤ b) → Q v m') : WpF Try.prog tb fn_AppSeq [nils, .func fn_Values_1 [.ptr B 0]] m Q := by
  obtain ⟨i0, i1, i4, id, i2, bi, i3, o0, o1, o4, o2, o3, f, ps, hbd, hsl, c0, c1, c4, c2, c3, hcf, hps⟩ := ap_code
  have hpl : ps.toList = [7] := hps
  refine WpF_range (tab_get Try.func54) rfl hbd hsl rfl rfl ?_
  rw [c0, c1, c4, hcf, hps]
  have hk1 : Keep m (m.addL ty_sint 1 [nils]) fun _ => False := Keep.addL hw
  have hb1 : At (m.addL ty_sint 1 [nils]) m.next ty_sint true [nils] := At.addL rfl
  have hn1 : (m.addL ty_sint 1 [nils]).next = m.next + 1 := M.next_addL ..
  simp only [r_AppSeq_0, cells_nilsL, WpO_op, WpO_nil, WpON_some, o_mv, o_box, v_ob, ev_tm, ev_cst, putD_some, fill_cons, fill_nil, reduceIte, Nat.reduceEqDiff, Nat.reduceAdd, List.length_cons, List.length_nil, Nat.zero_add]
  generalize m.addL ty_sint 1 [nils] = m1 at hk1 hb1 hn1 ⊢
  have hw1 := hk1.wf
  simp only [r_AppSeq_1, WpO_op, WpO_nil, WpON_some, o_mv, ev_tm, putD_some, reduceIte, Nat.reduceEqDiff]
  refine ⟨_, _, rfl, ?_⟩
  generalize hfr : fset 6 (AV.func fn_Values_1 [AV.ptr B 0]) (fset 4 nils (fset 2 (AV.ptr m.next 0) (fset 1 (AV.func fn_Values_1 [AV.ptr B 0]) (fset 0 nils Tr.leaf)))) = fr1
  have e2 : ev (tm 2) fr1 = .ptr m.next 0 := by
    rw [← hfr]
    simp only [ev_tm, reduceIte, Nat.reduceEqDiff]
  clear hfr
  have hk2 : Keep m1 (m1.new (.obj (.dfr true))) fun _ => False := Keep.new hw1
  have hg2 : (m1.new (.obj (.dfr true))).get m1.next = some (.obj (.dfr true)) := by rw [M.get_new, if_pos rfl]
  have hn2 : (m1.new (.obj (.dfr true))).next = m1.next + 1 := M.next_new _ _
  generalize m1.new (.obj (.dfr true)) = m2 at hk2 hg2 hn2 ⊢
  have hw2 := hk2.wf
  generalize hL0 : (⟨0, none, fr1, [7], .region i2 o2 false, .block bi (.region i3 o3 false), m1.next⟩ : ALoop) = L0
  have hLa : L0.assign = .region i2 o2 false := by rw [← hL0]
  have hLb : L0.body = .block bi (.region i3 o3 false) := by rw [← hL0]
  have hLs : L0.st = 0 := by rw [← hL0]
  have hLn : L0.pend = none := by rw [← hL0]
  have hLp : L0.params = [7] := by rw [← hL0]
  have hLf : L0.fr = fr1 := by rw [← hL0]
  have hLe : ({ ({ L0 with st := 1 } : ALoop) with st := 0, pend := none } : ALoop) = L0 := by rw [← hL0]
  clear hL0
  have hk3 : Keep m2 (m2.new (.obj (.loop L0))) fun _ => False := Keep.new hw2
  have hg3 : (m2.new (.obj (.loop L0))).get m2.next = some (.obj (.loop L0)) := by rw [M.get_new, if_pos rfl]
  have hn3 : (m2.new (.obj (.loop L0))).next = m2.next + 1 := M.next_new _ _
  generalize m2.new (.obj (.loop L0)) = m3 at hk3 hg3 hn3 ⊢
  have hw3 := hk3.wf
  have hd3 : m3.get m1.next = some (.obj (.dfr true)) := (hk3.get _ (by omega) fun h => h).trans hg2
  have hkm3 : Keep m m3 fun _ => False := (hk1.trans hk2 fun _ _ h => h).trans hk3 fun _ _ h => h
  have hI := values1_spec (m := m3) (l := m2.next) (B := B) (x := x) (zs := zs) (by omega)
    (fun k mk => Keep m mk (fun _ => False) ∧ (∃ sv o, At mk m.next ty_sint true [sv] ∧ SlAt mk ty_int 1 sv k ((zs.take k).map iv) o ∧ ∀ b, o = some b → m2.next < b) ∧ mk.get m1.next = some (.obj (.dfr true)) ∧ mk.get m2.next = some (.obj (.loop L0)) ∧ m2.next < mk.next)
    (fun k mk h => ⟨hB.keep hw h.1 fun h => h, hx mk h.1⟩)
    (fun k mk z hz hIk => ?_)
    ⟨hkm3, ⟨nils, none, (hb1.keep hw1 hk2 fun h => h).keep hw2 hk3 (fun h => h), .nil, fun _ h => by cases h⟩, hd3, hg3, by omega⟩
  · refine hI.mono ?_
    rintro v m4 ⟨hk4, ⟨sv, o, hb4, hs4, ho4⟩, hd4, hl4, hn4⟩
    have hw4 := hk4.wf
    rw [List.take_length] at hs4
    refine ⟨L0, loop_get hl4, hLs, hLn, ?_⟩
    have hk5 : Keep m4 (m4.put m2.next (.obj (.loop { L0 with st := 3 }))) fun b => b = m2.next := Keep.put hw4 hn4 rfl
    have hb5 := hb4.keep hw4 hk5 (by omega)
    have hs5 := hs4.keep hw4 hk5 fun b hb e => by have := ho4 b hb; omega
    have hd5 : (m4.put m2.next (.obj (.loop { L0 with st := 3 }))).get m1.next = some (.obj (.dfr true)) := (hk5.get _ (by omega) (by omega)).trans hd4
    generalize m4.put m2.next (.obj (.loop { L0 with st := 3 })) = m5 at hk5 hb5 hs5 hd5 ⊢
    have hw5 := hk5.wf
    have hn5 := hk5.next
    simp only [r_AppSeq_4, e2, hb5.rd, WpO_op, WpO_nil, WpON_some, o_mv, o_load, v_elPtr, v_rto, ev_tm, putD_some, reduceIte, List.getElem?_cons_zero]
    refine ⟨dfr_get hd5, _, ares1, ?_⟩
    have hk6 : Keep m5 (m5.put m1.next (.obj (.dfr false))) fun b => b = m1.next := Keep.put hw5 (by omega) rfl
    simp only [ev_tm, one_1, reduceIte, Nat.reduceEqDiff]
    refine hQ _ _ o (hs5.keep hw5 hk6 fun b hb e => by have := ho4 b hb; omega) ((hk4.trans hk5 fun b hb e => by omega).trans hk6 fun b hb e => by omega) fun b hb => by have := ho4 b hb; omega
  · obtain ⟨hkk, ⟨sv, o, hb, hs, ho⟩, hdf, hlp, hnx⟩ := hIk
    have hwk := hkk.wf
    have hk := (List.getElem?_eq_some_iff.1 hz).1
    refine WpY.of (loop_get hlp) (by rw [hLp]; rfl) hLa hLb ?_
    rw [c2, c3, hLp, hLf]
    show WpO Try.prog tb r_AppSeq_2 (fset 7 (iv z) fr1) mk _
    simp only [r_AppSeq_2, WpO_op, WpO_nil, WpON_some, o_mv, ev_tm, putD_some, reduceIte]
    refine ⟨L0, loop_get hlp, hLs, ?_⟩
    have hk1' : Keep mk (mk.put m2.next (.obj (.loop { L0 with st := 1 }))) fun b => b = m2.next := Keep.put hwk hnx rfl
    have hlp1 : (mk.put m2.next (.obj (.loop { L0 with st := 1 }))).get m2.next = some (.obj (.loop { L0 with st := 1 })) := by rw [M.get_put, if_pos rfl]
    have hnp : (mk.put m2.next (.obj (.loop { L0 with st := 1 }))).next = mk.next := M.next_put ..
    have hbp := hb.keep hwk hk1' (by omega)
    have hsp := hs.keep hwk hk1' fun b hb e => by have := ho b hb; omega
    have hdp := (hk1'.get _ (show m1.next < mk.next by omega) (by omega)).trans hdf
    generalize mk.put m2.next (.obj (.loop { L0 with st := 1 })) = mp at hk1' hlp1 hnp hbp hsp hdp ⊢
    have hwp := hk1'.wf
    have hkq : Keep mp (mp.addL ty_int 1 [iv z]) fun _ => False := Keep.addL hwp
    have hnq : (mp.addL ty_int 1 [iv z]).next = mp.next + 1 := M.next_addL ..
    have hsq : SlAt (mp.addL ty_int 1 [iv z]) ty_int 1 (.slice mp.next 0 1 1 false) 1 [iv z] (some mp.next) := SlAt.lit rfl rfl (by omega)
    simp only [r_AppSeq_3, e2, hbp.rd, repl_1, WpO_op, WpON_some, o_mv, o_bslice, o_load, o_app, v_elPtr, v_ob, v_rto, cells_iv, pv_nil, pv_cons, fillA_nil, fillA_cons, repl_1, ev_tm, putD_some, bc_true, nbeq, nble, reduceIte, Nat.reduceEqDiff, Nat.reduceLeDiff, List.length_cons, List.length_nil, Nat.zero_add, decide_true, Bool.and_true, List.take_zero, List.drop_succ_cons, List.drop_nil, List.nil_append, List.append_nil, List.getElem?_cons_zero]
    have hbq := hbp.keep hwp hkq fun h => h
    have hsq' := hsp.keep hwp hkq fun _ _ h => h
    have hlq := (hkq.get _ (show m2.next < mp.next by omega) fun h => h).trans hlp1
    have hdq := (hkq.get _ (show m1.next < mp.next by omega) fun h => h).trans hdp
    generalize mp.addL ty_int 1 [iv z] = mq at hkq hnq hsq hbq hsq' hlq hdq ⊢
    have hwq := hkq.wf
    obtain ⟨s', mr, o', hr, hsr, hkr, hor⟩ := hsq'.append hwq (bytes := 8) (z := [iv 0]) hsq.src (by
      have h8 : k + 1 ≤ zs.length := hk
      unfold room
      rw [nble, nble, nble, decide_eq_true (show Nat.mul (k + 1) 8 ≤ 140737488355328 from (by show (k + 1) * 8 ≤ _; omega)), decide_eq_true (show k + 1 ≤ 140737488355328 by omega), decide_eq_true (show 8 ≤ 68719476736 by omega)]
      rfl)
    have hwr := hkr.wf
    have hnr := hkr.next
    have hbr := hbq.keep hwq hkr fun e => by have := ho _ e; omega
    have hlr := (hkr.get _ (show m2.next < mq.next by omega) (fun e => by have := ho _ e; omega)).trans hlq
    have hdr := (hkr.get _ (show m1.next < mq.next by omega) (fun e => by have := ho _ e; omega)).trans hdq
    have ho' : ∀ b, o' = some b → m2.next < b := by
      intro b hb
      rcases hor with rfl | ⟨b', hb', h1, h2⟩
      · exact ho b hb
      · rw [hb'] at hb; cases hb; omega
    have hws := hbr.wr (i := 0) (vs := [s']) (by show 0 + 1 ≤ 1; omega)
    have hus : At (mr.upd m.next 0 [s']) m.next ty_sint true [s'] := hbr.upd (i := 0) (vs := [s']) (by show 0 + 1 ≤ 1; omega)
    have hks : Keep mr (mr.upd m.next 0 [s']) fun b => b = m.next := Keep.upd hwr fun _ => rfl
    have hns : (mr.upd m.next 0 [s']).next = mr.next := M.next_upd ..
    simp only [e2, hr, hsr.cells1, hws, WpO_op, WpO_nil, WpON_some, o_store, v_elPtr, v_ob, ev_tm, putD_none, putD_some, bc_true, nbeq, reduceIte, Nat.reduceEqDiff, List.length_cons, List.length_nil, Nat.zero_add, decide_true]
    have hss := hsr.keep hwr hks fun b hb e => by have := ho' b hb; omega
    have hls := (hks.get _ (show m2.next < mr.next by omega) (by omega)).trans hlr
    have hds := (hks.get _ (show m1.next < mr.next by omega) (by omega)).trans hdr
    generalize mr.upd m.next 0 [s'] = ms at hus hks hns hws hss hls hds ⊢
    have hws' := hks.wf
    refine ⟨{ L0 with st := 1 }, loop_get hls, trivial, ?_⟩
    rw [hLe]
    have hkt : Keep ms (ms.put m2.next (.obj (.loop L0))) fun b => b = m2.next := Keep.put hws' (by omega) rfl
    refine ⟨?_, ⟨s', o', hus.keep hws' hkt (by omega), ?_, ho'⟩, (hkt.get _ (by omega) (by omega)).trans hds, by rw [M.get_put, if_pos rfl], by rw [M.next_put]; omega⟩
    · exact ((((hkk.trans hk1' fun b hb e => by omega).trans hkq fun _ _ h => h).trans hkr fun b hb e => by have := ho _ e; omega).trans hks fun b hb e => by omega).trans hkt fun b hb e => by omega
    · refine (hss.keep hws' hkt fun b hb e => by have := ho' b hb; omega).cast rfl ?_
      rw [List.take_add_one, hz, List.map_append]
      rfl
theorem collect_spec {m : M} {B : Nat} {x : AV} {zs : List Int} (hw : Wf m) (hB : At m B ty_sint true [x]) (hx : ∀ m', Keep m m' (fun _ => False) → Vs m' x zs) (hl : zs.length * 8 ≤ 140737488355328) {Q : AV → M → Prop}
    (hQ0 : ∀ v m' o, SlAt m' ty_int 1 v zs.length (zs.map iv) o → Keep m m' (fun _ => False) → (∀ b, o = some b → m.next ≤ b) → Q v m') : WpF Try.prog tb fn_Collect [.func fn_Values_1 [.ptr B 0]] m Q := by
  refine WpF_intro at_Collect rfl rfl ?_
  unfold c_Collect
  refine C_sr fun Q' hQ => ?_
  simp only [r_Collect_0, WpO_op, WpO_nil, WpON_some, o_mv, ev_cst, putD_some, fill_cons, fill_nil, Nat.zero_add]
  refine hQ _ _ (C_sr fun Q' hQ => ?_)
  simp only [r_Collect_1, WpO_op, WpO_call, WpON_some, o_mv, ev_tm, ev_cst, evs_cons, evs_nil, putD_some, reduceIte, Nat.reduceEqDiff]
  refine WpOC.to (append_spec hw hB hx hl fun v m' o hs hk ho => ?_)
  simp only [WpO_op, WpO_nil, WpON_some, o_mv, ev_tm, putD_some, reduceIte, Nat.reduceEqDiff]
  refine hQ _ _ (WpC_ret ⟨.inr rfl, _, ares1, ?_⟩)
  simp only [ev_tm, one_1, reduceIte, Nat.reduceEqDiff]
  exact hQ0 v m' o hs hk ho
/-- slices.Sorted of a slice's values: a new slice, in order. -/
theorem sorted_spec {m : M} {B : Nat} {x : AV} {zs : List Int} (hw : Wf m) (hB : At m B ty_sint true [x]) (hx : ∀ m', Keep m m' (fun _ => False) → Vs m' x zs) (hl : zs.length * 8 ≤ 140737488355328) {Q : AV → M → Prop}
    (hQ0 : ∀ v m' o, SlAt m' ty_int 1 v zs.length ((isort zs).map iv) o → Keep m m' (fun _ => False) → (∀ b, o = some b → m.next ≤ b) → Q v m') : WpF Try.prog tb fn_Sorted [.func fn_Values_1 [.ptr B 0]] m Q := by
  refine WpF_intro at_Sorted rfl rfl ?_
  unfold c_Sorted
  refine C_sr fun Q' hQ => ?_
  simp only [r_Sorted_0, WpO_op, WpO_nil, WpON_some, o_mv, ev_cst, putD_some, fill_cons, fill_nil, Nat.zero_add]
  refine hQ _ _ (C_sr fun Q' hQ => ?_)
  simp only [r_Sorted_1, WpO_op, WpO_call, WpON_some, o_mv, ev_tm, evs_cons, evs_nil, putD_some, reduceIte, Nat.reduceEqDiff]
  refine WpOC.to (collect_spec hw hB hx hl fun v m1 o hs hk ho => ?_)
  simp only [WpO_op, WpO_nil, WpON_some, o_mv, ev_tm, putD_some, reduceIte, Nat.reduceEqDiff]
  refine hQ _ _ (C_sr fun Q' hQ => ?_)
  have hw1 := hk.wf
  have hil : (isort zs).length = zs.length := len_isort zs
  -- the sort
  obtain ⟨m2, hit, hs2, hk2⟩ : ∃ m2, tb.it 47 [v] m1 = some (some (.tuple [], m2)) ∧ SlAt m2 ty_int 1 v zs.length ((isort zs).map iv) o ∧ Keep m1 m2 (fun b => o = some b) := by
    generalize hcl : zs.map iv = cells at hs
    generalize hln : zs.length = len at hs
    cases hs with
    | nil =>
      have : zs = [] := List.length_eq_zero_iff.1 hln
      subst this
      exact ⟨m1, rfl, .nil, Keep.refl hw1 _⟩
    | @row b _ cap _ junk xt hA hcl' hj hc h0 =>
      by_cases hz : len = 0
      · have : zs = [] := List.length_eq_zero_iff.1 (by omega)
        subst this
        subst hz
        rw [← hcl] at hA
        exact ⟨m1, rfl, .row (cells := []) hA rfl hj hc h0, Keep.refl hw1 _⟩
      · have hlw : 0 + ((isort zs).map iv).length ≤ (cells ++ junk).length := by rw [List.length_map, hil, List.length_append]; omega
        refine ⟨m1.upd b 0 ((isort zs).map iv), ?_, ?_, Keep.upd hw1 fun _ => rfl⟩
        · show bc (Nat.beq len 0) _ (some (ob (m1.rdN b 0 len) fun l => ob (keysL l) fun ks => bc (Nat.ble len 4611686018427387903) (ob (m1.wr b 0 ((isort ks).map fun i => ofI .i64 i)) fun m' => some (AV.tuple [], m')) none)) = _
          rw [nbeq, decide_eq_false hz, bc_false, hA.rdN (by rw [List.length_append]; omega), v_ob, List.drop_zero, List.take_append_of_le_length (by omega), List.take_of_length_le (by omega), ← hcl, keysL_iv, v_ob, nble, decide_eq_true (by omega), bc_true]
          rw [show (isort zs).map (fun i => ofI .i64 i) = (isort zs).map iv from rfl, hA.wr hlw]
          rfl
        · have hu := hA.upd hlw
          have hsp : splice (cells ++ junk) 0 ((isort zs).map iv) = (isort zs).map iv ++ junk := by
            unfold splice
            rw [List.take_zero, List.nil_append, Nat.zero_add, List.length_map, hil, hln, List.drop_append_of_le_length (by omega), List.drop_of_length_le (by omega), List.nil_append]
          rw [hsp] at hu
          exact .row hu (by rw [List.length_map, hil, hln, Nat.mul_one]) hj hc h0
  simp only [r_Sorted_2, WpO_op, WpO_call, WpON_some, o_mv, ev_tm, evs_cons, evs_nil, putD_some, reduceIte, Nat.reduceEqDiff]
  refine WpOC.to (WpF_known (tab_get Try.func47) hit ?_)
  simp only [WpO_nil, putD_some]
  refine hQ _ _ (C_sr fun Q' hQ => ?_)
  simp only [r_Sorted_3, WpO_op, WpO_nil, WpON_some, o_mv, ev_tm, putD_some, reduceIte, Nat.reduceEqDiff]
  refine hQ _ _ (WpC_ret ⟨.inr rfl, _, ares1, ?_⟩)
  simp only [ev_tm, one_1, reduceIte, Nat.reduceEqDiff]
  exact hQ0 v m2 o hs2 (hk.trans hk2 fun b hb e => by have := ho b e; omega) ho
theorem values_spec {m : M} {x : AV} (hw : Wf m) (hx1 : cellsO x = some [x]) {Q : AV → M → Prop} (hQ0 : ∀ m' B, At m' B ty_sint true [x] → Keep m m' (fun _ => False) → m.next ≤ B → Q (.func fn_Values_1 [.ptr B 0]) m') : WpF Try.prog tb fn_Values [x] m Q := by
  refine WpF_intro at_Values rfl rfl ?_
  unfold c_Values
  refine C_sr fun Q' hQ => ?_
  simp only [r_Values_0, hx1, WpO_op, WpO_nil, WpON_some, o_mv, o_box, v_ob, ev_tm, ev_cst, putD_some, fill_cons, fill_nil, reduceIte, List.length_cons, List.length_nil, Nat.zero_add]
  refine hQ _ _ (C_sr fun Q' hQ => ?_)
  simp only [r_Values_1, WpO_op, o_fn, WpO_nil, WpON_some, o_mv, ev_tm, evs_cons, evs_nil, putD_some, reduceIte, Nat.reduceEqDiff]
  refine hQ _ _ (WpC_ret ⟨.inr rfl, _, ares1, ?_⟩)
  simp only [ev_tm, one_1, reduceIte, Nat.reduceEqDiff]
  exact hQ0 _ m.next (At.addL rfl) (Keep.addL hw) (Nat.le_refl _)
end Go.Proofs.Ytmkbjcjlnidjiaa
