import Derived.Test.YtmkbjcjlnidjiaaCaB
set_option linter.unusedVariables false
set_option linter.unusedVariables false
/- Library functions over slices of numbers: IndexFunc, DeleteFunc, Clone; picks. -/
namespace Go.Proofs.Ytmkbjcjlnidjiaa
open Go Go.Am

theorem repl_length (z : List AV) : ∀ n, (repl n z).length = n * z.length
  | 0 => by simp [repl]
  | n + 1 => by show (z ++ repl n z).length = _; rw [List.length_append, repl_length z n, Nat.succ_mul]; omega
/-- What a function value tells of a number. -/
def Tells (m : M) (F : Nat → Prop) (fv : AV) (zs : List Int) (p : Int → Bool) : Prop := ∃ g caps, fv = .func g caps ∧ ∀ z ∈ zs, ∀ m', Keep m m' F → WpF Try.prog tb g ([iv z] ++ caps) m' fun v m'' => v = .b (p z) ∧ m'' = m'
theorem idx_spec {m : M} {b cap : Nat} {xt : Bool} {cells : List AV} {zs : List Int} {fv : AV} {p : Int → Bool} {F : Nat → Prop} (hw : Wf m) (h : At m b ty_int xt cells) (hc : cells = zs.map iv) (hn : zs.length ≤ 1000000) (hp : Tells m F fv zs p) :
    WpF Try.prog tb fn_IdxFunc [.slice b 0 zs.length cap false, fv] m fun v m' => m' = m ∧ ((v = iv (-1) ∧ ∀ z ∈ zs, p z = false) ∨ ∃ i z, v = iv (i : Nat) ∧ zs[i]? = some z ∧ p z = true ∧ ∀ y ∈ zs.take i, p y = false) := by
  obtain ⟨g, caps, rfl, hp⟩ := hp
  refine WpF_intro at_IdxFunc rfl rfl ?_
  unfold c_IdxFunc
  refine C_sr fun Q' hQ => ?_
  simp only [r_IdxFunc_0, WpO_op, WpO_nil, WpON_some, o_mv, ev_cst, putD_some, fill_cons, fill_nil, Nat.reduceAdd, Nat.zero_add]
  refine hQ _ _ (WpC_seq (C_sr fun Q' hQ => ?_))
  simp only [r_IdxFunc_1, WpO_op, WpO_nil, WpON_some, o_mv, o_len, v_ob, len_sl, ev_tm, ev_cst, putD_some, reduceIte, Nat.reduceEqDiff]
  refine hQ _ _ (WpC_block (WpC_loop (fun j fr mk => ∃ k, k ≤ zs.length ∧ j = zs.length - k ∧ mk = m ∧ ev (tm 0) fr = .slice b 0 zs.length cap false ∧ ev (tm 1) fr = .func g caps ∧ ev (tm 7) fr = iv zs.length ∧ ev (tm 8) fr = iv k ∧ ∀ y ∈ zs.take k, p y = false) (k := zs.length) ?_ ?_))
  · refine ⟨0, Nat.zero_le _, rfl, rfl, ?_, ?_, ?_, ?_, by simp⟩
    all_goals simp only [ev_tm, reduceIte, Nat.reduceEqDiff]
    rfl
  clear hQ
  rintro j fr mk ⟨k, hk, rfl, rfl, e0, e1, e7, e8, hall⟩
  refine C_sr fun Q' hQ => ?_
  by_cases hlt : k < zs.length
  · have hz : zs[k]? = some zs[k] := List.getElem?_eq_getElem hlt
    generalize zs[k] = z at hz
    have hr : mk.rd b k = some (iv z) := by rw [h.rd, hc, List.getElem?_map, hz]; rfl
    have hmem := List.mem_of_getElem? hz
    simp only [r_IdxFunc_2, e7, e8, show ((k : Int) < (zs.length : Int)) = True from eq_true (by omega), WpO_op, WpO_nil, WpON_some, o_lt, v_rto, b_lt, putD_some, decide_true]
    refine hQ _ _ (WpC_seq (WpC_cond (t := true) ?_ (WpC_skip ?_)))
    · simp only [ev_tm, reduceIte]
    refine WpC_seq (WpC_block (C_sr fun Q' hQ => ?_))
    simp only [r_IdxFunc_3, e8, WpO_op, WpO_nil, WpON_some, o_mv, ev_tm, putD_some, reduceIte, Nat.reduceEqDiff]
    refine hQ _ _ (C_sr fun Q' hQ => ?_)
    simp only [r_IdxFunc_4, e0, e1, v_iaS 1 b 0 zs.length cap false hlt, Nat.mul_one, hr, WpO_op, WpON_some, o_mv, o_load, o_iaS, v_elPtr, v_rto, ev_tm, putD_some, reduceIte, Nat.reduceEqDiff, Nat.zero_add]
    refine WpO_fv (g := g) (caps := caps) (by simp only [ev_tm, reduceIte, Nat.reduceEqDiff]) ?_
    simp only [ev_tm, evs_cons, evs_nil, reduceIte, Nat.reduceEqDiff, List.nil_append, List.cons_append]
    refine WpOC.to ((hp z hmem mk (Keep.refl hw _)).mono ?_)
    rintro v m' ⟨rfl, rfl⟩
    simp only [WpO_nil, putD_some]
    cases hpz : p z with
    | true =>
      refine hQ _ _ (WpC_cond (t := true) ?_ (C_sr fun Q' hQ => ?_))
      · simp only [ev_tm, reduceIte, Nat.reduceEqDiff]
      simp only [r_IdxFunc_5, WpO_op, WpO_nil, WpON_some, o_mv, ev_tm, putD_some, reduceIte, Nat.reduceEqDiff]
      refine hQ _ _ (WpC_ret ⟨.inr rfl, _, ares1, ?_⟩)
      simp only [ev_tm, one_1, reduceIte, Nat.reduceEqDiff]
      exact ⟨trivial, .inr ⟨k, z, rfl, hz, hpz, hall⟩⟩
    | false =>
      refine hQ _ _ (WpC_cond (t := false) ?_ (WpC_skip ?_))
      · simp only [ev_tm, reduceIte, Nat.reduceEqDiff]
      have hC : (k : Int) + 1 = ((k + 1 : Nat) : Int) := by omega
      refine C_reg fun Q' hQ => ?_
      simp only [r_IdxFunc_6, e8, b_add ty_int (show -9223372036854775808 ≤ (k : Int) + 1 by omega) (show (k : Int) + 1 ≤ 9223372036854775807 by omega), hC, WpO_op, WpO_nil, WpON_some, o_mv, o_add, v_rto, ev_tm, ev_cst, putD_some, reduceIte, Nat.reduceEqDiff]
      refine hQ _ _ ⟨zs.length - (k + 1), by omega, k + 1, by omega, rfl, rfl, ?_, ?_, ?_, ?_, ?_⟩
      any_goals simp only [e0, e1, e7, e8, ev_tm, reduceIte, Nat.reduceEqDiff]
      intro y hy
      rw [List.take_add_one, hz] at hy
      rcases List.mem_append.1 hy with hy | hy
      · exact hall y hy
      · have : y = z := by simpa using hy
        rw [this]; exact hpz
  · simp only [r_IdxFunc_2, e7, e8, show ((k : Int) < (zs.length : Int)) = False from eq_false (by omega), WpO_op, WpO_nil, WpON_some, o_lt, v_rto, b_lt, putD_some, decide_false]
    refine hQ _ _ (WpC_seq (WpC_cond (t := false) ?_ (WpC_exit ?_)))
    · simp only [ev_tm, reduceIte]
    clear hQ
    simp only [reduceIte]
    refine C_sr fun Q' hQ => ?_
    simp only [r_IdxFunc_7, WpO_op, WpO_nil, WpON_some, o_mv, ev_cst, putD_some]
    refine hQ _ _ (WpC_ret ⟨.inr rfl, _, ares1, ?_⟩)
    simp only [ev_tm, one_1, reduceIte, Nat.reduceEqDiff]
    refine ⟨trivial, .inl ⟨trivial, ?_⟩⟩
    have : k = zs.length := by omega
    rw [this, List.take_length] at hall
    exact hall
/-- Where a row is cut at its first number that is struck. -/
theorem filt_first {zs : List Int} {p : Int → Bool} {i : Nat} {z : Int} (hz : zs[i]? = some z) (hpz : p z = true) (hall : ∀ y ∈ zs.take i, p y = false) : (zs.take (i + 1)).filter (fun y => !p y) = zs.take i := by
  rw [List.take_add_one, hz, List.filter_append, List.filter_eq_self.2 (fun y hy => by rw [hall y hy]; rfl)]
  simp [hpz]
set_option maxHeartbeats 1000000 in
theorem del_spec {m : M} {b : Nat} {xt : Bool} {zs : List Int} {fv : AV} {p : Int → Bool} (hw : Wf m) (h : At m b ty_int xt (zs.map iv)) (h0 : zs ≠ []) (hn : zs.length ≤ 1000000) (hp : Tells m (fun x => x = b) fv zs p) {Q : AV → M → Prop}
    (hQ0 : ∀ m' k, At m' b ty_int xt (((zs.filter fun y => !p y).map iv) ++ List.replicate (zs.length - k) (iv 0)) → k = (zs.filter fun y => !p y).length → Keep m m' (fun x => x = b) → Q (.slice b 0 k zs.length false) m') :
    WpF Try.prog tb fn_DelFunc [.slice b 0 zs.length zs.length false, fv] m Q := by
  have hpos : 0 < zs.length := List.length_pos_iff.2 h0
  refine WpF_intro at_DelFunc rfl rfl ?_
  unfold c_DelFunc
  refine C_sr fun Q' hQ => ?_
  simp only [r_DelFunc_0, WpO_op, WpO_nil, WpON_some, o_mv, ev_cst, putD_some, fill_cons, fill_nil, Nat.reduceAdd, Nat.zero_add]
  refine hQ _ _ (C_sr fun Q' hQ => ?_)
  simp only [r_DelFunc_1, WpO_op, WpO_call, WpON_some, o_mv, ev_tm, evs_cons, evs_nil, putD_some, reduceIte, Nat.reduceEqDiff]
  refine WpOC.to ((idx_spec hw h rfl hn hp).mono ?_)
  rintro v m' ⟨rfl, hans⟩
  obtain ⟨g, caps, rfl, hp⟩ := hp
  rcases hans with ⟨rfl, hall⟩ | ⟨i, z, rfl, hz, hpz, hall⟩
  · simp only [WpO_op, WpO_nil, WpON_some, o_mv, ev_tm, putD_some, reduceIte, Nat.reduceEqDiff]
    refine hQ _ _ (WpC_seq (C_sr fun Q' hQ => ?_))
    simp only [r_DelFunc_2, WpO_op, WpO_nil, WpON_some, o_mv, o_eq, v_rto, b_eq, ev_tm, ev_cst, putD_some, reduceIte, Nat.reduceEqDiff, decide_true]
    refine hQ _ _ (WpC_cond (t := true) ?_ (C_sr fun Q' hQ => ?_))
    · simp only [ev_tm, reduceIte, Nat.reduceEqDiff]
    simp only [r_DelFunc_3, WpO_op, WpO_nil, WpON_some, o_mv, ev_tm, putD_some, reduceIte, Nat.reduceEqDiff]
    refine hQ _ _ (WpC_ret ⟨.inr rfl, _, ares1, ?_⟩)
    simp only [ev_tm, one_1, reduceIte, Nat.reduceEqDiff]
    have hf : zs.filter (fun y => !p y) = zs := List.filter_eq_self.2 fun y hy => by rw [hall y hy]; rfl
    refine hQ0 m' zs.length ?_ (by rw [hf]) (Keep.refl hw _)
    rw [hf, Nat.sub_self]
    simpa using h
  have hi := (List.getElem?_eq_some_iff.1 hz).1
  have hfirst := filt_first hz hpz hall
  simp only [WpO_op, WpO_nil, WpON_some, o_mv, ev_tm, putD_some, reduceIte, Nat.reduceEqDiff]
  refine hQ _ _ (WpC_seq (C_sr fun Q' hQ => ?_))
  simp only [r_DelFunc_2, show ((i : Int) = -1) = False from eq_false (by omega), WpO_op, WpO_nil, WpON_some, o_mv, o_eq, v_rto, b_eq, ev_tm, ev_cst, putD_some, reduceIte, Nat.reduceEqDiff, decide_false]
  refine hQ _ _ (WpC_cond (t := false) ?_ (WpC_skip (WpC_seq (C_sr fun Q' hQ => ?_))))
  · simp only [ev_tm, reduceIte, Nat.reduceEqDiff]
  have hC : (i : Int) + 1 = ((i + 1 : Nat) : Int) := by omega
  simp only [r_DelFunc_4, b_add ty_int (show -9223372036854775808 ≤ (i : Int) + 1 by omega) (show (i : Int) + 1 ≤ 9223372036854775807 by omega), hC, WpO_op, WpO_nil, WpON_some, o_mv, o_add, v_rto, ev_tm, ev_cst, putD_some, reduceIte, Nat.reduceEqDiff]
  refine hQ _ _ (WpC_block (WpC_loop (fun j fr mk => ∃ t junk, t ≤ zs.length ∧ j = zs.length - t ∧ ev (tm 0) fr = .slice b 0 zs.length zs.length false ∧ ev (tm 1) fr = .func g caps ∧ ev (tm 5) fr = iv (((zs.take t).filter fun y => !p y).length : Nat) ∧ ev (tm 6) fr = iv t ∧
      At mk b ty_int xt (((zs.take t).filter fun y => !p y).map iv ++ (junk ++ (zs.drop t).map iv)) ∧ ((zs.take t).filter fun y => !p y).length + junk.length = t ∧ 0 < junk.length ∧ Keep m' mk fun x => x = b) (k := zs.length - (i + 1)) ?_ ?_))
  · have e : zs.map iv = ((zs.take (i + 1)).filter fun y => !p y).map iv ++ ([iv z] ++ (zs.drop (i + 1)).map iv) := by
      rw [hfirst]
      conv => lhs; rw [← List.take_append_drop i zs]
      rw [List.map_append, List.drop_eq_getElem_cons hi, (List.getElem?_eq_some_iff.1 hz).2]
      rfl
    refine ⟨i + 1, [iv z], by omega, rfl, ?_, ?_, ?_, ?_, by rw [← e]; exact h, ?_, Nat.zero_lt_one, Keep.refl hw _⟩
    any_goals simp only [ev_tm, reduceIte, Nat.reduceEqDiff, List.length_cons, List.length_nil, Nat.zero_add]
    · rw [hfirst, List.length_take, Nat.min_eq_left (by omega)]
    · rw [hfirst, List.length_take, Nat.min_eq_left (by omega)]
  clear hQ hfirst hall hz hpz hi
  rintro j fr mk ⟨t, junk, ht, rfl, e0, e1, e5, e6, hat, hlen, hjp, hk⟩
  have hwk := hk.wf
  generalize hF : (zs.take t).filter (fun y => !p y) = Fl at e5 hat hlen
  refine WpC_seq (C_sr fun Q' hQ => ?_)
  by_cases hlt : t < zs.length
  · have hy : zs[t]? = some zs[t] := List.getElem?_eq_getElem hlt
    generalize zs[t] = y at hy
    have hmem := List.mem_of_getElem? hy
    have hdr : (zs.drop t).map iv = iv y :: (zs.drop (t + 1)).map iv := by
      rw [List.drop_eq_getElem_cons hlt, (List.getElem?_eq_some_iff.1 hy).2]; rfl
    have hr : mk.rd b t = some (iv y) := by
      rw [hat.rd, List.getElem?_append_right (by simp; omega), List.getElem?_append_right (by simp; omega), hdr, List.length_map, show t - Fl.length - junk.length = 0 by omega]
      rfl
    have hC : (t : Int) + 1 = ((t + 1 : Nat) : Int) := by omega
    simp only [r_DelFunc_5, e0, e6, show ((t : Int) < (zs.length : Int)) = True from eq_true (by omega), WpO_op, WpO_nil, WpON_some, o_mv, o_lt, o_len, v_ob, v_rto, b_lt, len_sl, ev_tm, putD_some, reduceIte, Nat.reduceEqDiff, decide_true]
    refine hQ _ _ (WpC_cond (t := true) ?_ (WpC_skip ?_))
    · simp only [ev_tm, reduceIte, Nat.reduceEqDiff]
    refine WpC_seq (WpC_block (C_sr fun Q' hQ => ?_))
    simp only [r_DelFunc_7, e0, e6, v_iaS 1 b 0 zs.length zs.length false hlt, Nat.mul_one, hr, WpO_op, WpO_nil, WpON_some, o_mv, o_load, o_iaS, v_elPtr, v_rto, ev_tm, putD_some, reduceIte, Nat.reduceEqDiff, Nat.zero_add]
    refine hQ _ _ (C_sr fun Q' hQ => ?_)
    simp only [r_DelFunc_8, e1, WpO_op, WpON_some, o_mv, ev_tm, putD_some, reduceIte, Nat.reduceEqDiff]
    refine WpO_fv (g := g) (caps := caps) (by simp only [ev_tm, reduceIte, Nat.reduceEqDiff]) ?_
    simp only [ev_tm, evs_cons, evs_nil, reduceIte, Nat.reduceEqDiff, List.nil_append, List.cons_append]
    refine WpOC.to ((hp y hmem mk hk).mono ?_)
    rintro v m2 ⟨rfl, rfl⟩
    simp only [WpO_op, WpO_nil, WpON_some, o_un, v_rto, v_not, ev_tm, putD_some, reduceIte, Nat.reduceEqDiff]
    have hstep : (zs.take (t + 1)).filter (fun y => !p y) = Fl ++ if p y then [] else [y] := by
      rw [List.take_add_one, hy, List.filter_append, hF]
      cases hpy : p y <;> simp [hpy]
    cases hpy : p y with
    | true =>
      rw [hpy, if_pos rfl, List.append_nil] at hstep
      refine hQ _ _ (WpC_cond (t := false) ?_ (WpC_skip ?_))
      · simp only [ev_tm, reduceIte, Nat.reduceEqDiff, Bool.not_true]
      refine C_reg fun Q' hQ => ?_
      simp only [r_DelFunc_6, e6, b_add ty_int (show -9223372036854775808 ≤ (t : Int) + 1 by omega) (show (t : Int) + 1 ≤ 9223372036854775807 by omega), hC, WpO_op, WpO_nil, WpON_some, o_mv, o_add, v_rto, ev_tm, ev_cst, putD_some, reduceIte, Nat.reduceEqDiff, Bool.not_true]
      refine hQ _ _ ⟨zs.length - (t + 1), by omega, t + 1, junk ++ [iv y], by omega, rfl, ?_, ?_, ?_, ?_, ?_, ?_, by simp, hk⟩
      any_goals simp only [e0, e1, e5, e6, hstep, ev_tm, reduceIte, Nat.reduceEqDiff]
      · rw [List.append_assoc]
        show At m2 b ty_int xt (Fl.map iv ++ (junk ++ (iv y :: (zs.drop (t + 1)).map iv)))
        rw [← hdr]; exact hat
      · rw [List.length_append]; show Fl.length + (junk.length + 1) = _; omega
    | false =>
      rw [hpy, if_neg (by decide)] at hstep
      have hIl : Fl.length < zs.length := by omega
      have hwr := hat.wr (i := Fl.length) (vs := [iv y]) (by simp; omega)
      have hup := hat.upd (i := Fl.length) (vs := [iv y]) (by simp; omega)
      have hk2 : Keep m2 (m2.upd b Fl.length [iv y]) fun x => x = b := Keep.upd hwk fun _ => rfl
      refine hQ _ _ (WpC_cond (t := true) ?_ (C_sr fun Q' hQ => ?_))
      · simp only [ev_tm, reduceIte, Nat.reduceEqDiff, Bool.not_false]
      simp only [r_DelFunc_9, e0, e5, v_iaS 1 b 0 zs.length zs.length false hIl, Nat.mul_one, hwr, WpO_op, WpO_nil, WpON_some, o_mv, o_store, o_iaS, v_elPtr, v_ob, cells_iv, ev_tm, putD_none, putD_some, bc_true, nbeq, reduceIte, Nat.reduceEqDiff, List.length_cons, List.length_nil, Nat.zero_add, decide_true, Bool.not_false]
      refine hQ _ _ (C_reg fun Q' hQ => ?_)
      have hD : (Fl.length : Int) + 1 = ((Fl.length + 1 : Nat) : Int) := by omega
      simp only [r_DelFunc_10, e5, b_add ty_int (show -9223372036854775808 ≤ (Fl.length : Int) + 1 by omega) (show (Fl.length : Int) + 1 ≤ 9223372036854775807 by omega), hD, WpO_op, WpO_nil, WpON_some, o_mv, o_add, v_rto, ev_tm, ev_cst, putD_some, reduceIte, Nat.reduceEqDiff]
      refine hQ _ _ (C_reg fun Q' hQ => ?_)
      simp only [r_DelFunc_6, e6, b_add ty_int (show -9223372036854775808 ≤ (t : Int) + 1 by omega) (show (t : Int) + 1 ≤ 9223372036854775807 by omega), hC, WpO_op, WpO_nil, WpON_some, o_mv, o_add, v_rto, ev_tm, ev_cst, putD_some, reduceIte, Nat.reduceEqDiff]
      cases junk with
      | nil => simp at hjp
      | cons a junk =>
      refine hQ _ _ ⟨zs.length - (t + 1), by omega, t + 1, junk ++ [iv y], by omega, rfl, ?_, ?_, ?_, ?_, ?_, ?_, by simp, hk.trans hk2 fun _ _ h => h⟩
      any_goals simp only [e0, e1, e5, e6, hstep, List.length_append, ev_tm, reduceIte, Nat.reduceEqDiff, List.length_cons, List.length_nil, Nat.zero_add]
      · have e : splice (Fl.map iv ++ ((a :: junk) ++ (zs.drop t).map iv)) Fl.length [iv y] = (Fl ++ [y]).map iv ++ (junk ++ [iv y] ++ (zs.drop (t + 1)).map iv) := by
          unfold splice
          have hl : (Fl.map iv).length = Fl.length := List.length_map ..
          rw [List.take_append_of_le_length (by omega), List.take_of_length_le (by omega), hdr]
          have e2 : (Fl.map iv ++ ((a :: junk) ++ iv y :: (zs.drop (t + 1)).map iv)).drop (Fl.length + [iv y].length) = junk ++ iv y :: (zs.drop (t + 1)).map iv := by
            rw [← List.drop_drop, ← hl, List.drop_left]
            rfl
          rw [e2]
          simp
        rw [e] at hup
        exact hup
      · simp only [List.length_cons] at hlen; omega
  · simp only [r_DelFunc_5, e0, e6, show ((t : Int) < (zs.length : Int)) = False from eq_false (by omega), WpO_op, WpO_nil, WpON_some, o_mv, o_lt, o_len, v_ob, v_rto, b_lt, len_sl, ev_tm, putD_some, reduceIte, Nat.reduceEqDiff, decide_false]
    refine hQ _ _ (WpC_cond (t := false) ?_ (WpC_exit ?_))
    · simp only [ev_tm, reduceIte, Nat.reduceEqDiff]
    clear hQ
    simp only [reduceIte]
    have htl : t = zs.length := by omega
    have hF2 : zs.filter (fun y => !p y) = Fl := by rw [← hF, htl, List.take_length]
    have hdr : (zs.drop t).map iv = [] := by rw [htl, List.drop_length]; rfl
    rw [hdr, List.append_nil] at hat
    have hIl : Fl.length < zs.length := by omega
    have hjl : junk.length = zs.length - Fl.length := by omega
    have hrl : (repl (zs.length - Fl.length) [iv 0]).length = zs.length - Fl.length := by rw [repl_length]; simp
    have hwr := hat.wr (i := Fl.length) (vs := repl (zs.length - Fl.length) [iv 0]) (by rw [hrl]; simp; omega)
    have hup := hat.upd (i := Fl.length) (vs := repl (zs.length - Fl.length) [iv 0]) (by rw [hrl]; simp; omega)
    have hk2 : Keep mk (mk.upd b Fl.length (repl (zs.length - Fl.length) [iv 0])) fun x => x = b := Keep.upd hwk fun _ => rfl
    have hsl : rSl 1 false (.cst (.slice b 0 zs.length zs.length false)) (some (.cst (iv (Fl.length : Int)))) none none .leaf mk = some (.slice b Fl.length (zs.length - Fl.length) (zs.length - Fl.length) false, mk) := by
      rw [rSl_eq, evo_none, bnd_none, ob_some', evo_some, ev_cst, bnd_iv (show Fl.length ≤ zs.length by omega), ob_some', nble, decide_eq_true (Nat.le_refl _), nbeq, nbeq, decide_eq_false (show ¬ zs.length = Fl.length by omega)]
      simp only [bc_true, Bool.false_and, bc_false, fc_eq, Bool.or_self]
      show some (AV.slice b (0 + Fl.length * 1) (zs.length - Fl.length) (zs.length - Fl.length) false, mk) = _
      rw [Nat.zero_add, Nat.mul_one]
    have hcl : rClrS [iv 0] (.cst (.slice b Fl.length (zs.length - Fl.length) (zs.length - Fl.length) false)) .leaf mk = some (AV.undef, mk.upd b Fl.length (repl (zs.length - Fl.length) [iv 0])) := by
      show bc (Nat.beq (zs.length - Fl.length) 0) (some (AV.undef, mk)) (ob (mk.wr b Fl.length (repl (zs.length - Fl.length) [iv 0])) fun m => some (AV.undef, m)) = _
      rw [nbeq, decide_eq_false (by omega), bc_false, hwr]
      rfl
    have htk : ∀ m3, rSl 1 false (.cst (.slice b 0 zs.length zs.length false)) none (some (.cst (iv (Fl.length : Int)))) none .leaf m3 = some (.slice b 0 Fl.length zs.length false, m3) := by
      intro m3
      rw [rSl_eq, evo_some, ev_cst, bnd_iv (show Fl.length ≤ zs.length by omega), ob_some', evo_none, bnd_none, ob_some', nble, decide_eq_true (show Fl.length ≤ zs.length by omega)]
      simp only [bc_true, Nat.beq_refl, Bool.not_true, Bool.and_false, bc_false, fc_eq]
      show some (AV.slice b (0 + 0 * 1) (Fl.length - 0) (zs.length - 0) (false || false), m3) = _
      simp
    refine C_sr fun Q' hQ => ?_
    simp only [r_DelFunc_11, e0, e5, hsl, hcl, WpO_op, o_clrs, WpO_nil, WpON_some, o_mv, o_drop, ev_tm, putD_none, putD_some, reduceIte, Nat.reduceEqDiff]
    refine hQ _ _ (C_sr fun Q' hQ => ?_)
    simp only [r_DelFunc_12, e0, e5, htk, WpO_op, WpO_nil, WpON_some, o_mv, o_take, ev_tm, putD_some, reduceIte, Nat.reduceEqDiff]
    refine hQ _ _ (WpC_ret ⟨.inr rfl, _, ares1, ?_⟩)
    simp only [ev_tm, one_1, reduceIte, Nat.reduceEqDiff]
    refine hQ0 _ Fl.length ?_ (by rw [hF2]) (hk.trans hk2 fun _ _ h => h)
    have e : splice (Fl.map iv ++ junk) Fl.length (repl (zs.length - Fl.length) [iv 0]) = Fl.map iv ++ List.replicate (zs.length - Fl.length) (iv 0) := by
      unfold splice
      have hl : (Fl.map iv).length = Fl.length := List.length_map ..
      rw [List.take_append_of_le_length (by omega), List.take_of_length_le (by omega), List.drop_of_length_le (by rw [List.length_append, hrl]; omega), List.append_nil]
      congr 1
      have hrep : ∀ n, repl n [iv 0] = List.replicate n (iv 0) := by
        intro n
        induction n with
        | zero => rfl
        | succ n ih => show [iv 0] ++ repl n [iv 0] = _; rw [ih]; rfl
      exact hrep _
    rw [hF2, ← e]
    exact hup
end Go.Proofs.Ytmkbjcjlnidjiaa
