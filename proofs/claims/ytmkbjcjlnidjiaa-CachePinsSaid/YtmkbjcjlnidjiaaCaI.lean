import Derived.Test.YtmkbjcjlnidjiaaCaH
set_option linter.unusedVariables false
set_option linter.unusedVariables false
/- What the laws make: a device, a cache, a block full of one byte. -/
namespace Go.Proofs.Ytmkbjcjlnidjiaa
open Go Go.Am
section
variable {m : M}
theorem cells_sl (b off len cap : Nat) (lim : Bool) : cellsO (.slice b off len cap lim) = some [.slice b off len cap lim] := rfl
theorem cells_nils : cellsO nils = some [nils] := rfl
theorem cells_y (n : Nat) : cellsO (.y n) = some [.y n] := rfl
theorem same_spec {s1 s2 : AV} {t1 t2 : Bs} {b1 b2 : Nat} (h1 : BsAt m s1 t1 b1) (h2 : BsAt m s2 t2 b2) : WpF Try.prog tb fn_k1_SameBytes [s1, s2] m fun v m' => v = .b (decide (t1 = t2)) ∧ m' = m := by
  refine WpF_intro at_k1_SameBytes rfl rfl ?_
  unfold c_k1_SameBytes
  refine C_sr fun Q' hQ => ?_
  simp only [r_k1_SameBytes_0, WpO_op, WpO_nil, WpON_some, o_mv, ev_cst, putD_some, fill_cons, fill_nil, Nat.reduceAdd, Nat.zero_add]
  refine hQ _ _ (C_sr fun Q' hQ => ?_)
  simp only [r_k1_SameBytes_1, h1.run_b2s, h2.run_b2s, WpO_op, o_b2s, WpO_nil, WpON_some, o_mv, o_eq, v_rto, bs_eq, ev_tm, putD_some, reduceIte, Nat.reduceEqDiff]
  refine hQ _ _ (WpC_ret ⟨.inr rfl, _, ares1, ?_⟩)
  simp only [and_self, ev_tm, one_1, reduceIte, Nat.reduceEqDiff]
theorem rep_flat (n : Nat) (a : AV) : (List.replicate n [a]).flatten = List.replicate n a := by
  induction n with
  | zero => rfl
  | succ n ih => rw [List.replicate_succ, List.flatten_cons, ih]; rfl
theorem ycells_rep (n : Nat) (x : UInt8) : ycells (List.replicate n x) = List.replicate n (.y x.toNat) := by
  unfold ycells
  rw [List.map_replicate]
theorem splice_rep {k n : Nat} (hk : k < n) (x z : AV) : splice (List.replicate k x ++ List.replicate (n - k) z) k [x] = List.replicate (k + 1) x ++ List.replicate (n - (k + 1)) z := by
  unfold splice
  rw [List.take_append_of_le_length (by simp), List.take_of_length_le (by simp), show [x].length = 1 from rfl, List.drop_append, List.drop_of_length_le (by simp), List.length_replicate, List.nil_append, show k + 1 - k = 1 by omega, List.drop_replicate, List.replicate_succ' , List.append_assoc, show n - k - 1 = n - (k + 1) by omega]
theorem mk64 (m : M) : rMkSl ty_uint8 1 1 [.y 0] (.cst (iv 64)) (.cst (iv 64)) .leaf m = some (.slice m.next 0 64 64 false, m.addZ ty_uint8 (64 * 1) [.y 0]) := v_mksl ty_uint8 1 1 [.y 0] (n := 64) (by omega) (by omega)
set_option maxHeartbeats 1000000 in
theorem full_spec (hw : Wf m) (x : UInt8) {Q : AV → M → Prop} (hQ0 : ∀ m' s b, BsAt m' s (List.replicate 64 x) b → Keep m m' (fun _ => False) → m.next ≤ b → Q s m') : WpF Try.prog tb fn_l8_full [.y x.toNat] m Q := by
  refine WpF_intro at_l8_full rfl rfl ?_
  unfold c_l8_full
  refine C_sr fun Q' hQ => ?_
  simp only [r_l8_full_0, WpO_op, WpO_nil, WpON_some, o_mv, ev_cst, putD_some, fill_cons, fill_nil, Nat.zero_add]
  refine hQ _ _ (C_sr fun Q' hQ => ?_)
  have hb1 : At (m.addZ ty_uint8 (64 * 1) [.y 0]) m.next ty_uint8 true (List.replicate 64 (.y 0)) := by
    have := At.addZr (m := m) (e := ty_uint8) (k := 64 * 1) (z := [.y 0]) 64 rfl
    rwa [rep_flat] at this
  have hk1 : Keep m (m.addZ ty_uint8 (64 * 1) [.y 0]) fun _ => False := Keep.addZ hw
  simp only [r_l8_full_1, mk64, WpO_op, o_mksl, WpO_nil, WpON_some, o_mv, ev_tm, ev_cst, putD_some, reduceIte, Nat.reduceEqDiff, Nat.reduceMul]
  generalize m.addZ ty_uint8 (64 * 1) [.y 0] = m1 at hb1 hk1 ⊢
  have hw1 := hk1.wf
  refine hQ _ _ (WpC_seq (C_sr fun Q' hQ => ?_))
  simp only [r_l8_full_2, WpO_op, WpO_nil, WpON_some, o_mv, ev_cst, putD_some]
  refine hQ _ _ (WpC_block (WpC_loop (fun j fr mk => ∃ k, k ≤ 64 ∧ j = 64 - k ∧ ev (tm 0) fr = .y x.toNat ∧ ev (tm 3) fr = .slice m.next 0 64 64 false ∧ ev (tm 4) fr = iv (k : Nat) ∧ Keep m mk (fun _ => False) ∧ At mk m.next ty_uint8 true (List.replicate k (.y x.toNat) ++ List.replicate (64 - k) (.y 0))) (k := 64) ?_ ?_))
  · refine ⟨0, by omega, rfl, ?_, ?_, ?_, hk1, hb1⟩
    all_goals simp only [ev_tm, reduceIte, Nat.reduceEqDiff]
    rfl
  clear hQ
  rintro j fr mk ⟨k, hk, rfl, e0, e3, e4, hkk, hbk⟩
  have hwk := hkk.wf
  refine WpC_seq (C_sr fun Q' hQ => ?_)
  by_cases hlt : k < 64
  · simp only [r_l8_full_3, e4, show ((k : Int) < 64) = True from eq_true (by omega), WpO_op, WpO_nil, WpON_some, o_mv, o_lt, v_rto, b_lt, ev_tm, ev_cst, putD_some, reduceIte, decide_true]
    refine hQ _ _ (WpC_cond (t := true) ?_ (WpC_skip ?_))
    · simp only [ev_tm, reduceIte, Nat.reduceEqDiff]
    have hwr := hbk.wr (i := k) (vs := [.y x.toNat]) (by simp; omega)
    have hup := hbk.upd (i := k) (vs := [.y x.toNat]) (by simp; omega)
    rw [splice_rep hlt] at hup
    have hku : Keep mk (mk.upd m.next k [.y x.toNat]) fun b => b = m.next := Keep.upd hwk fun _ => rfl
    refine WpC_seq (WpC_block (C_reg fun Q' hQ => ?_))
    simp only [r_l8_full_5, e0, e3, e4, v_iaS 1 m.next 0 64 64 false hlt, Nat.mul_one, cells_y, hwr, WpO_op, WpO_nil, WpON_some, o_mv, o_store, o_iaS, v_elPtr, v_ob, ev_tm, putD_none, putD_some, bc_true, nbeq, reduceIte, Nat.reduceEqDiff, List.length_cons, List.length_nil, Nat.zero_add, decide_true]
    have hC : (k : Int) + 1 = ((k + 1 : Nat) : Int) := by omega
    refine hQ _ _ (C_reg fun Q' hQ => ?_)
    simp only [r_l8_full_4, e4, b_add ty_int (show -9223372036854775808 ≤ (k : Int) + 1 by omega) (show (k : Int) + 1 ≤ 9223372036854775807 by omega), hC, WpO_op, WpO_nil, WpON_some, o_mv, o_add, v_rto, ev_tm, ev_cst, putD_some, reduceIte, Nat.reduceEqDiff]
    refine hQ _ _ ⟨64 - (k + 1), by omega, k + 1, by omega, rfl, ?_, ?_, ?_, hkk.trans hku fun b hb e => by omega, hup⟩
    all_goals simp only [e0, e3, e4, ev_tm, reduceIte, Nat.reduceEqDiff]
  · have hk64 : k = 64 := by omega
    subst hk64
    simp only [r_l8_full_3, e4, show (((64 : Nat) : Int) < 64) = False from eq_false (by omega), WpO_op, WpO_nil, WpON_some, o_mv, o_lt, v_rto, b_lt, ev_tm, ev_cst, putD_some, reduceIte, decide_false]
    refine hQ _ _ (WpC_cond (t := false) ?_ (WpC_exit ?_))
    · simp only [ev_tm, reduceIte, Nat.reduceEqDiff]
    clear hQ
    refine C_sr fun Q' hQ => ?_
    simp only [r_l8_full_6, e3, WpO_op, WpO_nil, WpON_some, o_mv, ev_tm, putD_some, reduceIte, Nat.reduceEqDiff]
    refine hQ _ _ (WpC_ret ⟨.inr rfl, _, ares1, ?_⟩)
    simp only [ev_tm, one_1, reduceIte, Nat.reduceEqDiff]
    refine hQ0 mk _ m.next ?_ hkk (Nat.le_refl _)
    refine .row (l := List.replicate 64 x) hbk.r (by simp) ?_
    rw [ycells_rep]
    simp
theorem _root_.Go.Am.RsAt.notnil {x : AV} {l : List AV} {o : Option Nat} (h : RsAt m x l o) (hn : x ≠ nils) : ∃ b n c q, x = .slice b 0 n c q := by
  cases h with
  | nil => exact absurd rfl hn
  | empty => exact ⟨_, _, _, _, rfl⟩
  | row => exact ⟨_, _, _, _, rfl⟩
theorem cloneI_spec {x : AV} {zs : List Int} {o : Option Nat} (hw : Wf m) (h : RsAt m x (zs.map iv) o) (hl : zs.length * 8 ≤ 140737488355328) {Q : AV → M → Prop}
    (hQ0 : ∀ m' y o', IsAt m' y zs o' → (∀ b, o' = some b → m.next ≤ b) → Keep m m' (fun _ => False) → Q y m') : WpF Try.prog tb fn_CloneI [x] m Q := by
  have hroom : room zs.length 8 = true := by
    unfold room
    rw [nble, nble, nble, decide_eq_true (show Nat.mul zs.length 8 ≤ 140737488355328 from hl), decide_eq_true (show zs.length ≤ 140737488355328 by omega), decide_eq_true (show 8 ≤ 68719476736 by omega)]
    rfl
  have hsrc := h.src
  refine WpF_intro at_CloneI rfl rfl ?_
  unfold c_CloneI
  refine C_sr fun Q' hQ => ?_
  simp only [r_CloneI_0, WpO_op, WpO_nil, WpON_some, o_mv, ev_cst, putD_some, fill_cons, fill_nil, Nat.zero_add]
  refine hQ _ _ (WpC_seq (C_sr fun Q' hQ => ?_))
  by_cases hn : x = nils
  · subst hn
    have hz : zs = [] := by
      have h2 : some (zs.map iv).length = some 0 := h.len.symm
      simpa using h2
    subst hz
    simp only [r_CloneI_1, b_sln22, WpO_op, WpO_nil, WpON_some, o_mv, o_eq, v_rto, ev_tm, ev_cst, putD_some, reduceIte, Nat.reduceEqDiff]
    refine hQ _ _ (WpC_cond (t := true) ?_ (C_sr fun Q' hQ => ?_))
    · simp only [ev_tm, reduceIte, Nat.reduceEqDiff]
    simp only [r_CloneI_2, WpO_op, WpO_nil, WpON_some, o_mv, ev_cst, putD_some]
    refine hQ _ _ (WpC_ret ⟨.inr rfl, _, ares1, ?_⟩)
    simp only [ev_tm, one_1, reduceIte, Nat.reduceEqDiff]
    exact hQ0 m nils none .nil (fun _ h => by cases h) (Keep.refl hw _)
  · have hb22 : binS Try.prog .eql ty_sint x nils = some (.b false) := by
      obtain ⟨b, n, c, q, rfl⟩ := h.notnil hn
      exact b_sl22 _ _ _ _ _
    simp only [r_CloneI_1, hb22, WpO_op, WpO_nil, WpON_some, o_mv, o_eq, v_rto, ev_tm, ev_cst, putD_some, reduceIte, Nat.reduceEqDiff]
    refine hQ _ _ (WpC_cond (t := false) ?_ (WpC_skip (C_sr fun Q' hQ => ?_)))
    · simp only [ev_tm, reduceIte, Nat.reduceEqDiff]
    have hk1 : Keep m (m.addL ty_int 0 []) fun _ => False := Keep.addL hw
    have hw1 := hk1.wf
    have ha : At (m.addL ty_int 0 []) m.next ty_int true [] := At.addL rfl
    have h1 := h.keep hw hk1 fun _ _ h => h
    have hn1 : (m.addL ty_int 0 []).next = m.next + 1 := M.next_addL ..
    by_cases h0 : zs = []
    · subst h0
      have hr : rApp ty_int 1 8 [iv 0] (.cst (.slice m.next 0 0 0 false)) (.cst x) .leaf (m.addL ty_int 0 []) = some (.slice m.next 0 0 0 false, m.addL ty_int 0 []) := by
        obtain ⟨g1, g2, _⟩ := h1.src
        show (ob (Am.lenA x) fun k => ob (firstA _ 1 k x) fun new => aappend ty_int 1 8 [iv 0] _ (.slice m.next 0 0 0 false) k new) = _
        rw [g1, v_ob, g2, v_ob]
        rfl
      simp only [r_CloneI_3, repl_0, hr, WpO_op, WpO_nil, WpON_some, o_mv, o_bslice, o_app, v_ob, pv_nil, fillA_nil, ev_tm, putD_some, reduceIte, Nat.reduceEqDiff]
      refine hQ _ _ (WpC_ret ⟨.inr rfl, _, ares1, ?_⟩)
      simp only [ev_tm, one_1, reduceIte, Nat.reduceEqDiff]
      exact hQ0 _ _ (some m.next) (.row (zs := []) ha (by simp) (by simp) (by simp)) (fun b hb => by cases hb; exact Nat.le_refl _) hk1
    · have hpos : 0 < zs.length := List.length_pos_iff.2 h0
      obtain ⟨m2, hr, hs2, hk2, hn2⟩ := run_clone0 (e := ty_int) (bytes := 8) (z := [iv 0]) ha hw1 h1.src (by simpa using hpos) (by simpa using hroom)
      rw [List.length_map] at hr hs2
      simp only [r_CloneI_3, repl_0, hr, WpO_op, WpO_nil, WpON_some, o_mv, o_bslice, o_app, v_ob, pv_nil, fillA_nil, ev_tm, putD_some, reduceIte, Nat.reduceEqDiff]
      refine hQ _ _ (WpC_ret ⟨.inr rfl, _, ares1, ?_⟩)
      simp only [ev_tm, one_1, reduceIte, Nat.reduceEqDiff]
      refine hQ0 m2 _ (some (m.addL ty_int 0 []).next) ?_ (fun b hb => by cases hb; omega) (hk1.trans hk2 fun _ _ h => h)
      cases hs2 with
      | row h hl hj hc h0 =>
        refine .row h (by simp) ?_ (Nat.le_refl _)
        rw [List.drop_zero, List.take_append_of_le_length (by simp), List.take_of_length_le (by simp)]
end
end Go.Proofs.Ytmkbjcjlnidjiaa
