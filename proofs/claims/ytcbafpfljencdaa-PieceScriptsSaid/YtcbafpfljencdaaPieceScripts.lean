import Derived.Test.YtcbafpfljencdaaPcR
set_option linter.unusedVariables false
set_option linter.unusedVariables false
/- The law 'skerrylaw20.PieceScripts' returns true for every text and every script. Conditions: none beyond those that the statement itself has. -/
namespace Go.Proofs.Ytcbafpfljencdaa
open Go Go.Am Pl Go.ChangeShapes Go.WideShapes Go.ChangeAt Go.ChangeMaps Go.RowKit Go.Deep

theorem b_mul (t : TypeId) {a b : Int} (h1 : -9223372036854775808 ≤ a * b) (h2 : a * b ≤ 9223372036854775807) : binS Try.prog .mul t (iv a) (iv b) = some (iv (a * b)) := by
  rw [binS_iv]
  show some (iv (IntKind.i64.wrap (a * b))) = _
  rw [IntWalk.i64_in _ ⟨h1, h2⟩]
theorem b_nil42 (b o : Nat) : binS Try.prog .eql 42 (.ptr b o) nilp = some (.b false) := rfl
theorem b_nn42 : binS Try.prog .eql 42 nilp nilp = some (.b true) := rfl
theorem b_nil42n (b o : Nat) : binS Try.prog .neq 42 (.ptr b o) nilp = some (.b true) := rfl
theorem b_nn42n : binS Try.prog .neq 42 nilp nilp = some (.b false) := rfl
theorem b_ne4 (x : Bool) : binS Try.prog .neq 4 (.b x) (.b x) = some (.b false) := by cases x <;> kernel_rfl
theorem b_edq (a n : Int) (t : Bs) : binS Try.prog .eql 31 (.agg [iv a, iv n, tv t]) (.agg [iv a, iv n, tv t]) = some (.b true) := by
  have h : aggEq Try.prog 31 (.agg [iv a, iv n, tv t]) (.agg [iv a, iv n, tv t]) = some true := by
    unfold aggEq
    rw [v_elAgg, v_elAgg, show (!Try.prog.eqGuardType Try.prog.depth 31) = true from by kernel_rfl, bc_true, show tsize Try.prog 31 = some 3 from by kernel_rfl, v_ob, show (tagg Try.prog 31 == some true) = true from by kernel_rfl,
      show leaves Try.prog 40 31 0 = some [(0, 0), (1, 0), (2, 1)] from by kernel_rfl]
    show (ob (ceq 0 (iv a) (iv a)) fun r => ob (ob (ceq 0 (iv n) (iv n)) fun r => ob (ob (ceq 1 (tv t) (tv t)) fun r => ob (some true) fun s => some (r && s)) fun s => some (r && s)) fun s => some (r && s)) = _
    rw [ceq_iv, ceq_iv, ceq_tv]
    rfl
  show (((eqAll Try.prog (Try.prog.underlying 31) _ _).or (aggEq Try.prog 31 _ _)).or (txtEq _ _)).map AV.b = _
  rw [h, Try.underlying31]
  rfl

/-! ### Both answer the same -/
theorem all_any {D : Doc} {c : Nat} {T : List Bs} (hg : Good D c) (hT : T.length ≤ 4000000000000) (e : Ed) :
    (∃ v, v ≠ 0 ∧ errI D e v ∧ errA D e v ∧ errF T D.txt e v) ∨ ∃ a n : Nat, e.at' = a ∧ e.n = n ∧ a + n ≤ D.size ∧ D.size - n + e.text.length ≤ 65536 ∧ okF T D.txt a n e.text := by
  have hb := hg.big
  have hs := hg.size
  rcases any_case hb e with hbad | ⟨a, n, ha, hn, han, hl | hl⟩
  · exact .inl ⟨2, by omega, fun m d xt xp xu bt bp bu hw h Q hQ => inverse_bad hw h hb hbad hQ, fun m d xt xp xu bt bp bu hw h Q hQ => apply_bad hw h hb hbad hQ, fun m w x bw hw h Q hQ => wfits_bad hw h hT (by omega) (by rw [← hs]; exact hbad) hQ⟩
  · refine .inl ⟨5, by omega, fun m d xt xp xu bt bp bu hw h Q hQ => ?_, fun m d xt xp xu bt bp bu hw h Q hQ => ?_, fun m w x bw hw h Q hQ => ?_⟩
    · unfold ecell
      rw [ha, hn]
      exact inverse_large hw h hg han hl hQ
    · unfold ecell
      rw [ha, hn]
      exact apply_large hw h hg han hl hQ
    · unfold ecell
      rw [ha, hn]
      refine wfits_ok hw h hT (by omega) (by omega) fun m' hk => ?_
      rw [if_pos (by rw [← hs]; exact hl)]
      exact hQ m' hk
  · refine .inr ⟨a, n, ha, hn, han, hl, fun m w x bw hw h Q hQ => ?_⟩
    refine wfits_ok hw h hT (by omega) (by omega) fun m' hk => ?_
    rw [if_neg (by omega)]
    exact hQ m' hk
theorem inv_any {D : Doc} {c : Nat} {T : List Bs} (hg : Good D c) (hT : T.length ≤ 4000000000000) (e : Ed) : ∃ (i j : Int) (t : Bs) (v : Int),
    (∀ (m : M) (d : Nat) (xt xp xu : AV) (bt bp bu : Option Nat), Wf m → DocAt m d D xt xp xu bt bp bu → ∀ Q : AV → M → Prop, (∀ m', Keep m m' (fun _ => False) → Q (.tuple [.agg [iv i, iv j, tv t], iv v]) m') → WpF Try.prog tb 15 [.ptr d 0, .agg (ecell e)] m Q) ∧
    (∀ (m : M) (w : Nat) (x : AV) (bw : Option Nat), Wf m → WAt m w (T ++ [D.txt]) x bw → ∀ Q : AV → M → Prop, (∀ m', Keep m m' (fun _ => False) → Q (.tuple [.agg [iv i, iv j, tv t], iv v]) m') → WpF Try.prog tb 20 [.ptr w 0, .agg (ecell e)] m Q) := by
  have hb := hg.big
  have hs := hg.size
  rcases all_any hg hT e with ⟨v, hv, hI, _, hF⟩ | ⟨a, n, ha, hn, han, hl, hF⟩
  · exact ⟨0, 0, [], v, fun m d xt xp xu bt bp bu hw h Q hQ => hI m d xt xp xu bt bp bu hw h Q hQ, fun m w x bw hw h Q hQ => winv_err hv hF hw h hQ⟩
  · refine ⟨a, e.text.length, (D.txt.drop a).take n, 0, fun m d xt xp xu bt bp bu hw h Q hQ => ?_, fun m w x bw hw h Q hQ => ?_⟩
    · unfold ecell
      rw [ha, hn]
      exact inverse_ok hw h hg han hl hQ
    · unfold ecell
      rw [ha, hn]
      exact winv_ok hF hT (by omega) (by omega) hw h hQ
theorem slice_any {D : Doc} {c : Nat} {T : List Bs} (hg : Good D c) (hT : T.length ≤ 4000000000000) (p q : Int) : ∃ (t : Bs) (v : Int),
    (∀ (m : M) (d : Nat) (xt xp xu : AV) (bt bp bu : Option Nat), Wf m → DocAt m d D xt xp xu bt bp bu → ∀ Q : AV → M → Prop, (∀ m', Keep m m' (fun _ => False) → Q (.tuple [tv t, iv v]) m') → WpF Try.prog tb 12 [.ptr d 0, iv p, iv q] m Q) ∧
    (∀ (m : M) (w : Nat) (x : AV) (bw : Option Nat), WAt m w (T ++ [D.txt]) x bw → WpF Try.prog tb 21 [.ptr w 0, iv p, iv q] m fun u m' => u = .tuple [tv t, iv v] ∧ m' = m) := by
  have hb := hg.big
  have hs := hg.size
  rcases any_case hb ⟨p, q, []⟩ with hbad | ⟨a, n, ha, hn, han, _⟩
  · exact ⟨[], 2, fun m d xt xp xu bt bp bu hw h Q hQ => slice_bad h hb hbad (hQ m (Keep.refl hw _)), fun m w x bw h => wslice_bad h hT (by omega) (by rw [← hs]; exact hbad)⟩
  · have ha : p = a := ha
    have hn : q = n := hn
    subst ha hn
    exact ⟨(D.txt.drop a).take n, 0, fun m d xt xp xu bt bp bu hw h Q hQ => slice_ok hw h hg han hQ, fun m w x bw h => wslice_ok h hT (by omega) (by omega)⟩

/-! ### A round -/
structure Ss (n0 : Nat) (m : M) (x : AV) (es : List Oq) (o : Option Nat) (d w : Nat) (D : Doc) (c : Nat) (T : List Bs) (dn : Nat) : Prop where
  ex : ∃ xt xp xu bt bp bu xw bw, DocAt m d D xt xp xu bt bp bu ∧ WAt m w (T ++ [D.txt]) xw bw ∧ (∀ b, own3 d bt bp bu b → n0 ≤ b ∧ ¬ ow w bw b) ∧ (∀ b, ow w bw b → n0 ≤ b)
  wf : Wf m
  os : OsAt m x es o
  good : Good D c
  nx : n0 ≤ m.next
  lo : ∀ b, o = some b → b < n0
  ch : ∃ t0, Ch t0 D.txt D.und T
  pc : D.pcs.length ≤ 1 + 2 * dn
theorem Ss.keep0 {n0 : Nat} {m m' : M} {x : AV} {es : List Oq} {o : Option Nat} {d w : Nat} {D : Doc} {c c' : Nat} {T : List Bs} {dn : Nat} (h : Ss n0 m x es o d w D c T dn) (hc : c ≤ c') (k : Keep m m' fun _ => False) : Ss n0 m' x es o d w D c' T dn := by
  obtain ⟨xt, xp, xu, bt, bp, bu, xw, bw, h1, h2, h3, h4⟩ := h.ex
  have := k.next
  have := h.nx
  exact ⟨⟨xt, xp, xu, bt, bp, bu, xw, bw, h1.keep0 h.wf k, h2.keep0 h.wf k, h3, h4⟩, k.wf, h.os.keep h.wf k fun _ _ h => h, h.good.mono hc, by omega, h.lo, h.ch, h.pc⟩
def Sl (fr : Fr) (x : AV) (d w k : Nat) : Prop := ev (tm 1) fr = x ∧ ev (tm 5) fr = .ptr d 0 ∧ ev (tm 7) fr = .ptr w 0 ∧ ev (tm 10) fr = iv k
noncomputable abbrev caseA : CC := .seq (.reg r6_16) (.seq (.reg r6_17) (.seq (.reg r6_18) (.cond (tm 94) (.reg r6_19) .skip)))
noncomputable abbrev caseB : CC := .seq (.reg r6_21) (.seq (.reg r6_22) (.seq (.reg r6_23) (.cond (tm 106) (.reg r6_24) .skip)))
noncomputable abbrev caseC : CC := .seq (.reg r6_26) (.seq (.reg r6_27) (.reg r6_28))
noncomputable abbrev caseD : CC := .seq (.reg r6_30) (.seq (.reg r6_31) (.reg r6_32))
def Po (n0 : Nat) (x : AV) (es : List Oq) (o : Option Nat) (d w k c tl dn : Nat) (fr1 : Fr) (m1 : M) : Prop :=
  Sl fr1 x d w k ∧ ev (tm 12) fr1 = .b true ∧ ∃ D' T' dn', ev (tm 9) fr1 = iv (dn' : Nat) ∧ Ss n0 m1 x es o d w D' (c + 1) T' dn' ∧ dn' ≤ dn + 1 ∧ T'.length ≤ tl + 1
theorem ow_next {m : M} {w : Nat} {bw bw' : Option Nat} (h : Fs m bw bw') {b : Nat} (hb : ow w bw' b) : ow w bw b ∨ m.next ≤ b := by
  rcases hb with hb | hb
  · exact .inl (.inl hb)
  · exact (h.own hb).imp .inr id
section
variable {n0 : Nat} {m : M} {x : AV} {es : List Oq} {o : Option Nat} {d w k c B : Nat} {D : Doc} {T : List Bs} {dn : Nat} {fr : Fr} {q : Oq} {xt xp xu xw : AV} {bt bp bu bw : Option Nat}
structure Pre (n0 : Nat) (m : M) (x : AV) (es : List Oq) (o : Option Nat) (d w k c B : Nat) (D : Doc) (T : List Bs) (dn : Nat) (fr : Fr) (q : Oq) (xt xp xu xw : AV) (bt bp bu bw : Option Nat) : Prop where
  st : Ss n0 m x es o d w D c T dn
  doc : DocAt m d D xt xp xu bt bp bu
  wd : WAt m w (T ++ [D.txt]) xw bw
  own : ∀ b, own3 d bt bp bu b → n0 ≤ b ∧ ¬ ow w bw b
  oww : ∀ b, ow w bw b → n0 ≤ b
  bB : At m B 46 true (ocell q)
  nB : ¬ own3 d bt bp bu B ∧ ¬ ow w bw B
  hc : c ≤ 3600000000000
  hdn : dn ≤ 3600000000000
  hT : T.length ≤ 3600000000000
  e1 : ev (tm 1) fr = x
  e5 : ev (tm 5) fr = .ptr d 0
  e7 : ev (tm 7) fr = .ptr w 0
  e9 : ev (tm 9) fr = iv dn
  e10 : ev (tm 10) fr = iv k
  e11 : ev (tm 11) fr = .ptr B 0
  e12 : ev (tm 12) fr = .b true
theorem edAt {m : M} {B : Nat} {q : Oq} (h : At m B 46 true (ocell q)) : m.rdN B 1 3 = some (ecell q.e) := by
  rw [h.rdN (show 1 + 3 ≤ (ocell q).length from Nat.le_refl _)]; rfl
set_option maxHeartbeats 2000000 in
theorem scr_A (h : Pre n0 m x es o d w k c B D T dn fr q xt xp xu xw bt bp bu bw) : WpC Try.prog tb caseA fr m fun y fr1 m1 => y = .normal ∧ Po n0 x es o d w k c T.length dn fr1 m1 := by
  obtain ⟨⟨_, hw, hos, hg, hnx, hlo, ⟨t0, hch⟩, hpc⟩, hd, hwd, hown, howw, hB, ⟨hB1, hB2⟩, hc, hdn, hT, e1, e5, e7, e9, e10, e11, e12⟩ := h
  have hs := hg.size
  have hbig := hg.big
  have hr := edAt hB
  refine C_sr fun Q' hQ => ?_
  rcases all_any (T := T) hg (by omega) q.e with ⟨v, hv, _, hA, hF⟩ | ⟨a, n, ha, hn, han, hl, hF⟩
  · simp only [r6_16, e5, e11, hr, WpO_op, WpO_call, WpON_some, o_mv, o_loadN, o_fa, v_elPtr, v_ob, v_fa, ev_tm, evs_cons, evs_nil, putD_some, reduceIte, Nat.reduceEqDiff, Nat.zero_add]
    refine WpOC.to (hA m d xt xp xu bt bp bu hw hd _ fun m1 hk1 => ?_)
    have hw1 := hk1.wf
    have hr1 := edAt (hB.keep hw hk1 fun h => h)
    simp only [WpO_op, WpO_nil, WpON_some, o_mv, ev_tm, putD_some, reduceIte, Nat.reduceEqDiff]
    refine hQ _ _ (C_sr fun Q' hQ => ?_)
    simp only [r6_17, e7, e11, hr1, WpO_op, WpO_call, WpON_some, o_mv, o_loadN, o_fa, v_elPtr, v_ob, v_fa, ev_tm, evs_cons, evs_nil, putD_some, reduceIte, Nat.reduceEqDiff, Nat.zero_add]
    refine WpOC.to (wapply_err hv hF hw1 (hwd.keep0 hw hk1) fun m2 hk2 => ?_)
    simp only [WpO_op, WpO_nil, WpON_some, o_mv, o_eq, v_rto, b_eq, ev_tm, putD_some, reduceIte, Nat.reduceEqDiff, decide_true]
    refine hQ _ _ (C_sr fun Q' hQ => ?_)
    simp only [r6_18, show (v = 0) = False from eq_false hv, WpO_op, WpO_nil, WpON_some, o_mv, o_eq, v_rto, b_eq, ev_tm, ev_cst, putD_some, reduceIte, Nat.reduceEqDiff, decide_false]
    refine hQ _ _ (WpC_cond (t := false) ?_ (WpC_skip ?_))
    · simp only [ev_tm, reduceIte, Nat.reduceEqDiff]
    refine ⟨rfl, ⟨?_, ?_, ?_, ?_⟩, ?_, D, T, dn, ?_, (show Ss n0 m x es o d w D c T dn from ⟨⟨xt, xp, xu, bt, bp, bu, xw, bw, hd, hwd, hown, howw⟩, hw, hos, hg, hnx, hlo, ⟨t0, hch⟩, hpc⟩).keep0 (by omega) (hk1.trans hk2 fun _ _ h => h), by omega, by omega⟩
    all_goals simp only [e1, e5, e7, e9, e10, ev_tm, reduceIte, Nat.reduceEqDiff]
  · have hec : ecell q.e = [iv (a : Int), iv (n : Int), tv q.e.text] := by unfold ecell; rw [ha, hn]
    rw [hec] at hr
    simp only [r6_16, e5, e11, hr, WpO_op, WpO_call, WpON_some, o_mv, o_loadN, o_fa, v_elPtr, v_ob, v_fa, ev_tm, evs_cons, evs_nil, putD_some, reduceIte, Nat.reduceEqDiff, Nat.zero_add]
    refine WpOC.to (apply_ok hw hd hg (by omega) han hl fun m1 xt1 xp1 xu1 bt1 bp1 bu1 hd1 hk1 f1 f2 f3 => ?_)
    have hw1 := hk1.wf
    have hn1 := hk1.next
    have hB' := hB.keep hw hk1 hB1
    have hr1 := edAt hB'
    rw [hec] at hr1
    have hwd1 := hwd.keep hw hk1 fun b hb h => (hown b h).2 hb
    simp only [WpO_op, WpO_nil, WpON_some, o_mv, ev_tm, putD_some, reduceIte, Nat.reduceEqDiff]
    refine hQ _ _ (C_sr fun Q' hQ => ?_)
    simp only [r6_17, e7, e11, hr1, WpO_op, WpO_call, WpON_some, o_mv, o_loadN, o_fa, v_elPtr, v_ob, v_fa, ev_tm, evs_cons, evs_nil, putD_some, reduceIte, Nat.reduceEqDiff, Nat.zero_add]
    refine WpOC.to (wapply_ok hF (by omega) (by omega) (by omega) (by omega) hw1 hwd1 fun m2 xw2 bw2 hwd2 hk2 f4 => ?_)
    simp only [WpO_op, WpO_nil, WpON_some, o_mv, o_eq, v_rto, b_eq, ev_tm, putD_some, reduceIte, Nat.reduceEqDiff, decide_true]
    refine hQ _ _ (C_sr fun Q' hQ => ?_)
    simp only [r6_18, WpO_op, WpO_nil, WpON_some, o_mv, o_eq, v_rto, b_eq, ev_tm, ev_cst, putD_some, reduceIte, Nat.reduceEqDiff, decide_true]
    refine hQ _ _ (WpC_cond (t := true) ?_ (C_reg fun Q' hQ => ?_))
    · simp only [ev_tm, reduceIte, Nat.reduceEqDiff]
    have hC : (dn : Int) + 1 = ((dn + 1 : Nat) : Int) := by omega
    simp only [r6_19, e9, b_add 3 (show -9223372036854775808 ≤ (dn : Int) + 1 by omega) (show (dn : Int) + 1 ≤ 9223372036854775807 by omega), hC, WpO_op, WpO_nil, WpON_some, o_mv, o_add, v_rto, ev_tm, ev_cst, putD_some, reduceIte, Nat.reduceEqDiff]
    have htx := ap_txt hg han q.e.text
    rw [← htx] at hwd2
    have hown1 : ∀ b, own3 d bt1 bp1 bu1 b → n0 ≤ b ∧ ¬ ow w bw b := fun b hb => by
      rcases own_next f1 f2 f3 hb with h | h
      · exact hown b h
      · exact ⟨by omega, fun h' => by have := hwd.lt hw h'; omega⟩
    have hd2 := hd1.keep3 hw1 hk2 fun b hb h => (hown1 b hb).2 h
    have hos2 := (hos.keep hw hk1 fun b hb h => by have := (hown b h).1; have := hlo b hb; omega).keep hw1 hk2 fun b hb h => by have := howw b h; have := hlo b hb; omega
    have hcnt := ch_count hg han q.e.text
    refine hQ _ _ ⟨rfl, ⟨?_, ?_, ?_, ?_⟩, ?_, apD D a n q.e.text, T ++ [D.txt], dn + 1, ?_, ⟨⟨xt1, xp1, xu1, bt1, bp1, bu1, xw2, bw2, hd2, hwd2, fun b hb => ⟨(hown1 b hb).1, fun h' => ?_⟩, fun b hb => ?_⟩, hk2.wf, hos2, ap_good hg han hl, by have := hk2.next; omega, hlo, ⟨t0, ?_⟩, ?_⟩, by omega, by simp⟩
    any_goals simp only [e1, e5, e7, e9, e10, ev_tm, reduceIte, Nat.reduceEqDiff]
    · rcases ow_next f4 h' with h | h
      · exact (hown1 b hb).2 h
      · have := hd1.lt hw1 hb; omega
    · rcases ow_next f4 hb with h | h
      · exact howw b h
      · omega
    · have hback := back_txt D.txt q.e.text (a := a) (n := n) (by omega)
      rw [← htx] at hback
      have hg1 : Good (apD D a n q.e.text) (c + 1) := ap_good hg han hl
      have hs1 : (apD D a n q.e.text).size = D.size - n + q.e.text.length := ap_size
      have hs1' := hg1.size
      have hold : ((D.txt.drop a).take n).length = n := by rw [List.length_take, List.length_drop]; omega
      exact .snoc hch (by omega) (by omega) hback
    · show (chD D a n q.e.text).pcs.length ≤ _
      omega
set_option maxHeartbeats 2000000 in
theorem scr_B (h : Pre n0 m x es o d w k c B D T dn fr q xt xp xu xw bt bp bu bw) : WpC Try.prog tb caseB fr m fun y fr1 m1 => y = .normal ∧ Po n0 x es o d w k c T.length dn fr1 m1 := by
  obtain ⟨⟨_, hw, hos, hg, hnx, hlo, ⟨t0, hch⟩, hpc⟩, hd, hwd, hown, howw, hB, ⟨hB1, hB2⟩, hc, hdn, hT, e1, e5, e7, e9, e10, e11, e12⟩ := h
  have hs := hg.size
  have hbig := hg.big
  refine C_sr fun Q' hQ => ?_
  rcases List.eq_nil_or_concat T with rfl | ⟨T0, was, hTc⟩
  · obtain ⟨hu, _⟩ := hch.empty
    simp only [r6_21, e5, WpO_op, WpO_call, WpON_some, o_mv, ev_tm, evs_cons, evs_nil, putD_some, reduceIte]
    refine WpOC.to ((undo_none hd hu).mono ?_)
    rintro v m1 ⟨rfl, rfl⟩
    simp only [WpO_op, WpO_nil, WpON_some, o_mv, ev_tm, putD_some, reduceIte, Nat.reduceEqDiff]
    refine hQ _ _ (C_sr fun Q' hQ => ?_)
    simp only [r6_22, e7, WpO_op, WpO_call, WpON_some, o_mv, ev_tm, evs_cons, evs_nil, putD_some, reduceIte, Nat.reduceEqDiff]
    refine WpOC.to ((wundo_none hwd).mono ?_)
    rintro v m2 ⟨rfl, rfl⟩
    simp only [WpO_op, WpO_nil, WpON_some, o_mv, o_eq, v_rto, b_eq, ev_tm, putD_some, reduceIte, Nat.reduceEqDiff, decide_true]
    refine hQ _ _ (C_sr fun Q' hQ => ?_)
    simp only [r6_23, show ((11 : Int) = 0) = False from eq_false (by omega), WpO_op, WpO_nil, WpON_some, o_mv, o_eq, v_rto, b_eq, ev_tm, ev_cst, putD_some, reduceIte, Nat.reduceEqDiff, decide_false]
    refine hQ _ _ (WpC_cond (t := false) ?_ (WpC_skip ?_))
    · simp only [ev_tm, reduceIte, Nat.reduceEqDiff]
    refine ⟨rfl, ⟨?_, ?_, ?_, ?_⟩, ?_, D, [], dn, ?_, ⟨⟨xt, xp, xu, bt, bp, bu, xw, bw, hd, hwd, hown, howw⟩, hw, hos, hg.mono (by omega), hnx, hlo, ⟨t0, hch⟩, hpc⟩, by omega, by omega⟩
    all_goals simp only [e1, e5, e7, e9, e10, ev_tm, reduceIte, Nat.reduceEqDiff]
  · have hTc : T = T0 ++ [was] := by rw [hTc]; simp
    subst hTc
    obtain ⟨u, a, n, t, hu, hch', h1, h2, h3⟩ := hch.last
    have hcnt := ch_count hg (show a + n ≤ D.size by omega) t
    simp only [r6_21, e5, WpO_op, WpO_call, WpON_some, o_mv, ev_tm, evs_cons, evs_nil, putD_some, reduceIte]
    refine WpOC.to (undo_ok hw hd hg (by omega) hu (by omega) (by omega) fun m1 xt1 xp1 xu1 bt1 bp1 hd1 hk1 f1 f2 => ?_)
    have hg4 : Good { chD D a n t with und := u } (c + 1) := (ch_good hg (by omega) (by omega)).und (by have := hg.nu; rw [hu] at this; simp at this; omega)
    have htx4 : Doc.txt { chD D a n t with und := u } = was := by
      have e : (chD D a n t).txt = D.txt.take a ++ (t ++ D.txt.drop (a + n)) := ch_txt hg (by omega) t
      rw [h3] at e
      exact e
    have hu4 : Doc.und { chD D a n t with und := u } = u := rfl
    have hp4 : (Doc.pcs { chD D a n t with und := u }).length ≤ D.pcs.length + 2 := hcnt
    generalize (⟨(chD D a n t).texts, (chD D a n t).pcs, (chD D a n t).size, u⟩ : Doc) = D4 at hd1 hg4 htx4 hu4 hp4
    have hw1 := hk1.wf
    have hn1 := hk1.next
    have hwd1 := hwd.keep hw hk1 fun b hb h => (hown b h).2 hb
    simp only [WpO_op, WpO_nil, WpON_some, o_mv, ev_tm, putD_some, reduceIte, Nat.reduceEqDiff]
    refine hQ _ _ (C_sr fun Q' hQ => ?_)
    simp only [r6_22, e7, WpO_op, WpO_call, WpON_some, o_mv, ev_tm, evs_cons, evs_nil, putD_some, reduceIte, Nat.reduceEqDiff]
    refine WpOC.to (wundo_ok (by omega) (by simp) hw1 hwd1 fun m2 xw2 hwd2 hk2 => ?_)
    rw [← htx4] at hwd2
    simp only [WpO_op, WpO_nil, WpON_some, o_mv, o_eq, v_rto, b_eq, ev_tm, putD_some, reduceIte, Nat.reduceEqDiff, decide_true]
    refine hQ _ _ (C_sr fun Q' hQ => ?_)
    simp only [r6_23, WpO_op, WpO_nil, WpON_some, o_mv, o_eq, v_rto, b_eq, ev_tm, ev_cst, putD_some, reduceIte, Nat.reduceEqDiff, decide_true]
    refine hQ _ _ (WpC_cond (t := true) ?_ (C_reg fun Q' hQ => ?_))
    · simp only [ev_tm, reduceIte, Nat.reduceEqDiff]
    have hC : (dn : Int) + 1 = ((dn + 1 : Nat) : Int) := by omega
    simp only [r6_24, e9, b_add 3 (show -9223372036854775808 ≤ (dn : Int) + 1 by omega) (show (dn : Int) + 1 ≤ 9223372036854775807 by omega), hC, WpO_op, WpO_nil, WpON_some, o_mv, o_add, v_rto, ev_tm, ev_cst, putD_some, reduceIte, Nat.reduceEqDiff]
    have hown1 : ∀ b, own3 d bt1 bp1 bu b → n0 ≤ b ∧ ¬ ow w bw b := fun b hb => by
      rcases own_next f1 f2 (.refl _ _) hb with h | h
      · exact hown b h
      · exact ⟨by omega, fun h' => by have := hwd.lt hw h'; omega⟩
    have hd2 := hd1.keep3 hw1 hk2 fun b hb h => (hown1 b hb).2 (.inl h)
    have hos2 := (hos.keep hw hk1 fun b hb h => by have := (hown b h).1; have := hlo b hb; omega).keep hw1 hk2 fun b hb h => by have := howw b (.inl h); have := hlo b hb; omega
    refine hQ _ _ ⟨rfl, ⟨?_, ?_, ?_, ?_⟩, ?_, D4, T0, dn + 1, ?_, ⟨⟨xt1, xp1, xu1, bt1, bp1, bu, xw2, bw, hd2, hwd2, hown1, howw⟩, hk2.wf, hos2, hg4, by have := hk2.next; omega, hlo, ⟨t0, by rw [htx4, hu4]; exact hch'⟩, by omega⟩, by omega, by simp; omega⟩
    all_goals simp only [e1, e5, e7, e9, e10, ev_tm, reduceIte, Nat.reduceEqDiff]
set_option maxHeartbeats 2000000 in
theorem scr_C (h : Pre n0 m x es o d w k c B D T dn fr q xt xp xu xw bt bp bu bw) : WpC Try.prog tb caseC fr m fun y fr1 m1 => y = .normal ∧ Po n0 x es o d w k c T.length dn fr1 m1 := by
  obtain ⟨hst, hd, hwd, hown, howw, hB, ⟨hB1, hB2⟩, hc, hdn, hT, e1, e5, e7, e9, e10, e11, e12⟩ := h
  have hw := hst.wf
  have hr := edAt hB
  obtain ⟨i, j, t, v, hI, hW⟩ := inv_any (T := T) hst.good (by omega) q.e
  refine C_sr fun Q' hQ => ?_
  simp only [r6_26, e5, e11, hr, WpO_op, WpO_call, WpON_some, o_mv, o_loadN, o_fa, v_elPtr, v_ob, v_fa, ev_tm, evs_cons, evs_nil, putD_some, reduceIte, Nat.reduceEqDiff, Nat.zero_add]
  refine WpOC.to (hI m d xt xp xu bt bp bu hw hd _ fun m1 hk1 => ?_)
  have hw1 := hk1.wf
  have hm1 : At (m1.addZ 31 3 [iv 0, iv 0, tv []]) m1.next 31 true [iv 0, iv 0, tv []] := At.addZ rfl
  simp only [hm1.wr (i := 0) (vs := [iv i, iv j, tv t]) (by show 0 + 3 ≤ 3; omega), WpO_op, WpO_nil, WpON_some, o_mv, o_alloc, o_store, o_ext, v_elPtr, v_elTup, v_ob, v_rto, cells_agg, ev_tm, putD_none, putD_some, bc_true, nbeq, reduceIte, Nat.reduceEqDiff, Nat.reduceAdd, List.length_cons, List.length_nil, Nat.zero_add, decide_true, List.getElem?_cons_succ, List.getElem?_cons_zero]
  obtain ⟨hA, hk2⟩ := Keep.at_new (m := m1) (d := d) (e := 31) (z := [iv 0, iv 0, tv []]) (l := [iv i, iv j, tv t]) hw1 rfl
  change At ((m1.addZ 31 3 [iv 0, iv 0, tv []]).upd m1.next 0 [iv i, iv j, tv t]) _ _ _ _ at hA
  change Keep m1 ((m1.addZ 31 3 [iv 0, iv 0, tv []]).upd m1.next 0 [iv i, iv j, tv t]) _ at hk2
  refine hQ _ _ (C_sr fun Q' hQ => ?_)
  generalize (m1.addZ 31 3 [iv 0, iv 0, tv []]).upd m1.next 0 [iv i, iv j, tv t] = m2 at hA hk2 ⊢
  generalize m1.next = A1 at hA
  have hk02 := hk1.trans hk2 fun _ _ h => h
  have hw2 := hk02.wf
  have hr2 := edAt (hB.keep hw hk02 fun h => h)
  simp only [r6_27, e7, e11, hr2, WpO_op, WpO_call, WpON_some, o_mv, o_loadN, o_fa, v_elPtr, v_ob, v_fa, ev_tm, evs_cons, evs_nil, putD_some, reduceIte, Nat.reduceEqDiff, Nat.zero_add]
  refine WpOC.to (hW m2 w xw bw hw2 (hwd.keep0 hw hk02) _ fun m3 hk3 => ?_)
  have hw3 := hk3.wf
  have hA := hA.keep hw2 hk3 fun h => h
  have hm3 : At (m3.addZ 31 3 [iv 0, iv 0, tv []]) m3.next 31 true [iv 0, iv 0, tv []] := At.addZ rfl
  simp only [hm3.wr (i := 0) (vs := [iv i, iv j, tv t]) (by show 0 + 3 ≤ 3; omega), WpO_op, WpO_nil, WpON_some, o_mv, o_alloc, o_store, o_ext, v_elPtr, v_elTup, v_ob, v_rto, cells_agg, ev_tm, putD_none, putD_some, bc_true, nbeq, reduceIte, Nat.reduceEqDiff, Nat.reduceAdd, List.length_cons, List.length_nil, Nat.zero_add, decide_true, List.getElem?_cons_succ, List.getElem?_cons_zero]
  obtain ⟨hA2, hk4⟩ := Keep.at_new (m := m3) (d := d) (e := 31) (z := [iv 0, iv 0, tv []]) (l := [iv i, iv j, tv t]) hw3 rfl
  change At ((m3.addZ 31 3 [iv 0, iv 0, tv []]).upd m3.next 0 [iv i, iv j, tv t]) _ _ _ _ at hA2
  change Keep m3 ((m3.addZ 31 3 [iv 0, iv 0, tv []]).upd m3.next 0 [iv i, iv j, tv t]) _ at hk4
  refine hQ _ _ (C_reg fun Q' hQ => ?_)
  generalize (m3.addZ 31 3 [iv 0, iv 0, tv []]).upd m3.next 0 [iv i, iv j, tv t] = m4 at hA2 hk4 ⊢
  generalize m3.next = A2 at hA2
  have hA := hA.keep hw3 hk4 fun h => h
  simp only [r6_28, hA.rdN (i := 0) (n := 3) (show 0 + 3 ≤ 3 by omega), hA2.rdN (i := 0) (n := 3) (show 0 + 3 ≤ 3 by omega), b_edq, WpO_op, WpO_opG, WpO_nil, WpON_some, WpOG_true, o_mv, o_pick, o_loadN, o_eq, v_elB, v_elPtr, v_ob, v_rto, b_eq, ev_tm, ev_cst, putD_some, want_b, bc_true, reduceIte, Nat.reduceEqDiff, decide_true, Bool.not_true, List.take_succ_cons, List.drop_zero, List.take_nil]
  refine hQ _ _ ⟨rfl, ⟨?_, ?_, ?_, ?_⟩, ?_, D, T, dn, ?_, hst.keep0 (by omega) ((hk02.trans hk3 fun _ _ h => h).trans hk4 fun _ _ h => h), by omega, by omega⟩
  all_goals simp only [e1, e5, e7, e9, e10, ev_tm, reduceIte, Nat.reduceEqDiff]
set_option maxHeartbeats 2000000 in
theorem scr_D (h : Pre n0 m x es o d w k c B D T dn fr q xt xp xu xw bt bp bu bw) : WpC Try.prog tb caseD fr m fun y fr1 m1 => y = .normal ∧ Po n0 x es o d w k c T.length dn fr1 m1 := by
  obtain ⟨hst, hd, hwd, hown, howw, hB, ⟨hB1, hB2⟩, hc, hdn, hT, e1, e5, e7, e9, e10, e11, e12⟩ := h
  have hw := hst.wf
  have h1 : ∀ {m'}, At m' B 46 true (ocell q) → m'.rd B 1 = some (iv q.e.at') := fun h => h.rd 1
  have h2 : ∀ {m'}, At m' B 46 true (ocell q) → m'.rd B 2 = some (iv q.e.n) := fun h => h.rd 2
  obtain ⟨t, v, hI, hW⟩ := slice_any (T := T) hst.good (by omega) q.e.at' q.e.n
  refine C_sr fun Q' hQ => ?_
  simp only [r6_30, e5, e11, h1 hB, h2 hB, WpO_op, WpO_call, WpON_some, o_mv, o_load, o_fa, v_elPtr, v_rto, v_fa, ev_tm, evs_cons, evs_nil, putD_some, reduceIte, Nat.reduceEqDiff, Nat.reduceAdd, Nat.zero_add]
  refine WpOC.to (hI m d xt xp xu bt bp bu hw hd _ fun m1 hk1 => ?_)
  have hw1 := hk1.wf
  have hB' := hB.keep hw hk1 fun h => h
  simp only [WpO_op, WpO_nil, WpON_some, o_mv, o_ext, v_elTup, v_rto, ev_tm, putD_some, reduceIte, Nat.reduceEqDiff, List.getElem?_cons_succ, List.getElem?_cons_zero]
  refine hQ _ _ (C_sr fun Q' hQ => ?_)
  simp only [r6_31, e7, e11, h1 hB', h2 hB', WpO_op, WpO_call, WpON_some, o_mv, o_load, o_fa, v_elPtr, v_rto, v_fa, ev_tm, evs_cons, evs_nil, putD_some, reduceIte, Nat.reduceEqDiff, Nat.reduceAdd, Nat.zero_add]
  refine WpOC.to ((hW m1 w xw bw (hwd.keep0 hw hk1)).mono ?_)
  rintro u m2 ⟨rfl, rfl⟩
  simp only [WpO_op, WpO_nil, WpON_some, o_mv, o_ext, v_elTup, v_rto, ev_tm, putD_some, reduceIte, Nat.reduceEqDiff, List.getElem?_cons_succ, List.getElem?_cons_zero]
  refine hQ _ _ (C_reg fun Q' hQ => ?_)
  simp only [r6_32, WpO_op, WpO_opG, WpO_nil, WpON_some, WpOG_true, o_mv, o_pick, o_eq, v_elB, v_rto, b_eq, bs_eq, ev_tm, ev_cst, putD_some, want_b, bc_true, reduceIte, Nat.reduceEqDiff, decide_true, Bool.not_true]
  refine hQ _ _ ⟨rfl, ⟨?_, ?_, ?_, ?_⟩, ?_, D, T, dn, ?_, hst.keep0 (by omega) hk1, by omega, by omega⟩
  all_goals simp only [e1, e5, e7, e9, e10, ev_tm, reduceIte, Nat.reduceEqDiff]
set_option maxHeartbeats 2000000 in
theorem scr_E (h : Pre n0 m x es o d w k c B D T dn fr q xt xp xu xw bt bp bu bw) : WpC Try.prog tb (.reg r6_14) fr m fun y fr1 m1 => y = .normal ∧ Po n0 x es o d w k c T.length dn fr1 m1 := by
  obtain ⟨hst, hd, hwd, hown, howw, hB, ⟨hB1, hB2⟩, hc, hdn, hT, e1, e5, e7, e9, e10, e11, e12⟩ := h
  have hw := hst.wf
  have hs := hst.good.size
  obtain ⟨t0, hch⟩ := hst.ch
  have hlen := hch.len
  refine C_reg fun Q' hQ => ?_
  simp only [r6_14, e5, WpO_op, WpO_call, WpON_some, o_mv, ev_tm, evs_cons, evs_nil, putD_some, reduceIte]
  refine WpOC.to (text_spec hw hd hst.good fun m1 hk1 => ?_)
  have hwd1 := hwd.keep0 hw hk1
  have hd1 := hd.keep0 hw hk1
  simp only [e7, WpO_op, WpO_call, WpON_some, o_mv, ev_tm, evs_cons, evs_nil, putD_some, reduceIte, Nat.reduceEqDiff]
  refine WpOC.to ((wtext_spec hwd1 (by omega)).mono ?_)
  rintro u m2 ⟨rfl, rfl⟩
  simp only [e5, WpO_op, WpO_opG, WpO_callW, WpOCG_true, WpON_some, WpOG_true, o_mv, o_eq, v_rto, bs_eq, ev_tm, evs_cons, evs_nil, putD_some, want_b, bc_true, reduceIte, Nat.reduceEqDiff, decide_true, Bool.not_true]
  refine WpOC.to ((len_spec hd1.doc).mono ?_)
  rintro u m3 ⟨rfl, rfl⟩
  simp only [e7, WpO_opG, WpO_callW, WpOCG_true, WpON_some, WpOG_true, o_mv, ev_tm, evs_cons, evs_nil, putD_some, want_b, bc_true, reduceIte, Nat.reduceEqDiff, Bool.not_true]
  refine WpOC.to ((wtext_spec hwd1 (by omega)).mono ?_)
  rintro u m4 ⟨rfl, rfl⟩
  simp only [e5, hs, WpO_op, WpO_opG, WpO_callW, WpOCG_true, WpON_some, WpOG_true, o_mv, o_pick, o_eq, o_len, v_elB, v_ob, v_rto, b_eq, len_tv, ev_tm, ev_cst, evs_cons, evs_nil, putD_some, want_b, bc_true, reduceIte, Nat.reduceEqDiff, decide_true, Bool.not_true]
  refine WpOC.to ((edits_spec hd1).mono ?_)
  rintro u m5 ⟨rfl, rfl⟩
  simp only [e7, hlen, WpO_opG, WpO_callW, WpOCG_true, WpON_some, WpOG_true, o_mv, ev_tm, evs_cons, evs_nil, putD_some, want_b, bc_true, reduceIte, Nat.reduceEqDiff, Bool.not_true]
  refine WpOC.to ((wedits_spec hwd1 (by omega)).mono ?_)
  rintro u m6 ⟨rfl, rfl⟩
  simp only [WpO_op, WpO_opG, WpO_nil, WpON_some, WpOG_true, o_mv, o_pick, o_eq, v_elB, v_rto, b_eq, ev_tm, ev_cst, putD_some, want_b, bc_true, reduceIte, Nat.reduceEqDiff, decide_true, Bool.not_true]
  refine hQ _ _ ⟨rfl, ⟨?_, ?_, ?_, ?_⟩, ?_, D, T, dn, ?_, hst.keep0 (by omega) hk1, by omega, by omega⟩
  all_goals simp only [e1, e5, e7, e9, e10, ev_tm, reduceIte, Nat.reduceEqDiff]
end
section
variable {n0 : Nat} {m : M} {x : AV} {es : List Oq} {o : Option Nat} {d w k c : Nat} {D : Doc} {T : List Bs} {dn : Nat} {fr : Fr} {q : Oq}
set_option maxHeartbeats 4000000 in
theorem scr_body (hst : Ss n0 m x es o d w D c T dn) (hc : c ≤ 3600000000000) (hdn : dn ≤ 3600000000000) (hT : T.length ≤ 3600000000000) (he : es[k]? = some q)
    (e1 : ev (tm 1) fr = x) (e5 : ev (tm 5) fr = .ptr d 0) (e7 : ev (tm 7) fr = .ptr w 0) (e9 : ev (tm 9) fr = iv dn) (e10 : ev (tm 10) fr = iv k) :
    WpC Try.prog tb (.block 1 (.seq (.reg r6_11) (.seq (.reg r6_12) (.seq (.seq (.reg r6_13) (.block 2 (.seq (.reg r6_15) (.cond (tm 81) caseA (.seq (.reg r6_20) (.cond (tm 97) caseB (.seq (.reg r6_25) (.cond (tm 109) caseC (.seq (.reg r6_29) (.cond (tm 133) caseD (.reg r6_14))))))))))) (.seq (.reg r6_33) (.cond (tm 188) (.seq (.reg r6_34) .ret) .skip)))))) fr m fun y fr1 m1 =>
      y = .normal ∧ Po n0 x es o d w k c T.length dn fr1 m1 := by
  obtain ⟨xt, xp, xu, bt, bp, bu, xw, bw, hd, hwd, hown, howw⟩ := hst.ex
  have hw := hst.wf
  obtain ⟨b, cap, lim, hx, hlt, hrd⟩ := hst.os.elem he
  refine WpC_block (C_sr fun Q' hQ => ?_)
  have hm1 : At (m.addZ 46 4 [iv 0, iv 0, iv 0, tv []]) m.next 46 true [iv 0, iv 0, iv 0, tv []] := At.addZ rfl
  simp only [r6_11, e1, e10, hx, v_iaS 4 b 0 es.length cap lim hlt, hrd, hm1.wr (show 0 + (ocell q).length ≤ 4 from Nat.le_refl _), show (ocell q).length = 4 from rfl, WpO_op, WpO_nil, WpON_some, o_mv, o_alloc, o_loadN, o_store, o_iaS, v_elPtr, v_ob, cells_agg, ev_tm, putD_none, putD_some, bc_true, nbeq, reduceIte, Nat.reduceEqDiff, Nat.zero_add, decide_true]
  obtain ⟨hB, hk2⟩ := Keep.at_new (m := m) (d := d) (e := 46) (z := [iv 0, iv 0, iv 0, tv []]) (l := ocell q) hw rfl
  rw [show (ocell q).length = 4 from rfl] at hB hk2
  refine hQ _ _ (C_sr fun Q' hQ => ?_)
  generalize (m.addZ 46 4 [iv 0, iv 0, iv 0, tv []]).upd m.next 0 (ocell q) = m1 at hB hk2 ⊢
  have hB1 : ¬ own3 d bt bp bu m.next := fun h => by have := hd.lt hw h; omega
  have hB2 : ¬ ow w bw m.next := fun h => by have := hwd.lt hw h; omega
  generalize m.next = B at hB hB1 hB2 ⊢
  have hst1 := hst.keep0 (Nat.le_refl _) hk2
  have hd1 := hd.keep0 hw hk2
  have hwd1 := hwd.keep0 hw hk2
  have h0 : m1.rd B 0 = some (iv q.kind) := hB.rd 0
  simp only [r6_12, WpO_op, WpO_nil, WpON_some, o_mv, ev_cst, putD_some]
  refine hQ _ _ (WpC_seq ((C_sr (Q := fun y fr1 m1 => y = .normal ∧ Po n0 x es o d w k c T.length dn fr1 m1) fun Q' hQ => ?_).mono ?_))
  · simp only [r6_13, h0, WpO_op, WpO_nil, WpON_some, o_load, o_fa, v_elPtr, v_rto, v_fa, ev_tm, putD_some, reduceIte, Nat.reduceEqDiff, Nat.zero_add]
    refine hQ _ _ (WpC_block (C_sr fun Q' hQ => ?_))
    have fin : ∀ {cc : CC} {f : Fr} {mm : M}, WpC Try.prog tb cc f mm (fun y fr1 m1 => y = .normal ∧ Po n0 x es o d w k c T.length dn fr1 m1) → WpC Try.prog tb cc f mm fun x_1 fr1 m1 => match x_1 with | .exit i => if i = 2 then X.normal = X.normal ∧ Po n0 x es o d w k c T.length dn fr1 m1 else X.exit i = X.normal ∧ Po n0 x es o d w k c T.length dn fr1 m1 | x_2 => x_2 = X.normal ∧ Po n0 x es o d w k c T.length dn fr1 m1 := by
      intro cc f mm h
      refine h.mono ?_
      rintro y f1 m1 ⟨rfl, h⟩
      exact ⟨rfl, h⟩
    by_cases k1 : q.kind = 1
    · simp only [r6_15, k1, WpO_op, WpO_nil, WpON_some, o_mv, o_eq, v_rto, b_eq, ev_tm, ev_cst, putD_some, reduceIte, Nat.reduceEqDiff, decide_true]
      refine hQ _ _ (WpC_cond (t := true) ?_ ?_)
      · simp only [ev_tm, reduceIte, Nat.reduceEqDiff]
      refine fin (scr_A (q := q) (B := B) ⟨hst1, hd1, hwd1, hown, howw, hB, ⟨hB1, hB2⟩, hc, hdn, hT, ?_, ?_, ?_, ?_, ?_, ?_, ?_⟩)
      all_goals simp only [e1, e5, e7, e9, e10, hx, ev_tm, reduceIte, Nat.reduceEqDiff]
    simp only [r6_15, show (q.kind = 1) = False from eq_false k1, WpO_op, WpO_nil, WpON_some, o_mv, o_eq, v_rto, b_eq, ev_tm, ev_cst, putD_some, reduceIte, Nat.reduceEqDiff, decide_false]
    refine hQ _ _ (WpC_cond (t := false) ?_ (C_sr fun Q' hQ => ?_))
    · simp only [ev_tm, reduceIte, Nat.reduceEqDiff]
    by_cases k2 : q.kind = 2
    · simp only [r6_20, k2, WpO_op, WpO_nil, WpON_some, o_mv, o_eq, v_rto, b_eq, ev_tm, ev_cst, putD_some, reduceIte, Nat.reduceEqDiff, decide_true]
      refine hQ _ _ (WpC_cond (t := true) ?_ ?_)
      · simp only [ev_tm, reduceIte, Nat.reduceEqDiff]
      refine fin (scr_B (q := q) (B := B) ⟨hst1, hd1, hwd1, hown, howw, hB, ⟨hB1, hB2⟩, hc, hdn, hT, ?_, ?_, ?_, ?_, ?_, ?_, ?_⟩)
      all_goals simp only [e1, e5, e7, e9, e10, hx, ev_tm, reduceIte, Nat.reduceEqDiff]
    simp only [r6_20, show (q.kind = 2) = False from eq_false k2, WpO_op, WpO_nil, WpON_some, o_mv, o_eq, v_rto, b_eq, ev_tm, ev_cst, putD_some, reduceIte, Nat.reduceEqDiff, decide_false]
    refine hQ _ _ (WpC_cond (t := false) ?_ (C_sr fun Q' hQ => ?_))
    · simp only [ev_tm, reduceIte, Nat.reduceEqDiff]
    by_cases k3 : q.kind = 3
    · simp only [r6_25, k3, WpO_op, WpO_nil, WpON_some, o_mv, o_eq, v_rto, b_eq, ev_tm, ev_cst, putD_some, reduceIte, Nat.reduceEqDiff, decide_true]
      refine hQ _ _ (WpC_cond (t := true) ?_ ?_)
      · simp only [ev_tm, reduceIte, Nat.reduceEqDiff]
      refine fin (scr_C (q := q) (B := B) ⟨hst1, hd1, hwd1, hown, howw, hB, ⟨hB1, hB2⟩, hc, hdn, hT, ?_, ?_, ?_, ?_, ?_, ?_, ?_⟩)
      all_goals simp only [e1, e5, e7, e9, e10, hx, ev_tm, reduceIte, Nat.reduceEqDiff]
    simp only [r6_25, show (q.kind = 3) = False from eq_false k3, WpO_op, WpO_nil, WpON_some, o_mv, o_eq, v_rto, b_eq, ev_tm, ev_cst, putD_some, reduceIte, Nat.reduceEqDiff, decide_false]
    refine hQ _ _ (WpC_cond (t := false) ?_ (C_sr fun Q' hQ => ?_))
    · simp only [ev_tm, reduceIte, Nat.reduceEqDiff]
    by_cases k4 : q.kind = 4
    · simp only [r6_29, k4, WpO_op, WpO_nil, WpON_some, o_mv, o_eq, v_rto, b_eq, ev_tm, ev_cst, putD_some, reduceIte, Nat.reduceEqDiff, decide_true]
      refine hQ _ _ (WpC_cond (t := true) ?_ ?_)
      · simp only [ev_tm, reduceIte, Nat.reduceEqDiff]
      refine fin (scr_D (q := q) (B := B) ⟨hst1, hd1, hwd1, hown, howw, hB, ⟨hB1, hB2⟩, hc, hdn, hT, ?_, ?_, ?_, ?_, ?_, ?_, ?_⟩)
      all_goals simp only [e1, e5, e7, e9, e10, hx, ev_tm, reduceIte, Nat.reduceEqDiff]
    simp only [r6_29, show (q.kind = 4) = False from eq_false k4, WpO_op, WpO_nil, WpON_some, o_mv, o_eq, v_rto, b_eq, ev_tm, ev_cst, putD_some, reduceIte, Nat.reduceEqDiff, decide_false]
    refine hQ _ _ (WpC_cond (t := false) ?_ ?_)
    · simp only [ev_tm, reduceIte, Nat.reduceEqDiff]
    refine fin (scr_E (q := q) (B := B) ⟨hst1, hd1, hwd1, hown, howw, hB, ⟨hB1, hB2⟩, hc, hdn, hT, ?_, ?_, ?_, ?_, ?_, ?_, ?_⟩)
    all_goals simp only [e1, e5, e7, e9, e10, hx, ev_tm, reduceIte, Nat.reduceEqDiff]
  clear hQ hst hst1 hd hwd hown howw hd1 hwd1 hB1 hB2 hB h0
  rintro y fr1 m2 ⟨rfl, ⟨f1, f5, f7, f10⟩, f12, D', T', dn', f9, hst, hdn', hT'⟩
  clear xt xp xu bt bp bu xw bw
  obtain ⟨xt, xp, xu, bt, bp, bu, xw, bw, hd, hwd, hown, howw⟩ := hst.ex
  have hpc := hst.pc
  have hiff := pcs_nil hst.good
  have hM : (2 : Int) * (dn' : Int) = ((2 * dn' : Nat) : Int) := by omega
  have hN : (1 : Int) + ((2 * dn' : Nat) : Int) = ((1 + 2 * dn' : Nat) : Int) := by omega
  refine C_sr fun Q' hQ => ?_
  simp only [r6_33, f5, f12, WpO_op, WpO_opG, WpO_callW, WpOCG_true, WpON_some, WpOG_true, o_mv, o_un, v_rto, v_not, ev_tm, evs_cons, evs_nil, putD_some, want_b, bc_false, reduceIte, Nat.reduceEqDiff, Bool.not_true, Bool.not_false]
  refine WpOC.to ((pieces_spec hd).mono ?_)
  rintro u m3 ⟨rfl, rfl⟩
  simp only [f5, show ((D'.pcs.length : Int) < 0) = False from eq_false (by omega), WpO_op, WpO_opG, WpO_callW, WpOCG_true, WpON_some, WpOG_true, o_mv, o_pick, o_lt, v_elB, v_rto, b_lt, ev_tm, ev_cst, evs_cons, evs_nil, putD_some, want_b, bc_false, reduceIte, Nat.reduceEqDiff, decide_false, Bool.not_false]
  refine WpOC.to ((pieces_spec hd).mono ?_)
  rintro u m4 ⟨rfl, rfl⟩
  simp only [f5, f9, b_mul 3 (show -9223372036854775808 ≤ (2 : Int) * (dn' : Int) by omega) (show (2 : Int) * (dn' : Int) ≤ 9223372036854775807 by omega), hM, b_add 3 (show -9223372036854775808 ≤ (1 : Int) + ((2 * dn' : Nat) : Int) by omega) (show (1 : Int) + ((2 * dn' : Nat) : Int) ≤ 9223372036854775807 by omega), hN, show (((1 + 2 * dn' : Nat) : Int) < (D'.pcs.length : Int)) = False from eq_false (by omega), WpO_op, WpO_opG, WpO_callW, WpOCG_true, WpON_some, WpOG_true, o_mv, o_pick, o_add, o_mul, o_gt, v_elB, v_rto, b_gt, ev_tm, ev_cst, evs_cons, evs_nil, putD_some, want_b, bc_false, reduceIte, Nat.reduceEqDiff, decide_false, Bool.not_false]
  refine WpOC.to ((pieces_spec hd).mono ?_)
  rintro u m5 ⟨rfl, rfl⟩
  have hsame : decide ((D'.pcs.length : Int) = 0) = decide (D'.txt = []) := by
    have : ((D'.pcs.length : Int) = 0) ↔ D'.txt = [] := by rw [← hiff]; omega
    simp only [this]
  simp only [f7, hsame, WpO_opG, WpO_callW, WpOCG_true, WpON_some, WpOG_true, o_mv, o_eq, v_rto, b_eq, ev_tm, ev_cst, evs_cons, evs_nil, putD_some, want_b, bc_false, reduceIte, Nat.reduceEqDiff, Bool.not_false]
  refine WpOC.to ((wtext_spec hwd (by omega)).mono ?_)
  rintro u m6 ⟨rfl, rfl⟩
  simp only [b_ne4, WpO_op, WpO_opG, WpO_nil, WpON_some, WpOG_true, o_pick, o_eq, o_ne, v_elB, v_rto, bs_eq, ev_tm, ev_cst, putD_some, want_b, bc_false, reduceIte, Nat.reduceEqDiff, Bool.not_false]
  refine hQ _ _ (WpC_cond (t := false) ?_ (WpC_skip ?_))
  · simp only [ev_tm, reduceIte, Nat.reduceEqDiff]
  refine ⟨rfl, ⟨?_, ?_, ?_, ?_⟩, ?_, D', T', dn', ?_, hst, hdn', hT'⟩
  all_goals simp only [f1, f5, f7, f9, f10, f12, ev_tm, reduceIte, Nat.reduceEqDiff]
end
set_option maxHeartbeats 4000000 in
theorem scripts_spec {m : M} {x : AV} {t : Bs} {es : List Oq} {o : Option Nat} (hw : Wf m) (hl : OsAt m x es o) (hes : es.length * 40 ≤ 140737488355328) : WpF Try.prog tb 6 [tv t, x] m fun v _ => v = .b true := by
  refine WpF_intro at6 rfl rfl ?_
  unfold c6
  refine C_sr fun Q' hQ => ?_
  simp only [r6_0, WpO_op, WpO_nil, WpON_some, o_mv, ev_cst, putD_some, fill_cons, fill_nil, Nat.reduceAdd, Nat.zero_add]
  refine hQ _ _ (WpC_seq (C_sr fun Q' hQ => ?_))
  simp only [r6_1, WpO_call, evs_nil]
  refine WpOC.to (wakes_spec ?_)
  simp only [WpO_op, WpO_nil, WpON_some, o_un, v_rto, v_not, ev_tm, putD_some, reduceIte, Nat.reduceEqDiff, Bool.not_true]
  refine hQ _ _ (WpC_cond (t := false) ?_ (WpC_skip (C_sr fun Q' hQ => ?_)))
  · simp only [ev_tm, reduceIte, Nat.reduceEqDiff]
  simp only [r6_3, WpO_op, WpO_call, WpON_some, o_mv, ev_tm, evs_cons, evs_nil, putD_some, reduceIte, Nat.reduceEqDiff]
  by_cases ht : 65536 < t.length
  · refine WpOC.to ((new_large ht).mono ?_)
    rintro v m' ⟨rfl, rfl⟩
    simp only [WpO_op, WpO_nil, WpON_some, o_mv, o_ext, v_elTup, v_rto, ev_tm, putD_some, reduceIte, Nat.reduceEqDiff, List.getElem?_cons_succ, List.getElem?_cons_zero]
    refine hQ _ _ (C_sr fun Q' hQ => ?_)
    simp only [r6_4, WpO_op, WpO_call, WpON_some, o_mv, ev_tm, evs_cons, evs_nil, putD_some, reduceIte, Nat.reduceEqDiff]
    refine WpOC.to ((wnew_large ht).mono ?_)
    rintro v m' ⟨rfl, rfl⟩
    simp only [WpO_op, WpO_nil, WpON_some, o_mv, o_ext, v_elTup, v_rto, ev_tm, putD_some, reduceIte, Nat.reduceEqDiff, List.getElem?_cons_succ, List.getElem?_cons_zero]
    refine hQ _ _ (WpC_seq (C_sr fun Q' hQ => ?_))
    simp only [r6_5, b_nn24, b_nn42, b_ne4, WpO_op, WpO_opG, WpO_nil, WpON_some, WpOG_true, o_mv, o_pick, o_ne, o_eqp, v_elB, v_rto, v_eqp_nn, b_ne, ev_tm, ev_cst, putD_some, want_b, bc_false, reduceIte, Nat.reduceEqDiff, decide_true, Bool.not_true, Bool.not_false]
    refine hQ _ _ (WpC_cond (t := false) ?_ (WpC_skip (C_sr fun Q' hQ => ?_)))
    · simp only [ev_tm, reduceIte, Nat.reduceEqDiff]
    simp only [r6_7, WpO_op, WpO_nil, WpON_some, o_mv, ev_cst, putD_some]
    refine hQ _ _ (WpC_seq (C_sr fun Q' hQ => ?_))
    simp only [r6_8, WpO_op, WpO_nil, WpON_some, o_mv, ev_cst, putD_some]
    refine hQ _ _ (WpC_block (WpC_loop (fun j fr mk => j = 0 ∧ mk = m' ∧ ev (tm 1) fr = x ∧ ev (tm 7) fr = nilp ∧ ev (tm 10) fr = iv 0) (k := 0) ?_ ?_))
    · refine ⟨rfl, rfl, ?_, ?_, ?_⟩
      all_goals simp only [ev_tm, reduceIte, Nat.reduceEqDiff]
    clear hQ
    rintro j fr mk ⟨rfl, rfl, e1, e7, e10⟩
    refine WpC_seq (C_sr fun Q' hQ => ?_)
    have fin : ∀ (f : Fr) (Q : X → Fr → M → Prop), ev (tm 52) f = .b false → ev (tm 7) f = nilp → (∀ f', ev (tm 7) f' = nilp → Q (.exit 0) f' mk) → WpC Try.prog tb (.cond (tm 52) .skip (.exit 0)) f mk Q := by
      intro f Q h h7 hq
      exact WpC_cond (t := false) h (WpC_exit (hq f h7))
    have endd : ∀ f', ev (tm 7) f' = nilp → WpC Try.prog tb (.seq (.reg r6_35) .ret) f' mk fun x fr' m' => (x = .normal ∨ x = .ret) ∧ ∃ l, ares Try.prog ⟨fr', m', [], none⟩ [.tmp 4] = some l ∧ one l = .b true := by
      intro f' h7
      refine C_sr fun Q' hQ => ?_
      simp only [r6_35, h7, b_nn42, WpO_op, WpO_opG, WpO_callW, WpOCG_false, WpO_nil, WpON_some, WpOG_false, o_mv, o_pick, o_eqp, v_elB, v_rto, v_eqp_nn, ev_tm, ev_cst, evs_cons, evs_nil, putD_some, want_b, bc_true, reduceIte, Nat.reduceEqDiff, Bool.not_false]
      refine hQ _ _ (WpC_ret ⟨.inr rfl, _, ares1, ?_⟩)
      simp only [ev_tm, one_1, reduceIte, Nat.reduceEqDiff]
    by_cases hlt : (0 : Int) < (es.length : Int)
    · simp only [r6_9, e1, e7, e10, hl.len, show ((0 : Int) < (es.length : Int)) = True from eq_true hlt, b_nn42n, WpO_op, WpO_opG, WpO_nil, WpON_some, WpOG_true, o_mv, o_pick, o_lt, o_eqp, o_len, v_elB, v_ob, v_rto, v_eqp_nn, b_lt, ev_tm, ev_cst, putD_some, want_b, bc_true, reduceIte, Nat.reduceEqDiff, decide_true, Bool.not_true]
      refine hQ _ _ (fin _ _ (by simp only [ev_tm, reduceIte, Nat.reduceEqDiff]) (by simp only [e7, ev_tm, reduceIte, Nat.reduceEqDiff]) fun f' h7 => ?_)
      simp only [if_true]
      exact endd f' h7
    · simp only [r6_9, e1, e10, hl.len, show ((0 : Int) < (es.length : Int)) = False from eq_false hlt, WpO_op, WpO_opG, WpO_nil, WpON_some, WpOG_false, o_mv, o_pick, o_lt, o_len, v_elB, v_ob, v_rto, b_lt, ev_tm, ev_cst, putD_some, want_b, bc_false, reduceIte, Nat.reduceEqDiff, decide_false, Bool.not_true]
      refine hQ _ _ (fin _ _ (by simp only [ev_tm, reduceIte, Nat.reduceEqDiff]) (by simp only [e7, ev_tm, reduceIte, Nat.reduceEqDiff]) fun f' h7 => ?_)
      simp only [if_true]
      exact endd f' h7
  have ht : t.length ≤ 65536 := by omega
  refine WpOC.to (new_ok hw ht fun m1 d xt xp xu bt bp hd1 hk1 hdn hbtn hbpn => ?_)
  have hw1 := hk1.wf
  have hl1 := hl.keep hw hk1 fun _ _ h => h
  have hln : ∀ b, o = some b → b < m.next := fun b hb => hl.lt hw hb
  have hn1 := hk1.next
  have hown : ∀ b, own3 d bt bp none b → m.next ≤ b := by
    rintro b (rfl | h | h | h)
    · exact hdn
    · exact hbtn b h
    · exact hbpn b h
    · cases h
  simp only [WpO_op, WpO_nil, WpON_some, o_mv, o_ext, v_elTup, v_rto, ev_tm, putD_some, reduceIte, Nat.reduceEqDiff, List.getElem?_cons_succ, List.getElem?_cons_zero]
  refine hQ _ _ (C_sr fun Q' hQ => ?_)
  simp only [r6_4, WpO_op, WpO_call, WpON_some, o_mv, ev_tm, evs_cons, evs_nil, putD_some, reduceIte, Nat.reduceEqDiff]
  refine WpOC.to (wnew_ok hw1 ht fun m2 w xw bw hwd hk2 howw => ?_)
  have hw2 := hk2.wf
  have hl2 := hl1.keep hw1 hk2 fun _ _ h => h
  have hd2 := hd1.keep0 hw1 hk2
  have hn2 := hk2.next
  simp only [WpO_op, WpO_nil, WpON_some, o_mv, o_ext, v_elTup, v_rto, ev_tm, putD_some, reduceIte, Nat.reduceEqDiff, List.getElem?_cons_succ, List.getElem?_cons_zero]
  refine hQ _ _ (WpC_seq (C_sr fun Q' hQ => ?_))
  simp only [r6_5, b_nil24, b_nil42, b_ne4, WpO_op, WpO_opG, WpO_nil, WpON_some, WpOG_true, o_mv, o_pick, o_ne, o_eqp, v_elB, v_rto, v_eqp_n, b_ne, ev_tm, ev_cst, putD_some, want_b, bc_false, reduceIte, Nat.reduceEqDiff, decide_true, Bool.not_true, Bool.not_false]
  refine hQ _ _ (WpC_cond (t := false) ?_ (WpC_skip (C_sr fun Q' hQ => ?_)))
  · simp only [ev_tm, reduceIte, Nat.reduceEqDiff]
  simp only [r6_7, WpO_op, WpO_nil, WpON_some, o_mv, ev_cst, putD_some]
  refine hQ _ _ (WpC_seq (C_sr fun Q' hQ => ?_))
  simp only [r6_8, WpO_op, WpO_nil, WpON_some, o_mv, ev_cst, putD_some]
  refine hQ _ _ (WpC_block (WpC_loop (fun j fr mk => ∃ k D T dn, k ≤ es.length ∧ j = es.length - k ∧ Sl fr x d w k ∧ ev (tm 9) fr = iv (dn : Nat) ∧ Ss m.next mk x es o d w D (1 + k) T dn ∧ dn ≤ k ∧ T.length ≤ k) (k := es.length) ?_ ?_))
  · refine ⟨0, newD t, [], 0, Nat.zero_le _, rfl, ⟨?_, ?_, ?_, ?_⟩, ?_, ⟨⟨xt, xp, _, bt, bp, none, xw, bw, hd2, by rw [new_txt]; exact hwd, fun b hb => ⟨hown b hb, fun h => ?_⟩, fun b hb => by have := howw b hb; omega⟩, hw2, hl2, new_good ht, by omega, hln, ⟨t, by rw [new_txt, new_und]; exact .nil⟩, new_count t⟩, Nat.le_refl _, Nat.le_refl _⟩
    any_goals simp only [ev_tm, reduceIte, Nat.reduceEqDiff]
    · rfl
    · rfl
    · have := hd1.lt hw1 hb
      have := howw b h
      omega
  clear hQ
  rintro j fr mk ⟨k, D, T, dn, hk, rfl, ⟨e1, e5, e7, e10⟩, e9, hst, hdk, hTk⟩
  refine WpC_seq (C_sr fun Q' hQ => ?_)
  by_cases hlt : k < es.length
  · have he : es[k]? = some es[k] := List.getElem?_eq_getElem hlt
    simp only [r6_9, e1, e7, e10, hst.os.len, show ((k : Int) < (es.length : Int)) = True from eq_true (by omega), b_nil42n, WpO_op, WpO_opG, WpO_nil, WpON_some, WpOG_true, o_mv, o_pick, o_lt, o_eqp, o_len, v_elB, v_ob, v_rto, v_eqp_n, b_lt, ev_tm, ev_cst, putD_some, want_b, bc_true, reduceIte, Nat.reduceEqDiff, decide_true, Bool.not_true]
    refine hQ _ _ (WpC_cond (t := true) ?_ (WpC_skip ?_))
    · simp only [ev_tm, reduceIte, Nat.reduceEqDiff]
    refine WpC_seq ((scr_body hst (by omega) (by omega) (by omega) he ?_ ?_ ?_ ?_ ?_).mono ?_)
    any_goals simp only [e1, e5, e7, e9, e10, ev_tm, reduceIte, Nat.reduceEqDiff]
    rintro y fr1 m3 ⟨rfl, ⟨f1, f5, f7, f10⟩, f12, D2, T2, dn2, f9, hst2, hdn2, hT2⟩
    have hC : (k : Int) + 1 = ((k + 1 : Nat) : Int) := by omega
    refine C_reg fun Q' hQ => ?_
    simp only [r6_10, f10, b_add 3 (show -9223372036854775808 ≤ (k : Int) + 1 by omega) (show (k : Int) + 1 ≤ 9223372036854775807 by omega), hC, WpO_op, WpO_nil, WpON_some, o_mv, o_add, v_rto, ev_tm, ev_cst, putD_some, reduceIte, Nat.reduceEqDiff]
    refine hQ _ _ ⟨es.length - (k + 1), by omega, k + 1, D2, T2, dn2, by omega, rfl, ⟨?_, ?_, ?_, ?_⟩, ?_, hst2, by omega, by omega⟩
    all_goals simp only [f1, f5, f7, f9, ev_tm, reduceIte, Nat.reduceEqDiff]
  · simp only [r6_9, e1, e10, hst.os.len, show ((k : Int) < (es.length : Int)) = False from eq_false (by omega), WpO_op, WpO_opG, WpO_nil, WpON_some, WpOG_false, o_mv, o_pick, o_lt, o_len, v_elB, v_ob, v_rto, b_lt, ev_tm, ev_cst, putD_some, want_b, bc_false, reduceIte, Nat.reduceEqDiff, decide_false, Bool.not_true]
    refine hQ _ _ (WpC_cond (t := false) ?_ (WpC_exit ?_))
    · simp only [ev_tm, reduceIte, Nat.reduceEqDiff]
    clear hQ
    simp only [reduceIte]
    obtain ⟨xt, xp, xu, bt, bp, bu, xw, bw, hd, hwd, hown, howw⟩ := hst.ex
    refine C_sr fun Q' hQ => ?_
    simp only [r6_35, e5, e7, b_nil42, WpO_op, WpO_opG, WpO_callW, WpOCG_true, WpON_some, WpOG_true, o_mv, o_eqp, v_rto, v_eqp_n, ev_tm, ev_cst, evs_cons, evs_nil, putD_some, want_b, bc_false, reduceIte, Nat.reduceEqDiff, Bool.not_false]
    refine WpOC.to (text_spec hst.wf hd hst.good fun m4 hk4 => ?_)
    simp only [e7, WpO_opG, WpO_callW, WpOCG_true, WpON_some, WpOG_true, o_mv, ev_tm, evs_cons, evs_nil, putD_some, want_b, bc_false, reduceIte, Nat.reduceEqDiff, Bool.not_false]
    refine WpOC.to ((wtext_spec (hwd.keep0 hst.wf hk4) (by omega)).mono ?_)
    rintro u m5 ⟨rfl, rfl⟩
    simp only [WpO_op, WpO_opG, WpO_nil, WpON_some, WpOG_true, o_mv, o_pick, o_eq, v_elB, v_rto, bs_eq, ev_tm, ev_cst, putD_some, want_b, bc_false, reduceIte, Nat.reduceEqDiff, decide_true, Bool.not_false]
    refine hQ _ _ (WpC_ret ⟨.inr rfl, _, ares1, ?_⟩)
    simp only [ev_tm, one_1, reduceIte, Nat.reduceEqDiff]

set_option maxRecDepth 100000 in
theorem pieceScripts_lifted (os : Os) (started : os.Started) (H : Type) (enc : TypeId × Value → H) :
    ReturnsInHanded {} Try.checked os 6 .any (Rows.pieceScriptsSpec.pre6 enc Try.prog Try.f6 Rows.pieceScriptsRow.domain false) (Rows.pieceScriptsSpec.post enc Try.prog Try.f6 false true false false) := by
  refine returnsInHanded_of_change_sized (C := Try.checked) Try.own started (by kernel_rfl) Try.func6
    (ChangeSpec.witness6 (enc := enc) (C := Try.checked) false ⟨#[], #[.string ⟨#[]⟩, .slice none 0 0], []⟩ 8 (by kernel_rfl) (by kernel_rfl) (by kernel_rfl) (by kernel_rfl)) ?_
  intro W base args ds gs before hval0 hW hcnd hsize _
  have hval : ∀ (j : Nat) t v, Try.f6.params[j]? = some t → args[j]? = some v → Value.okWide Try.prog W .any base t v := hval0
  have hW' := hW
  obtain ⟨p, q, hA0, hV, rfl, hfz, hnd⟩ := hW
  have hA : DataW.TrodAll enc Try.prog W 0 (fun _ => true) true Try.f6.params.toList args.toList ds p := hA0
  have hsz : (DataW.weightsEach Try.prog (Try.f6.params.toList ++ Rows.pieceScriptsSpec.plain.varTypes Try.prog) (ds ++ gs)).all (· ≤ reachBytes) = true := hsize
  rw [Try.params6] at hA hval hsz
  obtain ⟨v0, v1, d0, d1, p0, p1, rfl, rfl, rfl, h0, h1⟩ := trodAll_two hA
  obtain ⟨rfl, rfl⟩ := trodVars_none hV
  obtain ⟨s, rfl, rfl, rfl, ws⟩ := open_string Try.underlying9 (hval 0 9 v0 rfl rfl) h0
  obtain ⟨ρ, m, x, es, o, hx, hs, hw, hl, hes⟩ := open_ops (hval 1 41 v1 rfl rfl) h1 (fun elems spare hd => by
    subst hd
    exact sized_slice hsz (j := 1) (t := 41) rfl rfl Try.underlying41)
  have hlt : ∀ x ∈ p1, x.block < W.heap.size := fun x hx => by simpa using hW'.lt x (by simpa using hx)
  refine (wp_true (Am.good_of Try.good) tb_ok (scripts_spec (t := s.data.toList) hw hl hes) (concs_1 (conc_s ρ s) (concs_1 hx (concs_nil ρ))) hs Try.func6 rfl).mono fun e W' ⟨he, hb⟩ => ?_
  subst he
  exact ⟨_, rfl, post_same hW' (fun _ _ _ => trodAll_mk1 (shut_bool Try.underlying4 true)) (trodAll_mk2 (shut_string Try.underlying9 ws) (Below.trod Try.laidOut (by kernel_rfl) (of_decide_eq_true (by kernel_rfl)) h1 hb hlt)) rfl hb⟩
theorem pieceScripts_holds : Rows.PieceScriptsSaid :=
  OpenClaim.holds_of_wide 6 Try.f6 rfl rfl rfl rfl rfl rfl rfl ⟨rfl, rfl, rfl, rfl, rfl⟩ rfl rfl rfl rfl rfl (by kernel_rfl) Try.func6 (by kernel_rfl)
    (of_decide_eq_true (by kernel_rfl)) (by unfold Func.isWrapper; first | (rw [if_pos (by decide +kernel)]; kernel_rfl) | (rw [if_neg (by decide +kernel)]; exact ⟨rfl, rfl⟩))
    (fun os started H enc _ => pieceScripts_lifted os started H enc)
end Go.Proofs.Ytcbafpfljencdaa
