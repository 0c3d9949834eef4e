import Derived.Test.YtmkbjcjlnidjiaaAk
import Derived.Test.YtmkbjcjlnidjiaaChc
set_option linter.unusedVariables false
set_option linter.unusedVariables false
/- The law CacheKeeps, walked: what is handed in, and what is answered. -/
namespace Go.Proofs.Ytmkbjcjlnidjiaa
open Go Go.Am
theorem o_copy (sz : Nat) (d x : RO) (fr : Fr) (m : M) : run (.copy sz d x) fr m = rCopy sz (.cst (ev d fr)) (.cst (ev x fr)) .leaf m := rfl
theorem v_copy {m m' : M} {b off n cap : Nat} {lim : Bool} {x : AV} {new : List AV} (hx : Rds m x 1 n new) (h0 : 0 < n) (hw : m.wr b off new = some m') : rCopy 1 (.cst (.slice b off n cap lim)) (.cst x) .leaf m = some (iv (n : Int), m') := by
  obtain ⟨h1, h2, _⟩ := hx
  show (ob (lenA x) fun xl => fc (bc (Nat.ble xl n) xl n) fun n' => bc (Nat.beq n' 0) (some (AV.n 0, m)) (ob (firstA m 1 n' x) fun cs => ob (m.wr b off cs) fun m => some (AV.n n', m))) = _
  rw [h1, v_ob, fc_eq, nble, decide_eq_true (Nat.le_refl n), bc_true, nbeq, decide_eq_false (by omega), bc_false, h2, v_ob, hw]; rfl
theorem v_mk4 {m : M} {n : Nat} (h : n ≤ 1000000) : rMkSl ty_uint8 1 1 [.y 0] (.cst (iv (n : Int))) (.cst (iv ((n + 4 : Nat) : Int))) .leaf m = some (.slice m.next 0 n (n + 4) false, m.addZ ty_uint8 ((n + 4) * 1) [.y 0]) := by
  show bc (Nat.ble n (n + 4) && (Nat.ble (n + 4) 1099511627776 && Nat.ble ((n + 4) * 1) 1099511627776)) (fc (Nat.mul (n + 4) 1) fun k => some (AV.slice m.next (nat_lit 0) n (n + 4) false, m.new (.cells ⟨ty_uint8, k, .leaf, [.y 0], none, false, true, false⟩))) none = _
  rw [nble, nble, nble, decide_eq_true (by omega), decide_eq_true (by omega), decide_eq_true (by omega)]
  rw [show (true && (true && true)) = true from rfl, bc_true, fc_eq]
  rfl
theorem splice_end {l : List AV} {k n : Nat} (hk : k < n) (x z : AV) : splice (l ++ (List.replicate k x ++ List.replicate (n - k) z)) (l.length + k) [x] = l ++ (List.replicate (k + 1) x ++ List.replicate (n - (k + 1)) z) := by
  have h1 : l ++ (List.replicate k x ++ List.replicate (n - k) z) = (l ++ List.replicate k x) ++ List.replicate (n - k) z := by rw [List.append_assoc]
  have hl : (l ++ List.replicate k x).length = l.length + k := by simp
  unfold splice
  rw [h1, ← hl, List.take_left, show (l ++ List.replicate k x).length + [x].length = (l ++ List.replicate k x).length + 1 from rfl, ← List.drop_drop, List.drop_left, List.drop_replicate]
  have h2 : List.replicate (k + 1) x = List.replicate k x ++ [x] := List.replicate_succ'
  rw [h2, show n - k - 1 = n - (k + 1) by omega]
  simp
set_option maxRecDepth 20000 in
theorem roomy {m : M} {s : AV} {t : Bs} {bs : Nat} (hw : Wf m) (h : BtU m s t bs) (h0 : 0 < t.length) (hn : t.length ≤ 1000000) : ∃ m' b, At m' b ty_uint8 true (ycells t ++ List.replicate 4 (.y 165)) ∧ m.next ≤ b ∧ Keep m m' (fun _ => False) ∧ Ran Try.prog tb fn_k1_Roomy [s] m (.slice b 0 t.length (t.length + 4) false) m' := by
  have hyl : (ycells t).length = t.length := by simp [ycells]
  have ha := At.addZr (m := m) (e := ty_uint8) (k := (t.length + 4) * 1) (z := [.y 0]) (t.length + 4) rfl
  rw [rep_flat] at ha
  obtain ⟨m1, e1, k1, n1⟩ : ∃ m1, m.addZ ty_uint8 ((t.length + 4) * 1) [.y 0] = m1 ∧ Keep m m1 (fun _ => False) ∧ m1.next = m.next + 1 := ⟨_, rfl, Keep.addZ hw, M.next_addZ ..⟩
  have emk := v_mk4 (m := m) hn
  rw [e1] at ha emk
  have hw1 := k1.wf
  have h1 := h.keep hw k1 fun h => h
  obtain ⟨m2, e2, ha2, k2, n2⟩ := ha.st hw1 0 (ycells t) rfl (by rw [hyl]; simp)
  have ha2' : At m2 m.next ty_uint8 true (ycells t ++ (List.replicate 0 (.y 165) ++ List.replicate (4 - 0) (.y 0))) := by
    have : splice (List.replicate (t.length + 4) (AV.y 0)) 0 (ycells t) = ycells t ++ (List.replicate 0 (.y 165) ++ List.replicate (4 - 0) (.y 0)) := by
      unfold splice
      rw [hyl, List.take_zero, Nat.zero_add, List.drop_replicate, show t.length + 4 - t.length = 4 - 0 by omega]; simp
    rwa [this] at ha2
  have ecp := v_copy (b := m.next) (off := 0) (cap := t.length + 4) (lim := false) h1.bs.src h0 e2
  have hfull : rSl 1 false (.cst (.slice m.next 0 t.length (t.length + 4) false)) none (some (.cst (iv ((t.length + 4 : Nat) : Int)))) none .leaf m2 = some (.slice m.next 0 (t.length + 4) (t.length + 4) false, m2) := by
    rw [rSl_eq, evo_some, ev_cst, bnd_iv (show t.length + 4 ≤ t.length + 4 by omega), ob_some', evo_none, bnd_none, ob_some', nble, decide_eq_true (Nat.le_refl _)]
    simp only [bc_true, Nat.beq_refl, Bool.not_true, Bool.and_false, bc_false, fc_eq]
    show some (AV.slice m.next (0 + 0 * 1) (t.length + 4 - 0) (t.length + 4 - 0) (false || false), m2) = _
    simp
  have hC : (t.length : Int) + 4 = ((t.length + 4 : Nat) : Int) := by omega
  have key : WpF Try.prog tb fn_k1_Roomy [s] m fun v m' => v = .slice m.next 0 t.length (t.length + 4) false ∧ At m' m.next ty_uint8 true (ycells t ++ List.replicate 4 (.y 165)) ∧ Keep m m' (fun _ => False) := by
    refine WpF.go at_k1_Roomy ?_
    simp -implicitDefEqProofs only [o_k1_Roomy, r_k1_Roomy_0, r_k1_Roomy_1, r_k1_Roomy_2, r_k1_Roomy_3, r_k1_Roomy_4, h.bs.len, b_add ty_int (show -9223372036854775808 ≤ (t.length : Int) + 4 by omega) (show (t.length : Int) + 4 ≤ 9223372036854775807 by omega), hC, emk, o_copy, ecp, hfull, o_mksl, o_mv, o_add, o_take, o_len, v_ob, v_rto, ev_tm, ev_cst, putD_some, fill_cons, fill_nil, ↓reduceIte, Nat.reduceEqDiff, Nat.zero_add, GO_nil, GO_op, GN_some, GX_reg, GX_seq, GX_block, RK_app, SK_normal]
    refine GX_loop (fun j fr mk => ∃ k, k ≤ 4 ∧ j = 4 - k ∧ (ev (tm 3) fr = .slice m.next 0 t.length (t.length + 4) false ∧ ev (tm 4) fr = .slice m.next 0 (t.length + 4) (t.length + 4) false ∧ ev (tm 5) fr = iv ((t.length + k : Nat) : Int)) ∧ At mk m.next ty_uint8 true (ycells t ++ (List.replicate k (.y 165) ++ List.replicate (4 - k) (.y 0))) ∧ Keep m2 mk (fun b => b = m.next)) (k := 4) ⟨0, by omega, rfl, by simp -implicitDefEqProofs only [ev_tm, ↓reduceIte, Nat.reduceEqDiff, Nat.add_zero, and_self], ha2', Keep.refl k2.wf _⟩ ?_
    rintro j fr mk ⟨k, hk, rfl, ⟨e3, e4, e5⟩, hak, kk⟩
    by_cases hlt : k < 4
    · obtain ⟨m3, e6, ha3, k3, n3⟩ := hak.st kk.wf (t.length + k) [.y 165] rfl (by rw [List.length_append, hyl]; simp; omega)
      rw [← hyl, splice_end hlt] at ha3
      have hC2 : ((t.length + k : Nat) : Int) + 1 = ((t.length + (k + 1) : Nat) : Int) := by omega
      simp -implicitDefEqProofs only [o_k1_Roomy, r_k1_Roomy_5, r_k1_Roomy_7, r_k1_Roomy_6, e4, e5, len_sl, show (((t.length + k : Nat) : Int) < ((t.length + 4 : Nat) : Int)) = True from eq_true (by omega), v_iaS 1 m.next 0 (t.length + 4) (t.length + 4) false (show t.length + k < t.length + 4 by omega), Nat.mul_one, e6, b_add ty_int (show -9223372036854775808 ≤ ((t.length + k : Nat) : Int) + 1 by omega) (show ((t.length + k : Nat) : Int) + 1 ≤ 9223372036854775807 by omega), o_mv, o_store, o_add, o_lt, o_iaS, o_len, v_elPtr, v_ob, v_rto, b_lt, len_sl, ev_tm, ev_cst, putD_none, putD_some, bc_true, nbeq, ↓reduceIte, Nat.reduceEqDiff, List.length_cons, List.length_nil, Nat.zero_add, decide_true, GO_nil, GO_op, GN_some, GX_skip, GX_reg, GX_seq, GX_cond, GX_block, RK_app, SK_normal, GC_true, BK_normal, cells_yc]
      exact LK_n (k' := 4 - (k + 1)) (by omega) ⟨k + 1, by omega, rfl, by simp -implicitDefEqProofs only [e3, e4, hC2, ev_tm, ↓reduceIte, Nat.reduceEqDiff, and_self], ha3, kk.trans k3 fun _ _ e => e⟩
    · have hk4 : k = 4 := by omega
      subst hk4
      simp -implicitDefEqProofs only [o_k1_Roomy, r_k1_Roomy_5, r_k1_Roomy_8, e3, e4, e5, len_sl, show (((t.length + 4 : Nat) : Int) < ((t.length + 4 : Nat) : Int)) = False from eq_false (by omega), o_mv, o_lt, o_len, v_ob, v_rto, b_lt, len_sl, ev_tm, putD_some, nbeq, ↓reduceIte, Nat.reduceEqDiff, Nat.reduceSub, decide_true, decide_false, GO_nil, GO_op, GN_some, GX_reg, GX_seq, GX_cond, GX_exit, GX_ret, RK_app, SK_normal, SK_exit, GC_false, BK_exit, BE_true, LK_exit, FK_ret1, true_and]
      refine ⟨by simpa using hak, (k1.trans k2 fun b hb e => ?_).trans kk fun b hb e => by omega⟩
      omega
  obtain ⟨v, m', ⟨rfl, g2, g3⟩, r⟩ := key.ran
  exact ⟨m', m.next, g2, Nat.le_refl _, g3, r⟩
theorem sameI {m : M} {x y : AV} {zs : List Int} (hx : Vs m x zs) (hy : Vs m y zs) (hl : zs.length ≤ 1000000000000000) : Ran Try.prog tb fn_k1_SameInts [x, y] m (.b true) m := by
  refine WpF.go at_k1_SameInts ?_
  simp -implicitDefEqProofs only [o_k1_SameInts, r_k1_SameInts_0, r_k1_SameInts_1, r_k1_SameInts_3, hx.len, hy.len, o_mv, o_ne, o_len, v_ob, v_rto, b_ne, ev_tm, ev_cst, putD_some, fill_cons, fill_nil, ↓reduceIte, Nat.reduceEqDiff, Nat.reduceAdd, Nat.zero_add, decide_true, Bool.not_true, GO_nil, GO_op, GN_some, GX_skip, GX_reg, GX_seq, GX_cond, GX_block, RK_app, SK_normal, GC_false]
  refine GX_loop (fun j fr mk => ∃ k, k ≤ zs.length ∧ j = zs.length - k ∧ (ev (tm 0) fr = x ∧ ev (tm 1) fr = y ∧ ev (tm 5) fr = iv (k : Nat)) ∧ mk = m) (k := zs.length) ⟨0, Nat.zero_le _, rfl, by simp -implicitDefEqProofs only [ev_tm, ↓reduceIte, Nat.reduceEqDiff, nc0, and_self], rfl⟩ ?_
  rintro j fr mk ⟨k, hk, rfl, ⟨e0, e1, e5⟩, rfl⟩
  by_cases hlt : k < zs.length
  · have hz : zs[k]? = some zs[k] := List.getElem?_eq_getElem hlt
    generalize zs[k] = z at hz
    obtain ⟨b, off, cap, lim, hxx, hr⟩ := hx.el k z hz
    obtain ⟨b', off', cap', lim', hyy, hr'⟩ := hy.el k z hz
    simp -implicitDefEqProofs only [o_k1_SameInts, r_k1_SameInts_4, r_k1_SameInts_6, r_k1_SameInts_5, e0, e1, e5, hxx, hyy, len_sl, show ((k : Int) < (zs.length : Int)) = True from eq_true (by omega), v_iaS 1 b off zs.length cap lim hlt, v_iaS 1 b' off' zs.length cap' lim' hlt, hr, hr', b_add ty_int (show -9223372036854775808 ≤ (k : Int) + 1 by omega) (show (k : Int) + 1 ≤ 9223372036854775807 by omega), o_mv, o_load, o_add, o_lt, o_ne, o_iaS, o_len, v_elPtr, v_ob, v_rto, b_lt, b_ne, len_sl, ev_tm, ev_cst, putD_some, bc_true, ↓reduceIte, Nat.reduceEqDiff, decide_true, Bool.and_self, Bool.not_true, List.nil_append, List.cons_append, List.getElem?_cons_succ, List.getElem?_cons_zero, GO_nil, GO_op, GN_some, GT_nil, GT_op, TN_some, GX_skip, GX_reg, GX_drawn, GX_seq, GX_cond, GX_block, RK_app, DK_app, SK_normal, GC_true, GC_false, BK_normal, lastT_1, lastT_c, again0_at, List.all_cons, List.all_nil, want_none, aq_iv, Option.some.injEq, exists_eq_left', true_and, Option.some.injEq]
    exact LK_n (k' := zs.length - (k + 1)) (by omega) ⟨k + 1, by omega, rfl, by simp -implicitDefEqProofs only [e0, e1, hxx, hyy, show (k : Int) + 1 = ((k + 1 : Nat) : Int) from rfl, ev_tm, ↓reduceIte, Nat.reduceEqDiff, and_self], rfl⟩
  · have hke : k = zs.length := by omega
    subst hke
    simp -implicitDefEqProofs only [o_k1_SameInts, r_k1_SameInts_4, r_k1_SameInts_8, e0, e5, hx.len, show ((zs.length : Int) < (zs.length : Int)) = False from eq_false (by omega), o_mv, o_lt, o_len, v_ob, v_rto, b_lt, ev_tm, ev_cst, putD_some, nbeq, ↓reduceIte, Nat.reduceEqDiff, decide_true, decide_false, GO_nil, GO_op, GN_some, GX_reg, GX_seq, GX_cond, GX_exit, GX_ret, RK_app, SK_normal, SK_exit, GC_false, BK_exit, BE_true, LK_exit, FK_ret1, and_self]
section
variable {m m' : M} {c d cb : Nat} {C : Cc} {D : Dv} {F : Nat → Prop}
/-- What is changed is of others. -/
theorem CcAt.kf (h : CcAt m c d C) (hw : Wf m) (k : Keep m m' F) (hF : ∀ b, F b → (kd m b (ty_uint8 + 1) ∧ ¬ uOwn C D b) ∨ (kd m b (ty_int + 1) ∧ C.po ≠ some b)) : CcAt m' c d C := by
  have hne : ∀ {b kk}, kd m b kk → kk ≠ ty_uint8 + 1 → kk ≠ ty_int + 1 → ¬ F b := fun hb h1 h2 hf => by
    rcases hF _ hf with ⟨g, _⟩ | ⟨g, _⟩
    · exact h1 (hb.inj g)
    · exact h2 (hb.inj g)
  have hdb : ∀ l ∈ C.ls, ¬ F l.db := fun l hl hf => by
    rcases hF _ hf with ⟨_, g⟩ | ⟨g, _⟩
    · exact g (.inl ⟨l, hl, rfl⟩)
    · exact absurd ((h.dk l hl).inj g) (by decide)
  have hpo : ∀ b, C.po = some b → ¬ F b := fun b hb hf => by
    rcases hF _ hf with ⟨g, _⟩ | ⟨_, g⟩
    · exact absurd ((h.pk b hb).inj g) (by decide)
    · exact g hb
  refine ⟨h.old.keep hw k fun b hb => ?_, fun l hl => (h.dk l hl).of_get (k.get _ ((h.dk l hl).lt hw) (hdb l hl)), fun b hb => (h.pk b hb).of_get (k.get _ ((h.pk b hb).lt hw) (hpo b hb))⟩
  rcases hb with rfl | rfl | hb | ⟨l, hl, rfl | rfl⟩
  · exact hne h.old.ca.kd (by decide) (by decide)
  · exact hne h.old.mp.kd (by decide) (by decide)
  · exact hpo b hb
  · exact hne (h.old.ln l hl).kd (by decide) (by decide)
  · exact hdb l hl
theorem DvAt.kf (h : DvAt m d cb D) (hw : Wf m) (k : Keep m m' F) (hF : ∀ b, F b → (kd m b (ty_uint8 + 1) ∧ ¬ uOwn C D b) ∨ (kd m b (ty_int + 1) ∧ C.po ≠ some b)) : DvAt m' d cb D := by
  have hne : ∀ {b kk}, kd m b kk → kk ≠ ty_uint8 + 1 → kk ≠ ty_int + 1 → ¬ F b := fun hb h1 h2 hf => by
    rcases hF _ hf with ⟨g, _⟩ | ⟨g, _⟩
    · exact h1 (hb.inj g)
    · exact h2 (hb.inj g)
  have hu : ∀ b, kd m b (ty_uint8 + 1) → uOwn C D b → ¬ F b := fun b hb ho hf => by
    rcases hF _ hf with ⟨_, g⟩ | ⟨g, _⟩
    · exact g ho
    · exact absurd (hb.inj g) (by decide)
  refine ⟨h.dev.keep hw k (hne h.dev.kd (by decide) (by decide)), h.row.keep hw k (hne h.row.kd (by decide) (by decide)), fun x hx => ?_, h.wd⟩
  have hc := h.ok x hx
  refine ⟨hc.ar.keep hw k (hu _ hc.ar.kd (.inr ⟨x, hx, .inl rfl⟩)), hc.sl.keep hw k fun b hb => ?_, fun e he => (hc.ws e he).keep hw k (hu _ (hc.ws e he).kd (.inr ⟨x, hx, .inr ⟨e, he, rfl⟩⟩))⟩
  have := hc.sl
  rw [hb] at this
  exact hne this.kd (by decide) (by decide)
end
/-- What the law holds between its calls. -/
structure KI (m : M) (c d cb : Nat) (C : Cc) (D : Dv) (n : Nat) : Prop where
  wf : Wf m
  cc : CcAt m c d C
  dv : DvAt m d cb D
  cl : C.Lim D
  dl : D.Lim n n
  l8 : D.L.length = 8
  fu : D.fused = false
  de : D.dead = false
  con : Con C D
  pins : ∀ k, pinsOf C k = 0
section
variable {m m' : M} {c d cb n : Nat} {C C' : Cc} {D D' : Dv}
theorem KI.k0 (h : KI m c d cb C D n) (k : Keep m m' fun _ => False) : KI m' c d cb C D n :=
  { h with wf := k.wf, cc := h.cc.k0 h.wf k, dv := h.dv.k0 h.wf k }
theorem KI.kf {F : Nat → Prop} (h : KI m c d cb C D n) (k : Keep m m' F) (hF : ∀ b, F b → (kd m b (ty_uint8 + 1) ∧ ¬ uOwn C D b) ∨ (kd m b (ty_int + 1) ∧ C.po ≠ some b)) : KI m' c d cb C D n :=
  { h with wf := k.wf, cc := h.cc.kf h.wf k hF, dv := h.dv.kf h.wf k hF }
theorem KI.live (h : KI m c d cb C D n) : D.dies = false := by unfold Dv.dies; rw [h.de, h.fu]; rfl
theorem KI.nofull (h : KI m c d cb C D n) (h1 : ∀ l ∈ C.ls, 0 < l.pins) (h2 : ¬ C.ls.length < C.cap) : False := by
  have hc := h.cl.cap1
  cases hls : C.ls with
  | nil => rw [hls] at h2; simp at h2; omega
  | cons l ls =>
    have hl : l ∈ C.ls := by rw [hls]; exact List.mem_cons_self ..
    have := h.pins l.b
    unfold pinsOf at this
    rw [fl_mem h.cc.old.nb hl] at this
    have h3 := h1 l hl
    have : l.pins = 0 := this
    omega
theorem GetR.po {k : Nat} {t : Bs} (h : GetR C D k t C' D') : C'.po = C.po := by
  rcases h with ⟨_, _, _, rfl, _⟩ | ⟨_, C1, _, _, hr, rfl, _⟩
  · rfl
  · rcases hr with ⟨_, rfl, _⟩ | ⟨_, _, _, _, _, _, _, e, _⟩
    · rfl
    · exact e
theorem PutR.po {k : Nat} {t : Bs} (h : PutR C D k t C' D') : C'.po = C.po := by
  rcases h with ⟨_, _, _, _, _, _, _, _, rfl, _⟩ | ⟨_, C1, _, hr, rfl, _⟩
  · rfl
  · rcases hr with ⟨_, rfl, _⟩ | ⟨_, _, _, _, _, _, _, e, _⟩
    · rfl
    · exact e
theorem KI.get (h : KI m c d cb C D n) (hn : n < 399) {k : Nat} (hk : k < 8) {t : Bs} (ht : vw C D k = some t) (h64 : t.length = 64) {Q : AV → M → Prop}
    (hQ : ∀ m' C' D' s b, KI m' c d cb C' D' (n + 1) → (∀ j, vw C' D' j = vw C D j) → BtU m' s t b → SlAt m' ty_uint8 1 s t.length (ycells t) (some b) → KeepK m m' cdK [C.mb] → m.next ≤ b → Grow m.next C D C' D' → (∀ x, uOwn C' D' x → x ≠ b) → C'.po = C.po → C'.mb = C.mb → (1 ≤ C.ls.length → 1 ≤ C'.ls.length) → C'.cap = C.cap → Q (.tuple [s, iv 0]) m') : WpF Try.prog tb fn_Ca_Get [.ptr c 0, iv k] m Q := by
  refine cget h.wf h.cc h.dv h.cl h.dl (by omega) (by omega) h.de (by rw [h.l8]; exact hk) (fun m1 C1 D1 s t' b hg hb hsl h1 hd1 k1 hbn hgr hne => ?_) (fun hf hall hlt _ _ _ _ => (h.nofull hall hlt).elim) (fun _ hd _ _ _ _ _ _ _ _ _ => by rw [h.live] at hd; cases hd)
  obtain ⟨g1, g2, g3, g4, g5⟩ := hg.good h.cc.old.nb h.con
  have ht' : t' = t := by rw [ht] at g4; exact (Option.some.inj g4).symm
  subst ht'
  obtain ⟨i1, i2, i3, i4, i5, i6, i7⟩ := hg.lim h.cl h.dl (by rw [h.l8]; exact hk) h64
  refine hQ m1 C1 D1 s b ⟨k1.wf, h1, hd1, i1, i2, i3.trans h.l8, i6.trans h.fu, i7.trans h.de, g2, fun j => (g5 j).trans (h.pins j)⟩ g3 hb hsl k1 hbn hgr hne hg.po i5 (fun h1 => ?_) i4
  rcases hg with ⟨_, _, _, rfl, _⟩ | ⟨_, Cx, nx, _, _, rfl, _⟩
  · exact h1
  · show 1 ≤ (Cx.ls ++ [nx]).length
    simp
theorem KI.put (h : KI m c d cb C D n) (hn : n < 399) {k : Nat} (hk : k < 8) {s : AV} {t : Bs} {b : Nat} (hs : BtU m s t b) (h64 : t.length = 64) {Q : AV → M → Prop}
    (hQ : ∀ m' C' D', KI m' c d cb C' D' (n + 1) → (∀ j, vw C' D' j = if j = k then some t else vw C D j) → KeepK m m' cdK [C.mb] → Grow m.next C D C' D' → C'.po = C.po → C'.mb = C.mb → 1 ≤ C'.ls.length → C'.cap = C.cap → Q (iv 0) m') : WpF Try.prog tb fn_Ca_Put [.ptr c 0, iv k, s] m Q := by
  refine cput h.wf h.cc h.dv h.cl h.dl (by omega) (by omega) (by rw [h.l8]; exact hk) hs h64 (fun m1 C1 D1 hp h1 hd1 k1 hgr => ?_) (fun hf hall hlt _ _ _ _ => (h.nofull hall hlt).elim) (fun _ hd _ _ _ _ _ _ _ _ _ => by rw [h.live] at hd; cases hd)
  obtain ⟨g1, g2, g3, g4⟩ := hp.good h.cc.old.nb h.con
  obtain ⟨i1, i2, i3, i4, i5, i6, i7⟩ := hp.lim h.cl h.dl (by rw [h.l8]; exact hk) h64
  refine hQ m1 C1 D1 ⟨k1.wf, h1, hd1, i1, i2, i3.trans h.l8, i6.trans h.fu, i7.trans h.de, g2, fun j => (g4 j).trans (h.pins j)⟩ g3 k1 hgr hp.po i5 ?_ i4
  rcases hp with ⟨l, nx, hf, _, _, _, _, _, rfl, _⟩ | ⟨_, Cx, nx, _, rfl, _⟩
  · show 1 ≤ (setl C.ls nx).length
    unfold setl
    rw [List.length_map]
    exact List.length_pos_of_mem (fl_some hf).1
  · show 1 ≤ (Cx.ls ++ [nx]).length
    simp
end
end Go.Proofs.Ytmkbjcjlnidjiaa
set_option linter.unusedVariables false
set_option linter.unusedVariables false
/- The law CacheKeeps, walked: the law. -/
namespace Go.Proofs.Ytmkbjcjlnidjiaa
open Go Go.Am
/-- Numbers that are handed in. -/
def RsK (m : M) (x : AV) (zs : List Int) : Prop := ∃ o, RsAt m x (zs.map iv) o ∧ ∀ b, o = some b → kd m b roK
theorem RsK.kk {m m' : M} {x : AV} {zs : List Int} {F : Nat → Prop} (h : RsK m x zs) (hw : Wf m) (k : Keep m m' F) (hF : ∀ b, F b → ¬ kd m b roK) : RsK m' x zs := by
  obtain ⟨o, h1, h2⟩ := h
  exact ⟨o, h1.keep hw k fun b hb hf => hF b hf (h2 b hb), fun b hb => (h2 b hb).of_get (k.get b ((h2 b hb).lt hw) fun hf => hF b hf (h2 b hb))⟩
theorem RsK.k0 {m m' : M} {x : AV} {zs : List Int} (h : RsK m x zs) (hw : Wf m) (k : Keep m m' fun _ => False) : RsK m' x zs := h.kk hw k fun _ h => h.elim
theorem RsK.kp {m m' : M} {x : AV} {zs : List Int} {E S : List Nat} (h : RsK m x zs) (hw : Wf m) (k : KeepK m m' E S) (hE : roK ∉ E := by decide) : RsK m' x zs := h.kk hw k fun b hb hk => Kinds.not hk hE (by decide) hb
theorem RsK.vs {m : M} {x : AV} {zs : List Int} (h : RsK m x zs) : Vs m x zs := by
  obtain ⟨o, h1, _⟩ := h
  exact vs_rs h1
theorem _root_.Go.Am.SlE.vs {m : M} {x : AV} {zs : List Int} {o : Option Nat} (h : SlE m ty_int x zs.length (zs.map iv) o) : Vs m x zs := by
  rcases h with h | ⟨b, rfl, h2, _, _, h⟩
  · generalize hn : zs.length = n at h
    generalize hc : zs.map iv = cells at h
    cases h with
    | nil =>
      have : zs = [] := List.length_eq_zero_iff.1 hn
      subst this
      exact vs_nil
    | row h hl hj hc' h0 => subst hc hn; exact vs_at h rfl (by rw [show zs.length = (zs.map iv).length from (List.length_map ..).symm, List.take_left])
  · have : zs = [] := List.length_eq_zero_iff.1 h2.symm.symm
    subst this
    exact ⟨rfl, fun k z hz => by cases hz⟩
theorem _root_.Go.Am.SlE.cells1 {m : M} {e : TypeId} {x : AV} {len : Nat} {cells : List AV} {o : Option Nat} (h : SlE m e x len cells o) : cellsO x = some [x] := by
  rcases h with h | ⟨b, rfl, _⟩
  · exact h.cells1
  · rfl
theorem appI {m : M} {b : Nat} {x : AV} {zs : List Int} {o : Option Nat} (hw : Wf m) (ha : At m b ty_int true []) (h : RsAt m x (zs.map iv) o) (hl : zs.length * 8 ≤ 140737488355328) :
    ∃ m' y o', rApp ty_int 1 8 [iv 0] (.cst (.slice b 0 0 0 false)) (.cst x) .leaf m = some (y, m') ∧ SlE m' ty_int y zs.length (zs.map iv) (some o') ∧ (∃ o2, RsAt m' y (zs.map iv) o2) ∧ Keep m m' (fun _ => False) ∧ (o' = b ∨ m.next ≤ o') := by
  by_cases h0 : zs = []
  · subst h0
    have hr : rApp ty_int 1 8 [iv 0] (.cst (.slice b 0 0 0 false)) (.cst x) .leaf m = some (.slice b 0 0 0 false, m) := by
      obtain ⟨g1, g2, _⟩ := h.src
      show (ob (Am.lenA x) fun k => ob (firstA _ 1 k x) fun new => aappend ty_int 1 8 [iv 0] _ (.slice b 0 0 0 false) k new) = _
      rw [g1, v_ob, g2, v_ob]
      rfl
    exact ⟨m, _, b, hr, .inr ⟨b, rfl, rfl, rfl, rfl, ha⟩, ⟨none, .empty⟩, Keep.refl hw _, .inl rfl⟩
  · have hpos : 0 < zs.length := List.length_pos_iff.2 h0
    obtain ⟨m2, hr, hs2, k2, n2⟩ := run_clone0 (e := ty_int) (bytes := 8) (z := [iv 0]) ha hw h.src (by simpa using hpos) (by rw [List.length_map]; exact room_le hl (by omega) (by omega))
    rw [List.length_map] at hr hs2
    refine ⟨m2, _, m.next, hr, .inl hs2, ?_, k2, .inr (Nat.le_refl _)⟩
    cases hs2 with
    | row h hl hj hc h0 =>
      rename_i junk xt
      have hj0 : junk = [] := List.length_eq_zero_iff.1 (by simpa using hj)
      subst hj0
      rw [List.append_nil] at h
      have := RsAt.row (cap := zs.length) (lim := false) h.r
      rw [List.length_map] at this
      exact ⟨_, this⟩
theorem hd_of {zs : List Lz} (h : zs.Pairwise fun z z' => ∀ b, z.o = some b → z'.o ≠ some b) : ∀ (i j : Nat) (z z' : Lz) (b : Nat), zs[i]? = some z → zs[j]? = some z' → z.o = some b → z'.o = some b → i = j := by
  intro i j z z' b h1 h2 h3 h4
  obtain ⟨hi, e1⟩ := List.getElem?_eq_some_iff.1 h1
  obtain ⟨hj, e2⟩ := List.getElem?_eq_some_iff.1 h2
  rw [List.pairwise_iff_getElem] at h
  rcases Nat.lt_trichotomy i j with hlt | he | hlt
  · exact absurd h4 (e2 ▸ h i j hi hj hlt b (e1 ▸ h3))
  · exact he
  · exact absurd h3 (e1 ▸ h j i hj hi hlt b (e2 ▸ h4))
theorem Lst.sle {m : M} {x : AV} {zs : List Int} {n0 : Nat} (h : Lst m x zs n0) : ∃ o, SlE m ty_int x zs.length (zs.map iv) o ∧ ∀ b, o = some b → n0 ≤ b := by
  rcases h with ⟨rfl, rfl⟩ | ⟨b, cap, junk, xt, rfl, h2, h3, h4, h5, h6⟩
  · exact ⟨none, .inl .nil, fun _ h => (by cases h)⟩
  · exact ⟨some b, .inl (.row h2 (by simp) (by rw [h4, Nat.mul_one]) h5 h6), fun b' hb => by cases hb; exact h3⟩
section
variable {m m' : M} {c d cb n : Nat} {C C' : Cc} {D D' : Dv}
theorem KI.outAny (h : KI m c d cb C D n) (hn : n + C.ls.length < 395) {x : AV} {zs : List Int} (hx1 : cellsO x = some [x]) (hx : ∀ m', Keep m m' (fun _ => False) → Vs m' x zs) (hzl : zs.length * 8 ≤ 140737488355328) {Q : AV → M → Prop}
    (hQ : ∀ m' C' D' v, KI m' c d cb C' D' (n + C.ls.length) → (∀ j, vw C' D' j = vw C D j) → KeepK m m' cdK [] → Grow m.next C D C' D' → C'.po = C.po → C'.mb = C.mb → C'.ls.length = C.ls.length → C'.cap = C.cap → Q v m') : WpF Try.prog tb fn_Ca_Out [.ptr c 0, x] m Q := by
  have hdc := dcl_le C.ls
  by_cases hno : ∃ z ∈ zs, z < 0 ∨ (D.L.length : Int) ≤ z
  · exact cout_no h.wf h.cc h.dv h.dl.len hx1 hx hzl hno fun m1 k1 => hQ m1 C D _ { h.k0 k1 with dl := h.dl.mono (by omega) (by omega) } (fun _ => rfl) k1.k0 .refl rfl rfl rfl rfl
  · have hall : ∀ z ∈ zs, 0 ≤ z ∧ z < (D.L.length : Int) := fun z hz => by
      refine Classical.byContradiction fun hc => hno ⟨z, hz, ?_⟩
      omega
    refine cout h.wf h.cc h.dv h.cl h.dl hx1 hx hzl (by omega) (by omega) (ks := (isort zs).map Int.toNat) ?_ (fun k hk => ?_) (fun m1 C1 D1 hO h1 hd1 k1 hgr => ?_) (fun hf => by rw [h.fu, h.de] at hf; simp at hf)
    · rw [List.map_map]
      exact isort_nat fun z hz => (hall z hz).1
    · obtain ⟨z, hz, rfl⟩ := List.mem_map.1 hk
      have := hall z (mem_isort.1 hz)
      omega
    · obtain ⟨g1, g2, g3, g4, _⟩ := hO.good h.cc.old.nb h.con
      obtain ⟨i1, _, i3, i4, i5, i6, i7, xw, i8, i9⟩ := hO.cnt h.cc.old.nb h.cl h.dl
      exact hQ m1 C1 D1 _ ⟨k1.wf, h1, hd1, i1, i8.mono (by omega) (by omega), i3.trans h.l8, hO.dies.1.trans h.fu, hO.dies.2.trans h.de, g2, fun j => (g4 j).trans (h.pins j)⟩ g3 k1 hgr i7 i5 i6 i4
theorem KI.held (h : KI m c d cb C D n) (h1 : 1 ≤ C.ls.length) {Q : AV → M → Prop} (hQ : ∀ (m' : M) (x : AV) (o : Nat) (zs : List Int), SlE m' ty_int x zs.length (zs.map iv) (some o) → zs.length = C.ls.length → Keep m m' (fun _ => False) → m.next ≤ o → Q x m') : WpF Try.prog tb fn_Ca_Held [.ptr c 0] m Q := by
  refine cheld h.wf h.cc h.cl h.dl.len fun m1 x hx k1 => ?_
  rcases hx with ⟨e, rfl⟩ | ⟨hne, B, rfl, hB, hn⟩
  · rw [e] at h1; simp at h1
  · have hSl : (Sk (al C.ls)).length = C.ls.length := by rw [len_Sk, len_al]
    refine hQ m1 _ B (Sk (al C.ls)) ?_ hSl k1 hn
    rw [← hSl]
    exact .inl (.row (xt := false) (junk := []) (by rw [List.append_nil]; exact hB) (by simp) (by simp) (Nat.le_refl _) (by omega))
end
theorem or_uint {m : M} {C : Cc} {D : Dv} {b : Nat} (h : kd m b (ty_uint8 + 1)) (hn : ¬ uOwn C D b) : (kd m b (ty_uint8 + 1) ∧ ¬ uOwn C D b) ∨ (kd m b (ty_int + 1) ∧ C.po ≠ some b) := .inl ⟨h, hn⟩
set_option maxRecDepth 20000 in
set_option maxHeartbeats 4000000 in
theorem keeps_spec {m : M} {x y : UInt8} {px lx : AV} {ps zs : List Int} {po : Option Nat} (hw : Wf m) (hp : RsAt m px (ps.map iv) po) (hpl : ps.length * 8 ≤ 140737488351232) (hl : RsK m lx zs) (hll : zs.length * 8 ≤ 140737488351232) : WpF Try.prog tb fn_l8_CacheKeeps [.y x.toNat, .y y.toNat, px, lx] m fun v _ => v = .b true := by
  refine WpF.go at_l8_CacheKeeps ?_
  simp -implicitDefEqProofs only [o_l8_CacheKeeps, r_l8_CacheKeeps_0, r_l8_CacheKeeps_1, r_l8_CacheKeeps_3, lwakes.eq, o_mv, o_un, v_rto, v_not, ev_tm, ev_cst, evs_cons, evs_nil, putD_some, fill_cons, fill_nil, ↓reduceIte, Nat.reduceAdd, Nat.zero_add, Bool.not_true, List.append_nil, GO_nil, GO_op, GO_call, GN_some, GF_func, CK_app, GX_skip, GX_reg, GX_seq, GX_cond, RK_app, SK_normal, GC_false]
  refine dnew (n := 8) hw (by omega) (by omega) fun m1 d cb D hd hL hfu hde hf0 hw0 hfr k1 => ?_
  have hw1 := k1.wf
  obtain ⟨m2, e2, ha2, k2, n2⟩ := addL_at hw1 ty_int 0 []
  have hw2 := k2.wf
  obtain ⟨m3, p, ob, e3, hp3, ⟨op, hr3⟩, k3, ho3⟩ := appI hw2 ha2 ((hp.keep hw k1 fun _ _ h => h).keep hw1 k2 fun _ _ h => h) (by omega)
  have hw3 := k3.wf
  have hob := hp3.lt hw3
  simp -implicitDefEqProofs only [o_l8_CacheKeeps, r_l8_CacheKeeps_4, r_l8_CacheKeeps_5, repl_0, e2, e3, o_mv, o_bslice, o_ext, o_app, v_elTup, v_ob, v_rto, pv_nil, fillA_nil, ev_tm, ev_cst, evs_cons, evs_nil, putD_some, ↓reduceIte, Nat.reduceEqDiff, List.append_nil, List.getElem?_cons_succ, List.getElem?_cons_zero, GO_nil, GO_op, GO_call, GN_some, GF_func, CK_app, GX_reg, GX_seq, RK_app, SK_normal]
  refine cnew (cap := 4) hw3 (by omega) (by omega) hr3 (by omega) fun m4 c C hc hcc hcl hcm k4 hcpo => ?_
  have hw4 := k4.wf
  have k14 := (k1.tf k2).tf k3
  have h0 : KI m4 c d cb C D 0 := by
    refine ⟨hw4, hc, ((hd.k0 hw1 k2).k0 hw2 k3).k0 hw3 k4, ⟨by omega, by omega, by rw [hcl]; simp, fun l hl => (by rw [hcl] at hl; cases hl)⟩, ⟨fun x hx => by rw [(hfr x hx).2]; exact Nat.le_refl _, fun x hx => ?_, by omega, by rw [hf0]; simp, by rw [hf0]; omega, by rw [hw0]; simp, by rw [hw0]; simp⟩, hL, hfu, hde, fun l hl => (by rw [hcl] at hl; cases hl), fun k => (by unfold pinsOf fl; rw [hcl]; rfl)⟩
    unfold Cw.last
    rw [(hfr x hx).2]
    show x.al.length = 64
    rw [(hfr x hx).1]; simp [zeros]
  have hp4 := hp3.keep hw3 k4 fun _ _ h => h
  have hl4 := ((((hl.k0 hw k1).k0 hw1 k2).k0 hw2 k3)).k0 hw3 k4
  have hpo4 : ∀ b, C.po = some b → b < m4.next := fun b hb => (hc.pk b hb).lt hw4
  clear hc hd hfr hL hfu hde hf0 hw0 hl hp hr3
  have hpl' : (ps.length : Int) ≤ 17592186044416 := by omega
  simp -implicitDefEqProofs only [o_l8_CacheKeeps, r_l8_CacheKeeps_6, r_l8_CacheKeeps_8, b_np28, o_mv, o_pick, o_ne, o_eqp, o_ext, v_elB, v_elTup, v_rto, v_eqp_n, b_ne, ev_tm, ev_cst, putD_some, want_b, bc_false, ↓reduceIte, Nat.reduceEqDiff, decide_true, Bool.not_true, Bool.not_false, List.getElem?_cons_succ, List.getElem?_cons_zero, GO_nil, GO_op, GO_opG, GN_some, GG_true, CK_app, GX_skip, GX_reg, GX_seq, GX_cond, GX_block, RK_app, SK_normal, GC_false]
  refine GX_loop (fun j fr mk => ∃ i cells, i ≤ ps.length ∧ j = ps.length - i ∧ (ev (tm 0) fr = .y x.toNat ∧ ev (tm 1) fr = .y y.toNat ∧ ev (tm 3) fr = lx ∧ ev (tm 11) fr = p ∧ ev (tm 12) fr = .ptr c 0 ∧ ev (tm 14) fr = iv i) ∧ SlE mk ty_int p ps.length cells (some ob) ∧ Keep m4 mk (fun z => z = ob)) (k := ps.length) ⟨0, _, Nat.zero_le _, rfl, by simp -implicitDefEqProofs only [ev_tm, ↓reduceIte, Nat.reduceEqDiff, nc0, and_self], hp4, Keep.refl hw4 _⟩ ?_
  rintro j fr mk ⟨i, cells, hi, rfl, ⟨e0, e1, e3', e11, e12, e14⟩, hpk, kk⟩
  have hwk := kk.wf
  by_cases hlt : i < ps.length
  · obtain ⟨b, cap, m5, hx, ho, e5, hp5, k5⟩ := set_slI hpk hwk hlt (iv (-5))
    have hlp := hpk.len
    rw [hx] at hlp
    simp -implicitDefEqProofs only [o_l8_CacheKeeps, r_l8_CacheKeeps_9, r_l8_CacheKeeps_11, r_l8_CacheKeeps_10, e11, e14, hx, hlp, show ((i : Int) < (ps.length : Int)) = True from eq_true (by omega), v_iaS 1 b 0 ps.length cap false hlt, Nat.mul_one, e5, b_add ty_int (show -9223372036854775808 ≤ (i : Int) + 1 by omega) (show (i : Int) + 1 ≤ 9223372036854775807 by omega), o_mv, o_store, o_add, o_lt, o_iaS, o_len, v_elPtr, v_ob, v_rto, b_lt, cells_iv, ev_tm, ev_cst, putD_none, putD_some, bc_true, nbeq, ↓reduceIte, Nat.reduceEqDiff, List.length_cons, List.length_nil, Nat.zero_add, decide_true, GO_nil, GO_op, GN_some, GX_skip, GX_reg, GX_seq, GX_cond, GX_block, RK_app, SK_normal, GC_true, BK_normal]
    exact LK_n (k' := ps.length - (i + 1)) (by omega) ⟨i + 1, _, by omega, rfl, by simp -implicitDefEqProofs only [e0, e1, e3', e11, hx, e12, show (i : Int) + 1 = ((i + 1 : Nat) : Int) from rfl, ev_tm, ↓reduceIte, Nat.reduceEqDiff, and_self], (by rw [← hx]; exact hp5), kk.trans k5 fun z _ e => by cases ho; exact e⟩
  have hie : i = ps.length := by omega
  subst hie
  have hF0 : ∀ b, (fun z => z = ob) b → (kd m4 b (ty_uint8 + 1) ∧ ¬ uOwn C D b) ∨ (kd m4 b (ty_int + 1) ∧ C.po ≠ some b) := fun b hb => by
    have hb : b = ob := hb
    subst hb
    exact .inr ⟨hp4.kd, fun e => by have := hcpo b e; omega⟩
  have h1 := h0.kf kk hF0
  have hlk := hl4.kk hw4 kk fun b hb hk => by
    have hb : b = ob := hb
    subst hb
    exact absurd (hp4.kd.inj hk) (by decide)
  have hnk := kk.next
  clear h0 hl4 hF0
  obtain ⟨m5, sa, ba, hba, k5, n5, r5⟩ := lfull hwk x
  have hw5 := k5.wf
  have hba5 := hba.lt hw5
  obtain ⟨m6, rb, hrb, n6, k6, r6⟩ := roomy hw5 hba (by simp) (by simp)
  have hw6 := k6.wf
  have hr64 : (List.replicate 64 x).length = 64 := by simp
  rw [hr64] at r6
  have h6 := (h1.k0 k5).k0 k6
  have hba6 := hba.keep hw5 k6 fun h => h
  have hlk6 := (hlk.k0 hwk k5).k0 hw5 k6
  have hrB : BtU m6 (.slice rb 0 64 68 false) (List.replicate 64 x) rb := by
    refine ⟨?_, hrb.kd⟩
    have := BsAt.row (m := m6) (b := rb) (off := 0) (cap := 68) (lim := false) (l := List.replicate 64 x) hrb.r (by simp [ycells]) (by rw [List.drop_zero, hr64, List.take_append_of_le_length (by simp [ycells]), List.take_of_length_le (by simp [ycells])])
    rwa [hr64] at this
  have hrl := hrb.lt hw6
  simp -implicitDefEqProofs only [o_l8_CacheKeeps, r_l8_CacheKeeps_9, r_l8_CacheKeeps_12, r_l8_CacheKeeps_13, r_l8_CacheKeeps_14, e0, e11, e12, e14, hpk.len, show ((ps.length : Int) < (ps.length : Int)) = False from eq_false (by omega), r5.eq, r6.eq, o_mv, o_lt, o_len, v_ob, v_rto, b_lt, ev_tm, ev_cst, evs_cons, evs_nil, putD_some, nbeq, ↓reduceIte, Nat.reduceEqDiff, Nat.reduceAdd, decide_true, decide_false, List.append_nil, GO_nil, GO_op, GO_call, GN_some, GF_func, CK_app, GX_reg, GX_seq, GX_cond, GX_exit, RK_app, SK_normal, SK_exit, GC_false, BK_exit, BE_true, LK_exit]
  have hown6 : ∀ z, uOwn C D z → z < m5.next := fun z hz => uOwn.lt hw5 (h1.k0 k5).cc (h1.k0 k5).dv hz
  refine h6.put (k := 1) (by omega) (by omega) hrB hr64 fun m7 C7 D7 h7 hv7 k7 hg7 hpo7 hmb7 hln7 hcp7 => ?_
  have hw7 := k7.wf
  have hn7 := k7.next
  have hba7 := hba6.kp hw6 k7
  have hlk7 := hlk6.kp hw6 k7
  have hcap7 : C7.ls.length ≤ 4 := by
    have := h7.cl.len
    omega
  have hr7 : At m7 rb ty_uint8 true (ycells (List.replicate 64 x) ++ List.replicate 4 (.y 165)) := hrb.keep hw6 k7 (Kinds.not hrb.kd (by decide) (by decide))
  have hnr7 : ¬ uOwn C7 D7 rb := fun hz => by
    rcases hg7 rb hz with hz | hz
    · have := hown6 rb hz; omega
    · omega
  simp -implicitDefEqProofs only [o_l8_CacheKeeps, r_l8_CacheKeeps_15, o_mv, ev_tm, ev_cst, putD_some, ↓reduceIte, GO_nil, GO_op, GN_some, CK_app, GX_reg, GX_seq, GX_block, RK_app, SK_normal]
  have hF7 : ∀ mk, Keep m7 mk (fun z => z = rb) → KI mk c d cb C7 D7 1 := fun mk kk => h7.kf kk fun b hb => by
    have hb : b = rb := hb
    subst hb
    exact .inl ⟨hr7.kd, hnr7⟩
  have hr7s : SlE m7 ty_uint8 (.slice rb 0 64 68 false) 64 (ycells (List.replicate 64 x)) (some rb) := .inl (.row hr7 (by simp [ycells]) (by simp) (by omega) (by omega))
  clear e11 e14
  refine GX_loop (fun j fr mk => ∃ i cells, i ≤ 64 ∧ j = 64 - i ∧ (ev (tm 1) fr = .y y.toNat ∧ ev (tm 3) fr = lx ∧ ev (tm 12) fr = .ptr c 0 ∧ ev (tm 13) fr = iv 0 ∧ ev (tm 15) fr = sa ∧ ev (tm 16) fr = .slice rb 0 64 68 false ∧ ev (tm 17) fr = iv i) ∧ SlE mk ty_uint8 (.slice rb 0 64 68 false) 64 cells (some rb) ∧ Keep m7 mk (fun z => z = rb)) (k := 64) ⟨0, _, Nat.zero_le _, rfl, by simp -implicitDefEqProofs only [e1, e3', e12, ev_tm, ↓reduceIte, Nat.reduceEqDiff, nc0, and_self], hr7s, Keep.refl hw7 _⟩ ?_
  clear e0 e1 e3' e12 hpk
  rintro j fr mk' ⟨i, cells, hi, rfl, ⟨e1, e3, e12, e13, e15, e16, e17⟩, hrk, kk'⟩
  have hwk' := kk'.wf
  by_cases hlt : i < 64
  · obtain ⟨b, cap, m8, hx, ho, e8, hr8, k8⟩ := set_slY hrk hwk' hlt (.y y.toNat)
    cases hx
    simp -implicitDefEqProofs only [o_l8_CacheKeeps, r_l8_CacheKeeps_16, r_l8_CacheKeeps_18, r_l8_CacheKeeps_17, e1, e16, e17, show ((i : Int) < 64) = True from eq_true (by omega), v_iaS 1 rb 0 64 68 false hlt, Nat.mul_one, e8, b_add ty_int (show -9223372036854775808 ≤ (i : Int) + 1 by omega) (show (i : Int) + 1 ≤ 9223372036854775807 by omega), o_mv, o_store, o_add, o_lt, o_iaS, v_elPtr, v_ob, v_rto, b_lt, ev_tm, ev_cst, putD_none, putD_some, bc_true, nbeq, ↓reduceIte, Nat.reduceEqDiff, List.length_cons, List.length_nil, Nat.zero_add, decide_true, GO_nil, GO_op, GN_some, GX_skip, GX_reg, GX_seq, GX_cond, GX_block, RK_app, SK_normal, GC_true, BK_normal, cells_yc]
    exact LK_n (k' := 64 - (i + 1)) (by omega) ⟨i + 1, _, by omega, rfl, by simp -implicitDefEqProofs only [e1, e3, e12, e13, e15, e16, show (i : Int) + 1 = ((i + 1 : Nat) : Int) from rfl, ev_tm, ↓reduceIte, Nat.reduceEqDiff, and_self], hr8, kk'.trans k8 fun z _ e => by cases ho; exact e⟩
  have hi64 : i = 64 := by omega
  subst hi64
  /- the list of blocks that are written out -/
  have h8 := hF7 mk' kk'
  have hba8 := hba7.keep hw7 kk' (fun e => by have e : ba = rb := e; omega)
  have hlk8 := hlk7.kk hw7 kk' fun b hb hk => by
    have hb : b = rb := hb
    subst hb
    exact absurd (hr7.kd.inj hk) (by decide)
  have hnk' := kk'.next
  obtain ⟨m9, e9, ha9, k9, n9⟩ := addL_at hwk' ty_int 0 []
  have hw9 := k9.wf
  have hlk9 := hlk8.k0 hwk' k9
  obtain ⟨ol, hrl9, hol9⟩ := hlk9
  obtain ⟨m10, l, lo, e10, hl10, _, k10, ho10⟩ := appI hw9 ha9 hrl9 (by omega)
  have hw10 := k10.wf
  have h10 := (h8.k0 k9).k0 k10
  have hlo := hl10.lt hw10
  have hlo2 : mk'.next ≤ lo := by rcases ho10 with h | h <;> omega
  have hba10 := (hba8.keep hwk' k9 fun h => h).keep hw9 k10 fun h => h
  have hlk10 := (hlk8.k0 hwk' k9).k0 hw9 k10
  have hr10 := (hrk.keep hwk' k9 fun _ _ h => h).keep hw9 k10 fun _ _ h => h
  simp -implicitDefEqProofs only [o_l8_CacheKeeps, r_l8_CacheKeeps_16, r_l8_CacheKeeps_19, r_l8_CacheKeeps_20, e3, e12, e17, show (((64 : Nat) : Int) < 64) = False from eq_false (by omega), repl_0, e9, e10, o_mv, o_bslice, o_lt, o_app, v_ob, v_rto, b_lt, pv_nil, fillA_nil, ev_tm, ev_cst, evs_cons, evs_nil, putD_some, nbeq, ↓reduceIte, Nat.reduceEqDiff, Nat.reduceSub, decide_true, decide_false, List.append_nil, GO_nil, GO_op, GO_call, GN_some, GF_func, GX_reg, GX_seq, GX_cond, GX_exit, RK_app, SK_normal, SK_exit, GC_false, BK_exit, BE_true, LK_exit]
  refine h10.outAny (by omega) hl10.cells1 (fun m' k' => (hl10.keep hw10 k' fun _ _ h => h).vs) (by omega) fun m11 C11 D11 v11 h11 hv11 k11 hg11 hpo11 hmb11 hln11 hcp11 => ?_
  have hw11 := h11.wf
  have hn11 := k11.next
  have hba11 := hba10.kp hw10 k11
  have hlk11 := hlk10.kp hw10 k11
  have hr11 := hr10.keep hw10 k11 fun b hb => by cases hb; exact Kinds.not hr10.kd (by decide) (by decide)
  have hl11 := hl10.keep hw10 k11 fun b hb => by cases hb; exact Kinds.not hl10.kd (by decide) (by decide)
  have hv1 : vw C11 D11 1 = some (List.replicate 64 x) := by rw [hv11, hv7]; rfl
  have hnr11 : ¬ uOwn C11 D11 rb := fun hz => by
    rcases hg11 rb hz with hz | hz
    · exact hnr7 hz
    · have := k9.next; have := k10.next; omega
  simp -implicitDefEqProofs only [o_l8_CacheKeeps, r_l8_CacheKeeps_21, e12, o_mv, ev_tm, ev_cst, evs_cons, evs_nil, putD_some, ↓reduceIte, Nat.reduceEqDiff, List.append_nil, GO_nil, GO_op, GO_call, GN_some, GF_func, CK_app, GX_reg, GX_seq, RK_app, SK_normal]
  refine h11.get (k := 1) (by omega) (by omega) hv1 hr64 fun m12 C12 D12 b bb h12 hv12 hb12 hbs12 k12 hbn12 hg12 hne12 hpo12 hmb12 hln12 hcp12 => ?_
  have hw12 := h12.wf
  have hn12 := k12.next
  have hbb12 := hb12.lt hw12
  simp -implicitDefEqProofs only [o_l8_CacheKeeps, r_l8_CacheKeeps_22, e12, o_mv, o_ext, v_elTup, v_rto, ev_tm, ev_cst, evs_cons, evs_nil, putD_some, ↓reduceIte, Nat.reduceEqDiff, List.append_nil, List.getElem?_cons_succ, List.getElem?_cons_zero, GO_nil, GO_op, GO_call, GN_some, GF_func, CK_app, GX_reg, GX_seq, RK_app, SK_normal]
  refine h12.get (k := 1) (by omega) (by omega) ((hv12 1).trans hv1) hr64 fun m13 C13 D13 g gb h13 hv13 hg13 hgs13 k13 hgn13 hgr13 hne13 hpo13 hmb13 hln13 hcp13 => ?_
  have hw13 := h13.wf
  have hn13 := k13.next
  have hgb13 := hg13.lt hw13
  simp -implicitDefEqProofs only [o_l8_CacheKeeps, r_l8_CacheKeeps_23, e12, o_mv, o_ext, v_elTup, v_rto, ev_tm, ev_cst, evs_cons, evs_nil, putD_some, ↓reduceIte, Nat.reduceEqDiff, List.append_nil, List.getElem?_cons_succ, List.getElem?_cons_zero, GO_nil, GO_op, GO_call, GN_some, GF_func, CK_app, GX_reg, GX_seq, RK_app, SK_normal]
  have hl1 : 1 ≤ C13.ls.length := hln13 (hln12 (by omega))
  have hcap13 : C13.ls.length ≤ 4 := by
    have := h13.cl.len
    omega
  have hdz13 := dz_len C13
  refine h13.held hl1 fun m14 x14 o14 z14 hx14 hz14 k14' hn14 => ?_
  have hw14 := k14'.wf
  have h14 := h13.k0 k14'
  have ho14 := hx14.lt hw14
  simp -implicitDefEqProofs only [e12, o_mv, ev_tm, ev_cst, evs_cons, evs_nil, putD_some, ↓reduceIte, Nat.reduceEqDiff, List.append_nil, GO_op, GO_call, GN_some, GF_func, CK_app]
  refine cdirty h14.wf h14.cc h14.cl h14.dl.len fun m15 x15 hx15 k15 => ?_
  have hw15 := k15.wf
  obtain ⟨o15, hs15, hn15⟩ := hx15.sle
  have ho15 : ∀ b, o15 = some b → b < m15.next := fun b hb => by subst hb; exact hs15.lt hw15
  simp -implicitDefEqProofs only [o_l8_CacheKeeps, r_l8_CacheKeeps_24, e12, o_mv, ev_tm, ev_cst, evs_cons, evs_nil, putD_some, ↓reduceIte, Nat.reduceEqDiff, List.append_nil, GO_nil, GO_op, GO_call, GN_some, GF_func, CK_app, GX_reg, GX_seq, RK_app, SK_normal]
  refine (h14.k0 k15).held hl1 fun m16 x16 o16 z16 hx16 hz16 k16 hn16 => ?_
  have hw16 := k16.wf
  have h16 := (h14.k0 k15).k0 k16
  have ho16 := hx16.lt hw16
  simp -implicitDefEqProofs only [e12, o_mv, ev_tm, ev_cst, evs_cons, evs_nil, putD_some, ↓reduceIte, Nat.reduceEqDiff, List.append_nil, GO_op, GO_call, GN_some, GF_func, CK_app]
  refine cdirty h16.wf h16.cc h16.cl h16.dl.len fun m17 x17 hx17 k17 => ?_
  have hw17 := k17.wf
  obtain ⟨o17, hs17, hn17⟩ := hx17.sle
  have ho17 : ∀ b, o17 = some b → b < m17.next := fun b hb => by subst hb; exact hs17.lt hw17
  have kz : Keep m13 m17 fun _ => False := ((k14'.tf k15).tf k16).tf k17
  have h17 := h13.k0 kz
  have hnz := kz.next
  have q14 := k14'.next
  have q15 := k15.next
  have q16 := k16.next
  have q17 := k17.next
  have qa := k9.next
  have qb := k10.next
  have k1317 : KeepK m11 m13 cdK [C11.mb] := k12.tk k13 (hR := by simp [hmb12])
  have hba17 := ((hba11.kp hw11 k1317)).keep hw13 kz fun h => h
  have hlk17 := (hlk11.kp hw11 k1317).k0 hw13 kz
  have hr13 := hr11.keep hw11 k1317 fun b hb => by cases hb; exact Kinds.not hr11.kd (by decide) (by decide)
  have hl13 := hl11.keep hw11 k1317 fun b hb => by cases hb; exact Kinds.not hl11.kd (by decide) (by decide)
  have hr17 := hr13.keep hw13 kz fun _ _ h => h
  have hl17 := hl13.keep hw13 kz fun _ _ h => h
  have hb13 := hbs12.keep hw12 k13 fun b hb => by cases hb; exact Kinds.not hbs12.kd (by decide) (by decide)
  have hbu13 := hb12.kp hw12 k13
  have hb17 := hb13.keep hw13 kz fun _ _ h => h
  have hbu17 := hbu13.keep hw13 kz fun h => h
  have hg17 := hgs13.keep hw13 kz fun _ _ h => h
  have hs1 := (same_spec (m := m17) hbu17.bs hba17.bs).eq
  have hs2 := (sameI (SlE.vs hl17) hlk17.vs (by omega)).eq
  obtain ⟨m18, e18, ha18, k18, n18⟩ := addL_at hw17 ty_suint8 3 [b, g, .slice rb 0 64 68 false]
  have hw18 := k18.wf
  have repl_3 : ∀ z : List AV, repl 3 z = z ++ (z ++ (z ++ [])) := fun _ => rfl
  have repl_5 : ∀ z : List AV, repl 5 z = z ++ (z ++ (z ++ (z ++ (z ++ [])))) := fun _ => rfl
  simp -implicitDefEqProofs only [o_l8_CacheKeeps, r_l8_CacheKeeps_25, r_l8_CacheKeeps_27, e3, e13, e15, e16, hs1, hs2, repl_3, hb17.cells1, hg17.cells1, e18, o_mv, o_pick, o_bslice, o_ne, o_un, v_elB, v_ob, v_rto, v_not, b_ne, pv_nil, pv_cons, fillA_nil, fillA_cons, ev_tm, ev_cst, evs_cons, evs_nil, putD_some, want_b, bc_true, bc_false, nbeq, nble, ↓reduceIte, Nat.reduceEqDiff, Nat.reduceAdd, Nat.reduceLeDiff, List.length_cons, List.length_nil, Nat.zero_add, decide_true, Bool.true_and, Bool.and_true, Bool.not_true, Bool.not_false, List.take_succ_cons, List.take_zero, List.drop_succ_cons, List.drop_zero, List.drop_nil, List.nil_append, List.cons_append, List.append_nil, GO_nil, GO_op, GO_opG, GO_call, GO_callG, GN_some, GG_true, GF_func, GFG_true, CK_app, GX_skip, GX_reg, GX_seq, GX_cond, RK_app, SK_normal, GC_false, cells_slc]
  have hmem : ∀ {P : Lz → Prop} {zs : List Lz}, (∀ z ∈ zs, P z) → ∀ (j : Nat) (z : Lz), zs[j]? = some z → P z := fun h j z hj => h z (List.mem_of_getElem? hj)
  have hlb : (ycells (List.replicate 64 x)).length = 64 := by simp [ycells]
  refine bytes_apart (zs := [⟨b, 64, some bb⟩, ⟨g, 64, some gb⟩, ⟨.slice rb 0 64 68 false, 64, some rb⟩]) hw18 (by simp) ha18 (hmem fun z hz => ?_) (hd_of ?_) (by simp) (by simp [Lz.S]) (hmem fun z hz => ?_) fun m19 k19 => ?_
  · simp only [List.mem_cons, List.not_mem_nil, or_false] at hz
    rcases hz with rfl | rfl | rfl
    · rw [hr64] at hb17
      exact ⟨_, (SlE.keep (.inl hb17) hw17 k18 fun _ _ h => h)⟩
    · rw [hr64] at hg17
      exact ⟨_, (SlE.keep (.inl hg17) hw17 k18 fun _ _ h => h)⟩
    · exact ⟨_, hr17.keep hw17 k18 fun _ _ h => h⟩
  · simp only [List.pairwise_cons, List.mem_cons, List.not_mem_nil, or_false, forall_eq_or_imp, forall_eq, Option.some.injEq, ne_eq, List.Pairwise.nil, and_true]
    refine ⟨⟨fun _ e e2 => by omega, fun _ e e2 => by omega⟩, fun _ e e2 => by omega, fun _ h => h.elim⟩
  · simp only [List.mem_cons, List.not_mem_nil, or_false] at hz
    rcases hz with rfl | rfl | rfl <;> simp
  have hw19 := k19.wf
  have hF19 : ∀ z, Lz.F [⟨b, 64, some bb⟩, ⟨g, 64, some gb⟩, ⟨.slice rb 0 64 68 false, 64, some rb⟩] z → z = bb ∨ z = gb ∨ z = rb := fun z ⟨j, w, hj, ho⟩ => by
    have := List.mem_of_getElem? hj
    simp only [List.mem_cons, List.not_mem_nil, or_false] at this
    rcases this with rfl | rfl | rfl <;> cases ho <;> simp
  have h18 := h17.k0 k18
  have hn18 := k18.next
  have kd18 : ∀ z, z = bb ∨ z = gb ∨ z = rb → kd m18 z (ty_uint8 + 1) := fun z hz => by
    rcases hz with rfl | rfl | rfl
    · exact (hb17.keep hw17 k18 fun _ _ h => h).kd
    · exact (hg17.keep hw17 k18 fun _ _ h => h).kd
    · exact (hr17.keep hw17 k18 fun _ _ h => h).kd
  have hrb13 : ¬ uOwn C13 D13 rb := fun hz => by
    rcases hgr13 rb hz with hz | hz
    · rcases hg12 rb hz with hz | hz
      · exact hnr11 hz
      · omega
    · omega
  have hbb13 : ¬ uOwn C13 D13 bb := fun hz => by
    rcases hgr13 bb hz with hz | hz
    · exact hne12 bb hz rfl
    · omega
  have h19 := h18.kf k19 fun z hz => by
    have hk := kd18 z (hF19 z hz)
    rcases hF19 z hz with rfl | rfl | rfl
    · exact .inl ⟨hk, hbb13⟩
    · exact .inl ⟨hk, fun h => hne13 _ h rfl⟩
    · exact .inl ⟨hk, hrb13⟩
  have hint : ∀ {z : Nat} {k : Nat}, kd m18 z k → k ≠ ty_uint8 + 1 → ¬ Lz.F [⟨b, 64, some bb⟩, ⟨g, 64, some gb⟩, ⟨.slice rb 0 64 68 false, 64, some rb⟩] z := fun hk hne hf => hne (hk.inj (kd18 _ (hF19 _ hf)))
  have hba18 := hba17.keep hw17 k18 fun h => h
  have hba19 := hba18.keep hw18 k19 fun hf => by
    have := hF19 ba hf
    omega
  have kl : ∀ {x : AV} {len : Nat} {cells : List AV} {o : Option Nat}, SlE m17 ty_int x len cells o → SlE m19 ty_int x len cells o := fun h => by
    have h' := h.keep hw17 k18 fun _ _ h => h
    exact h'.keep hw18 k19 fun b hb => by subst hb; exact hint h'.kd (by decide)
  have q1 := kl (((hx14.keep hw14 k15 fun _ _ h => h).keep hw15 k16 fun _ _ h => h).keep hw16 k17 fun _ _ h => h)
  have q2 := kl ((hs15.keep hw15 k16 fun _ _ h => h).keep hw16 k17 fun _ _ h => h)
  have q3 := kl (hx16.keep hw16 k17 fun _ _ h => h)
  have q4 := kl hs17
  have q5 := kl hl17
  have hlk19 : True := trivial
  obtain ⟨m20, e20, ha20, k20, n20⟩ := addL_at hw19 ty_sint 5 [x14, x15, x16, x17, l]
  have hw20 := k20.wf
  simp -implicitDefEqProofs only [repl_5, q1.cells1, q2.cells1, q3.cells1, q4.cells1, q5.cells1, e20, o_mv, o_bslice, o_un, v_ob, v_rto, v_not, pv_nil, pv_cons, fillA_nil, fillA_cons, ev_tm, evs_cons, evs_nil, putD_some, want_b, bc_true, bc_false, nbeq, nble, ↓reduceIte, Nat.reduceEqDiff, Nat.reduceAdd, Nat.reduceLeDiff, List.length_cons, List.length_nil, Nat.zero_add, decide_true, Bool.true_and, Bool.and_true, Bool.not_true, Bool.not_false, List.take_succ_cons, List.take_zero, List.drop_succ_cons, List.drop_zero, List.drop_nil, List.nil_append, List.cons_append, List.append_nil, GO_op, GO_opG, GO_callG, GN_some, GG_true, GFG_true, CK_app]
  have hfar : ∀ {z : Nat}, z < mk'.next → z < m11.next := fun h => by omega
  refine ints_apart (zs := [⟨x14, z14.length, some o14⟩, ⟨x15, C13.dz.length, o15⟩, ⟨x16, z16.length, some o16⟩, ⟨x17, C13.dz.length, o17⟩, ⟨l, zs.length, some lo⟩]) hw20 (by simp) ha20 (hmem fun z hz => ?_) (hd_of ?_) (by simp) (by simp [Lz.S]; omega) (hmem fun z hz => ?_) fun m21 k21 => ?_
  · have kk20 : ∀ {x : AV} {len : Nat} {cells : List AV} {o : Option Nat}, SlE m19 ty_int x len cells o → ∃ c, SlE m20 ty_int x len c o := fun h => ⟨_, h.keep hw19 k20 fun _ _ h => h⟩
    simp only [List.mem_cons, List.not_mem_nil, or_false] at hz
    rcases hz with rfl | rfl | rfl | rfl | rfl
    · exact kk20 q1
    · exact kk20 q2
    · exact kk20 q3
    · exact kk20 q4
    · exact kk20 q5
  · simp only [List.pairwise_cons, List.mem_cons, List.not_mem_nil, or_false, forall_eq_or_imp, forall_eq, Option.some.injEq, ne_eq, List.Pairwise.nil, and_true]
    refine ⟨⟨fun _ e e2 => ?_, fun _ e e2 => ?_, fun _ e e2 => ?_, fun _ e e2 => ?_⟩, ⟨fun _ e e2 => ?_, fun _ e e2 => ?_, fun _ e e2 => ?_⟩, ⟨fun _ e e2 => ?_, fun _ e e2 => ?_⟩, fun _ e e2 => ?_, fun _ h => h.elim⟩
    · have := hn15 _ e2; omega
    · omega
    · have := hn17 _ e2; omega
    · omega
    · have := hn15 _ e; have := ho15 _ e; omega
    · have := ho15 _ e; have := hn17 _ e2; omega
    · have := hn15 _ e; omega
    · have := hn17 _ e2; omega
    · omega
    · have := hn17 _ e; omega
  · simp only [List.mem_cons, List.not_mem_nil, or_false] at hz
    rcases hz with rfl | rfl | rfl | rfl | rfl <;> (dsimp only; omega)
  have hF21 : ∀ z, Lz.F [⟨x14, z14.length, some o14⟩, ⟨x15, C13.dz.length, o15⟩, ⟨x16, z16.length, some o16⟩, ⟨x17, C13.dz.length, o17⟩, ⟨l, zs.length, some lo⟩] z → kd m20 z (ty_int + 1) ∧ mk'.next ≤ z := fun z ⟨j, w, hj, ho⟩ => by
    have := List.mem_of_getElem? hj
    have kk20 : ∀ {x : AV} {len : Nat} {cells : List AV} {b : Nat}, SlE m19 ty_int x len cells (some b) → kd m20 b (ty_int + 1) := fun h => (h.keep hw19 k20 fun _ _ h => h).kd
    simp only [List.mem_cons, List.not_mem_nil, or_false] at this
    rcases this with rfl | rfl | rfl | rfl | rfl
    · cases ho; exact ⟨kk20 q1, by omega⟩
    · have ho : o15 = some z := ho
      rw [ho] at q2
      have := hn15 z ho
      exact ⟨kk20 q2, by omega⟩
    · cases ho; exact ⟨kk20 q3, by omega⟩
    · have ho : o17 = some z := ho
      rw [ho] at q4
      have := hn17 z ho
      exact ⟨kk20 q4, by omega⟩
    · cases ho; exact ⟨kk20 q5, hlo2⟩
  have hpoC : C13.po = C.po := by rw [hpo13, hpo12, hpo11, hpo7]
  have h21 := (h19.k0 k20).kf k21 fun z hz => by
    obtain ⟨g1, g2⟩ := hF21 z hz
    refine .inr ⟨g1, fun e => ?_⟩
    rw [hpoC] at e
    have := hpo4 z e
    omega
  have hw21 := k21.wf
  have hba21 := (hba19.keep hw19 k20 fun h => h).keep hw20 k21 fun hf => by
    obtain ⟨g1, _⟩ := hF21 ba hf
    exact absurd (g1.inj ((hba19.keep hw19 k20 fun h => h).kd)) (by decide)
  simp -implicitDefEqProofs only [o_l8_CacheKeeps, r_l8_CacheKeeps_29, e12, o_mv, o_pick, o_un, v_elB, v_rto, v_not, ev_tm, ev_cst, evs_cons, evs_nil, putD_some, want_b, bc_false, ↓reduceIte, Nat.reduceEqDiff, Bool.not_true, Bool.not_false, List.append_nil, GO_nil, GO_op, GO_opG, GO_call, GN_some, GG_true, GF_func, CK_app, GX_skip, GX_reg, GX_seq, GX_cond, RK_app, SK_normal, GC_false]
  refine h21.get (k := 1) (by omega) (by omega) (((hv13 1).trans (hv12 1)).trans hv1) hr64 fun m22 C22 D22 z zb h22 hv22 hz22 _ k22 _ _ _ _ _ _ _ => ?_
  have hba22 := hba21.kp hw21 k22
  have hs3 := (same_spec (m := m22) hz22.bs hba22.bs).eq
  simp -implicitDefEqProofs only [o_l8_CacheKeeps, r_l8_CacheKeeps_30, e15, hs3, o_mv, o_pick, o_eq, o_ext, v_elB, v_elTup, v_rto, b_eq, ev_tm, ev_cst, evs_cons, evs_nil, putD_some, want_b, bc_true, ↓reduceIte, Nat.reduceEqDiff, decide_true, Bool.not_true, List.getElem?_cons_succ, List.getElem?_cons_zero, GO_nil, GO_op, GO_opG, GO_callG, GN_some, GG_true, GFG_true, CK_app, GX_reg, GX_seq, GX_ret, RK_app, SK_normal, FK_ret1]
end Go.Proofs.Ytmkbjcjlnidjiaa
