import Derived.Test.YthbfinjddaembaaGreatWz
import Derived.Test.YthbfinjddaembaaGreatAmRf
set_option linter.unusedVariables false
set_option linter.unusedSimpArgs false
/- A list is committed in chunks: there is one. -/
namespace Go.Am
open Go Go.RowKit
section
variable {m : M}
theorem o_sl3a (sz : Nat) (x l h k : RO) {fr : Fr} : run (.sl sz true x (some l) (some h) (some k)) fr m = rSl sz true (.cst (ev x fr)) (some (.cst (ev l fr))) (some (.cst (ev h fr))) (some (.cst (ev k fr))) .leaf m := rfl
theorem v_sl0n (sz b n cap : Nat) (lim : Bool) (h : n ≤ cap) (h0 : 0 < n) : rSl sz true (.cst (.slice b 0 n cap lim)) (some (.cst (iv 0))) (some (.cst (iv (n : Int)))) (some (.cst (iv (n : Int)))) .leaf m = some (.slice b 0 n n true, m) := by
  show ob (bc (Nat.ble n cap) (some n) none) (fun c => ob (bc (Nat.ble n c) (some n) none) fun h => ob (bc (Nat.ble 0 h) (some 0) none) fun l => bc (Nat.ble h c) (
      bc (Nat.beq c l && !Nat.beq l 0) (fc (Nat.mul l sz) fun adv => slEnd m b 0 adv (lim || true))
      (fc (Nat.add 0 (Nat.mul l sz)) fun o => fc (Nat.sub h l) fun n => fc (Nat.sub c l) fun k => some (.slice b o n k (lim || true), m))) none) = _
  rw [nble, decide_eq_true h, bc_true, v_ob, nble, decide_eq_true (Nat.le_refl n), bc_true, v_ob, nble, decide_eq_true (Nat.zero_le n), bc_true, v_ob]
  show bc (Nat.ble n n) (bc (Nat.beq n 0 && !Nat.beq 0 0) _ (fc (Nat.add 0 (Nat.mul 0 sz)) fun o => fc (Nat.sub n 0) fun n' => fc (Nat.sub n 0) fun k => some (AV.slice b o n' k (lim || true), m))) none = _
  rw [nble, decide_eq_true (Nat.le_refl n), bc_true, Nat.beq_refl, Bool.not_true, Bool.and_false, bc_false, fc_eq, fc_eq, fc_eq, Bool.or_true]
  show some (AV.slice b (0 + 0 * sz) (n - 0) (n - 0) true, m) = _
  rw [Nat.zero_mul, Nat.sub_zero]
theorem v_drop00 (sz b n cap : Nat) (lim : Bool) (h : n ≤ cap) : rSl sz false (.cst (.slice b 0 n cap lim)) (some (.cst (iv 0))) none none .leaf m = some (.slice b 0 n cap lim, m) := by
  show ob (some cap) (fun c => ob (some n) fun h => ob (bc (Nat.ble 0 h) (some 0) none) fun l => bc (Nat.ble h c) (
      bc (Nat.beq c l && !Nat.beq l 0) (fc (Nat.mul l sz) fun adv => slEnd m b 0 adv (lim || false))
      (fc (Nat.add 0 (Nat.mul l sz)) fun o => fc (Nat.sub h l) fun n => fc (Nat.sub c l) fun k => some (.slice b o n k (lim || false), m))) none) = _
  rw [v_ob, v_ob, nble, decide_eq_true (Nat.zero_le n), bc_true, v_ob]
  show bc (Nat.ble n cap) (bc (Nat.beq cap 0 && !Nat.beq 0 0) _ (fc (Nat.add 0 (Nat.mul 0 sz)) fun o => fc (Nat.sub n 0) fun n' => fc (Nat.sub cap 0) fun k => some (AV.slice b o n' k (lim || false), m))) none = _
  rw [nble, decide_eq_true h, bc_true, Nat.beq_refl, Bool.not_true, Bool.and_false, bc_false, fc_eq, fc_eq, fc_eq, Bool.or_false]
  show some (AV.slice b (0 + 0 * sz) (n - 0) (cap - 0) lim, m) = _
  rw [Nat.zero_mul, Nat.sub_zero, Nat.sub_zero]
end
theorem Kinds.not0 {m : M} {b : Nat} {E S : List Nat} (h : Am.kd m b 0) (hE : 0 ∉ E := by decide) (hS : b ∉ S := by simp) : ¬ Kinds m E S b := by
  rintro (⟨j, h1, h2⟩ | ⟨h1, _⟩)
  · exact hE (h.inj h2 ▸ h1)
  · exact hS h1
theorem kd_obj {m : M} {b : Nat} {o : OB} (h : m.get b = some (.obj o)) : kd m b 0 := by
  unfold kd
  rw [h]
end Go.Am
namespace Go.Proofs.YthbfinjddaembaaGreat
open Go Go.Am
section
variable {m : M} {lg d mb cb n w : Nat} {seq tail used : Nat} {S : Ds}
theorem WsAt.chunk {b cap cap' : Nat} {q q' : Bool} {L : List Wr} (h : WsAt m (.slice b 0 L.length cap q) L) (hc : L.length ≤ cap') : WsAt m (.slice b 0 L.length cap' q') L := by
  refine ⟨len_sl _ _ _ _ _, fun hn => ?_, h.dt⟩
  obtain ⟨b2, cap2, q2, junk, h1, h2, h3, h4⟩ := h.row hn
  cases h1
  exact ⟨b, cap', q', junk, rfl, h2, h3, hc⟩
theorem chunk_run {l A B b cap n : Nat} {q : Bool} (hn : 0 < n) (hn2 : n ≤ 27) (hcap : n ≤ cap) (hA : At m A ty_sapi_Write true [.slice b 0 n cap q]) (hB : At m B ty_int true [iv 27]) {Q : M → Prop}
    (hY : WpY Tryz.prog tb l [.slice b 0 n n true] m fun v m' => (v = .b true ∧ At m' A ty_sapi_Write true [.slice b 0 n cap q] ∧ At m' B ty_int true [iv 27] ∨ v = .b false) ∧ Q m') :
    WpF Tryz.prog tb fn_a5 [.yield l, .ptr A 0, .ptr B 0] m fun _ m' => Q m' := by
  refine WpF.go at_a5 ?_
  simp -implicitDefEqProofs only [o_a5, r_a5_0, Nat.reduceAdd, wA, wB, wC, wD]
  refine GX_loop (fun j fr mk => (ev (tm 0) fr = .yield l ∧ ev (tm 1) fr = .ptr A 0 ∧ ev (tm 2) fr = .ptr B 0) ∧ (j = 1 ∧ ev (tm 4) fr = iv 0 ∧ mk = m ∨ j = 0 ∧ ev (tm 4) fr = iv 27 ∧ At mk A ty_sapi_Write true [.slice b 0 n cap q] ∧ Q mk)) (k := 1) ⟨by simp -implicitDefEqProofs only [ev_tm, ↓reduceIte, Nat.reduceEqDiff, and_self], .inl ⟨rfl, by simp -implicitDefEqProofs only [ev_tm, ↓reduceIte], rfl⟩⟩ ?_
  rintro j fr mk ⟨⟨e0, e1, e2⟩, ⟨rfl, e4, rfl⟩ | ⟨rfl, e4, hA', hQ⟩⟩
  · have qA : mk.rd A 0 = some (.slice b 0 n cap q) := by rw [hA.rd]; rfl
    have qB : mk.rd B 0 = some (iv 27) := by rw [hB.rd]; rfl
    have h0n : (0 : Int) + (n : Int) = (n : Int) := by omega
    have hmin : min (27 : Int) (n : Int) = (n : Int) := by omega
    simp -implicitDefEqProofs only [o_a5, r_a5_1, r_a5_3, r_a5_4, e0, e1, e2, e4, qA, qB, show ((0 : Int) < (n : Int)) = True from eq_true (by omega), v_drop00 2 b n cap q hcap, hmin, o_sl3a, b_add ty_int (show -9223372036854775808 ≤ (0 : Int) + (n : Int) by omega) (show (0 : Int) + (n : Int) ≤ 9223372036854775807 by omega), h0n, v_sl0n 2 b n cap q hcap hn, ↓reduceIte, Nat.reduceEqDiff, exists_eq_left', wA, wB, wC, wD]
    refine hY.mono ?_
    rintro v m' ⟨⟨rfl, hA', hB'⟩ | rfl, hQ⟩
    · have qB' : m'.rd B 0 = some (iv 27) := by rw [hB'.rd]; rfl
      have h27 : (0 : Int) + 27 = 27 := rfl
      simp -implicitDefEqProofs only [o_a5, r_a5_2, e2, e4, qB', b_add ty_int (show -9223372036854775808 ≤ (0 : Int) + (27 : Int) by omega) (show (0 : Int) + (27 : Int) ≤ 9223372036854775807 by omega), h27, ↓reduceIte, Nat.reduceEqDiff, wA, wB, wC, wD]
      exact LK_n (k' := 0) (by omega) ⟨by simp -implicitDefEqProofs only [e0, e1, e2, ev_tm, ↓reduceIte, Nat.reduceEqDiff, and_self], .inr ⟨rfl, by simp -implicitDefEqProofs only [ev_tm, ↓reduceIte], hA', hQ⟩⟩
    · simp -implicitDefEqProofs only [o_a5, ↓reduceIte, wA, wB, wC, wD]
      exact hQ
  · have qA : mk.rd A 0 = some (.slice b 0 n cap q) := by rw [hA'.rd]; rfl
    simp -implicitDefEqProofs only [o_a5, r_a5_1, e1, e4, qA, show ((27 : Int) < (n : Int)) = False from eq_false (by omega), ↓reduceIte, Nat.reduceEqDiff, wA, wB, wC, wD]
    exact hQ
theorem chunk_ran {x : AV} (hw : Wf m) (hx : cellsO x = some [x]) : ∃ m', At m' m.next ty_sapi_Write true [x] ∧ At m' (m.next + 1) ty_int true [iv 27] ∧ Keep m m' (fun _ => False) ∧ m'.next = m.next + 2 ∧ Ran Tryz.prog tb fn_a4 [x, iv 27] m (.func fn_a5 [.ptr m.next 0, .ptr (m.next + 1) 0]) m' := by
  obtain ⟨m1, e1, a1, k1, n1⟩ := addL_at hw ty_sapi_Write 1 [x]
  obtain ⟨m2, e2, a2, k2, n2⟩ := addL_at k1.wf ty_int 1 [iv 27]
  have q2 : m2.rd (m.next + 1) 0 = some (iv 27) := by rw [← n1, a2.rd]; rfl
  refine ⟨m2, a1.keep k1.wf k2 fun h => h, n1 ▸ a2, k1.tf k2, by omega, ?_⟩
  refine WpF.go at_a4 ?_
  simp -implicitDefEqProofs only [o_a4, r_a4_0, r_a4_1, r_a4_3, hx, e1, e2, n1, q2, show ((27 : Int) < 1) = False from eq_false (by omega), ↓reduceIte, Nat.reduceEqDiff, Nat.reduceAdd, wA, wB, wC, wD]
end
noncomputable def qG : Code := bodyOf (Tryz.prog.funcs[10]?)
noncomputable def qG1 : Code := sR qG
noncomputable def qG2 : Code := sR qG1
noncomputable def qG3 : Code := sR qG2
noncomputable def qG4 : Code := sR qG3
noncomputable def qG5 : Code := sR qG4
noncomputable def qG6 : Code := sR qG5
noncomputable def qG7 : Code := sR qG6
noncomputable def qG8 : Code := sR qG7
noncomputable def qR : Code := bB (sR (sL qG7))
noncomputable def qTail : Code := .seq (sL qG6) (.seq (.seq (sL (sL qG7)) (.block 1 (.rangeFunc (rF qR) (rPs qR) (rAs qR) (rBd qR)))) qG8)
noncomputable def qBody : Code := .seq (sL qG) (.seq (sL qG1) (.seq (sL qG2) (.seq (sL qG3) (.seq (sL qG4) (.seq (sL qG5) qTail)))))
theorem qG_eq : Tryz.f10.body = some qBody := by kernel_rfl
theorem qSl : slotsB Tryz.f10.ntmps qBody = true := by kernel_rfl
theorem qc0 : comp Tryz.prog (sL qG) = .reg r_c7_0 := by kernel_rfl
theorem qc1 : comp Tryz.prog (sL qG1) = .seq (.reg r_c7_1) (.cond (tm 16) (.seq (.reg r_c7_2) .ret) .skip) := by kernel_rfl
theorem qc2 : comp Tryz.prog (sL qG2) = .seq (.reg r_c7_3) (.seq (.reg r_c7_4) (.cond (tm 21) (.seq (.reg r_c7_5) .ret) .skip)) := by kernel_rfl
theorem qc3 : comp Tryz.prog (sL qG3) = .reg r_c7_6 := by kernel_rfl
theorem qc4 : comp Tryz.prog (sL qG4) = .block 0 (.seq (.reg r_c7_7) (.cond (tm 33) (.seq (.reg r_c7_8) .ret) (.seq (.drawn r_c7_9 [(0, 0), (0, 12), (4, 0), (4, 12), (5, 0), (8, 0)]) (.cond (tm 44) (.seq (.reg r_c7_10) .ret) (.seq (.reg r_c7_11) (.cond (tm 59) (.seq (.reg r_c7_12) .ret) .skip)))))) := by kernel_rfl
theorem qc5 : comp Tryz.prog (sL qG5) = .seq (.reg r_c7_13) (.cond (tm 67) (.seq (.reg r_c7_14) (.seq (.reg r_c7_15) (.cond (tm 71) (.seq (.reg r_c7_16) .ret) .skip))) .skip) := by kernel_rfl
theorem qc6 : comp Tryz.prog (sL qG6) = .reg r_c7_17 := by kernel_rfl
theorem qc7 : comp Tryz.prog (sL (sL qG7)) = .reg r_c7_18 := by kernel_rfl
theorem qc8 : comp Tryz.prog qG8 = .seq (.seq (.reg r_c7_24) (.seq (.reg r_c7_25) (.cond (tm 98) (.seq (.reg r_c7_26) (.seq (.reg r_c7_27) .ret)) .skip))) (.seq (.seq (.reg r_c7_28) (.block 3 (.loop (.seq (.reg r_c7_29) (.seq (.cond (tm 107) .skip (.exit 3)) (.seq (.block 4 (.seq (.reg r_c7_30) (.drawn r_c7_31 [(0, 0), (0, 9), (3, 0), (3, 9), (5, 0), (5, 9), (7, 0)]))) (.reg r_c7_32))))))) (.seq (.reg r_c7_33) .ret)) := by kernel_rfl
theorem qF : cO (rF qR) = tm 83 := by kernel_rfl
theorem qP : (rPs qR).toList = [84] := by kernel_rfl
theorem qA : comp Tryz.prog (rAs qR) = .reg r_c7_19 := by kernel_rfl
theorem qB : comp Tryz.prog (rBd qR) = .block 2 (.seq (.reg r_c7_20) (.seq (.reg r_c7_21) (.cond (tm 89) (.seq (.reg r_c7_22) (.seq (.reg r_c7_23) .ret)) .skip))) := by kernel_rfl
abbrev erK : Nat := ty_api_Errno + 1
section
variable {m3 : M} {lg d mb cb n w : Nat} {seq tail used : Nat} {S : Ds}
set_option maxRecDepth 20000 in
set_option maxHeartbeats 2000000 in
theorem commit_range {V E H A B b cap : Nat} {q : Bool} {L : List Wr} {ks : List Nat} {fr : Fr} (hw : Wf m3) (hV : At m3 V ty_pwal_Log true [.ptr lg 0]) (hE : At m3 E ty_api_Errno true [iv 0]) (hH : At m3 H ty_api_Header true [iv seq, iv tail, iv used])
    (hA : At m3 A ty_sapi_Write true [.slice b 0 L.length cap q]) (hB : At m3 B ty_int true [iv 27]) (hg : LgAt m3 lg d mb seq tail used false) (h : DsAt m3 d cb S) (hBd : S.Bd n w) (hn : n ≤ 1000000) (hw4 : w ≤ 300)
    (hx : WsAt m3 (.slice b 0 L.length cap q) L) (hks : L.map (·.1) = ks.map fun k => ((k : Nat) : Int)) (hk1 : ∀ k ∈ ks, k < 2 ^ 16) (h64 : ∀ e ∈ L, e.2.2.length = 64) (hL0 : L ≠ []) (hseq : seq < 2 ^ 32) (ht : tail < 9) (hu : used + 1 + L.length ≤ 9)
    (e2 : ev (tm 2) fr = .ptr V 0) (e4 : ev (tm 4) fr = .ptr E 0) (e9 : ev (tm 9) fr = .ptr H 0) (e83 : ev (tm 83) fr = .func fn_a5 [.ptr A 0, .ptr B 0]) :
    WpS Tryz.prog tb (.rangeFunc (rF qR) (rPs qR) (rAs qR) (rBd qR)) [] none fr m3 fun x f mm dd => f = fr ∧ dd = [m3.next] ∧ mm.get m3.next = some (.obj (.dfr true)) ∧ m3.next < mm.next ∧ Keep m3 mm (fun z => z = E ∨ Kinds m3 (lgK :: devK) [] z) ∧
      DsAt mm d cb (S.acts (partActs seq tail used ks (L.map (·.2.2)))) ∧
      ((S.acts (partActs seq tail used ks (L.map (·.2.2)))).dead = false ∧ x = .normal ∧ LgAt mm lg d mb (seq + 1) tail (used + 1 + L.length) false ∧ At mm E ty_api_Errno true [iv 0] ∨
       (S.acts (partActs seq tail used ks (L.map (·.2.2)))).dead = true ∧ x = .ret ∧ LgAt mm lg d mb seq tail used true ∧ At mm E ty_api_Errno true [iv 7]) := by
  have hpos : 0 < L.length := List.length_pos_iff.2 hL0
  have hcap : L.length ≤ cap := by
    obtain ⟨_, _, _, _, h1, _, _, h4⟩ := hx.row hL0
    cases h1; exact h4
  refine WpS.range (h := fn_a5) (caps := [.ptr A 0, .ptr B 0]) (by rw [qF]; exact e83) ?_
  have k1 : Keep m3 (m3.new (.obj (.dfr true))) (fun _ => False) := Keep.new hw
  have n1 : (m3.new (.obj (.dfr true))).next = m3.next + 1 := M.next_new _ _
  have g1 : (m3.new (.obj (.dfr true))).get m3.next = some (.obj (.dfr true)) := by rw [M.get_new, if_pos rfl]
  generalize m3.new (.obj (.dfr true)) = m4 at k1 n1 g1 ⊢
  obtain ⟨L0, hL0'⟩ : ∃ L0 : ALoop, L0 = ⟨0, none, fr, (rPs qR).toList, rAs qR, rBd qR, m3.next⟩ := ⟨_, rfl⟩
  rw [← hL0']
  have hst : L0.st = 0 := by rw [hL0']
  have hpd : L0.pend = none := by rw [hL0']
  have hfr : L0.fr = fr := by rw [hL0']
  have hps : L0.params = [84] := by rw [hL0']; exact qP
  have has : comp Tryz.prog L0.assign = .reg r_c7_19 := by rw [hL0']; exact qA
  have hbd := (congrArg (comp Tryz.prog) (show L0.body = rBd qR by rw [hL0'])).trans qB
  clear hL0'
  have k2 : Keep m4 (m4.new (.obj (.loop L0))) (fun _ => False) := Keep.new k1.wf
  have n2 : (m4.new (.obj (.loop L0))).next = m4.next + 1 := M.next_new _ _
  have g2 : (m4.new (.obj (.loop L0))).get m4.next = some (.obj (.loop L0)) := by rw [M.get_new, if_pos rfl]
  generalize m4.new (.obj (.loop L0)) = m5 at k2 n2 g2 ⊢
  have g15 : m5.get m3.next = some (.obj (.dfr true)) := (k2.get _ (by omega) fun h => h).trans g1
  have k35 : Keep m3 m5 fun _ => False := k1.tf k2
  have hElt := hE.kd.lt hw
  have hA5 := hA.keep hw k35 fun h => h
  have hB5 := hB.keep hw k35 fun h => h
  refine (chunk_run (b := b) (cap := cap) (n := L.length) (q := q) hpos (by omega) hcap hA5 hB5 (Q := fun m6 => ∃ L1 x, m6.get m4.next = some (.obj (.loop L1)) ∧ L1.st ≠ 1 ∧ jumpX L1.pend = some x ∧ m6.get m3.next = some (.obj (.dfr true)) ∧ m4.next < m6.next ∧ Keep m3 m6 (fun z => z = E ∨ Kinds m3 (lgK :: devK) [] z) ∧
      DsAt m6 d cb (S.acts (partActs seq tail used ks (L.map (·.2.2)))) ∧
      ((S.acts (partActs seq tail used ks (L.map (·.2.2)))).dead = false ∧ x = .normal ∧ LgAt m6 lg d mb (seq + 1) tail (used + 1 + L.length) false ∧ At m6 E ty_api_Errno true [iv 0] ∨
       (S.acts (partActs seq tail used ks (L.map (·.2.2)))).dead = true ∧ x = .ret ∧ LgAt m6 lg d mb seq tail used true ∧ At m6 E ty_api_Errno true [iv 7])) ?_).mono ?_
  · refine WpY.code (loop_get g2) (by rw [hps]; rfl) has hbd ?_
    rw [hps, hfr]
    show GX Tryz.prog tb (.reg r_c7_19) _ (fset 84 (.slice b 0 L.length L.length true) fr) m5
    simp -implicitDefEqProofs only [r_c7_19, ↓reduceIte, wA, wB, wC, wD]
    refine ⟨L0, loop_get g2, hst, ?_⟩
    have kp : Keep m5 (m5.put m4.next (.obj (.loop { L0 with st := 1 }))) (fun b => b = m4.next) := Keep.put k2.wf (by omega) rfl
    have np : (m5.put m4.next (.obj (.loop { L0 with st := 1 }))).next = m5.next := M.next_put ..
    have gp : (m5.put m4.next (.obj (.loop { L0 with st := 1 }))).get m4.next = some (.obj (.loop { L0 with st := 1 })) := by rw [M.get_put, if_pos rfl]
    have hdp := (kp.get _ (show m3.next < m5.next by omega) (by omega)).trans g15
    generalize m5.put m4.next (.obj (.loop { L0 with st := 1 })) = mp at kp np gp hdp ⊢
    have k3p : Keep m3 mp fun _ => False := k35.trans kp fun z hz e => by omega
    have hwp := kp.wf
    have hVp := hV.keep hw k3p fun h => h
    have hEp := hE.keep hw k3p fun h => h
    have hHp := hH.keep hw k3p fun h => h
    have hAp := hA.keep hw k3p fun h => h
    have hBp := hB.keep hw k3p fun h => h
    have gkp := hg.kp hw (E := []) (S := []) k3p.k0
    have dp := h.k0 hw k3p
    have hxp := (hx.k0 hw k3p).chunk (cap' := L.length) (q' := true) (Nat.le_refl _)
    have qV : mp.rd V 0 = some (.ptr lg 0) := by rw [hVp.rd]; rfl
    simp -implicitDefEqProofs only [r_c7_20, e2, qV, ↓reduceIte, Nat.reduceEqDiff, wA, wB, wC, wD]
    refine part_ds hwp gkp dp hBd (by omega) hw4 hxp hks hk1 h64 hseq ht hu fun m' sq us hD hL hxx hk => ?_
    have hVm := hVp.kp hwp hk
    have hEm := hEp.kp hwp hk
    have hHm := hHp.kp hwp hk
    have hAm := hAp.kp hwp hk
    have hBm := hBp.kp hwp hk
    have qVm : m'.rd V 0 = some (.ptr lg 0) := by rw [hVm.rd]; rfl
    have glm : m'.get m4.next = some (.obj (.loop { L0 with st := 1 })) := (hk.get _ (by omega) (Kinds.not0 (kd_obj gp))).trans gp
    have gdm : m'.get m3.next = some (.obj (.dfr true)) := (hk.get _ (by omega) (Kinds.not0 (kd_obj hdp))).trans hdp
    have hnm := hk.next
    have k3m : KeepK m3 m' (lgK :: devK) := (k3p.k0 (E := lgK :: devK) (S := [])).tk hk
    cases hdd : (S.acts (partActs seq tail used ks (L.map (·.2.2)))).dead with
    | true =>
      rw [err_t hdd]
      rw [hdd] at hL
      have qH : m'.rdN H 0 3 = some [iv seq, iv tail, iv used] := hHm.rdN (i := 0) (n := 3) (Nat.le_refl 3)
      obtain ⟨m7, f7, a7, k7, n7⟩ := hL.st hk.wf 13 [iv seq, iv tail, iv used]
      have a7 : LgAt m7 lg d mb seq tail used true := a7
      have kk7 := k7.k1 (E := [lgK]) (S := []) hL.kd
      have hEm7 := hEm.kp hk.wf kk7
      obtain ⟨m8, f8, a8, k8, n8⟩ := hEm7.st k7.wf 0 [iv 7]
      have a8 : At m8 E ty_api_Errno true [iv 7] := a8
      simp -implicitDefEqProofs only [r_c7_21, r_c7_22, r_c7_23, e2, e4, e9, eq70, qVm, qH, f7, f8, ↓reduceIte, Nat.reduceEqDiff, Nat.reduceAdd, wA, wB, wC, wD]
      have kk8 : KeepK m7 m8 [erK] := k8.k1 (E := [erK]) (S := []) hEm7.kd
      have gl8 : m8.get m4.next = some (.obj (.loop { L0 with st := 1 })) := by
        have h1 := (kk7.get m4.next (by omega) (Kinds.not0 (kd_obj glm))).trans glm
        exact (kk8.get _ (by omega) (Kinds.not0 (kd_obj h1))).trans h1
      have gd8 : m8.get m3.next = some (.obj (.dfr true)) := by
        have h1 := (kk7.get m3.next (by omega) (Kinds.not0 (kd_obj gdm))).trans gdm
        exact (kk8.get _ (by omega) (Kinds.not0 (kd_obj h1))).trans h1
      refine ⟨_, loop_get gl8, ?_⟩
      have kz : Keep m8 (m8.put m4.next (.obj (.loop { ({ L0 with st := 1 } : ALoop) with st := bc (jumpOf .ret).isNone 0 2, pend := jumpOf .ret }))) (fun b => b = m4.next) := Keep.put k8.wf (by omega) rfl
      have nz := M.next_put m8 m4.next (.obj (.loop { ({ L0 with st := 1 } : ALoop) with st := bc (jumpOf .ret).isNone 0 2, pend := jumpOf .ret }))
      have gz : (m8.put m4.next (.obj (.loop { ({ L0 with st := 1 } : ALoop) with st := bc (jumpOf .ret).isNone 0 2, pend := jumpOf .ret }))).get m4.next = some (.obj (.loop { ({ L0 with st := 1 } : ALoop) with st := bc (jumpOf .ret).isNone 0 2, pend := jumpOf .ret })) := by rw [M.get_put, if_pos rfl]
      have k38 : Keep m3 m8 (fun z => z = E ∨ Kinds m3 (lgK :: devK) [] z) := ((k3m.tk kk7).mono fun _ _ h => .inr h).trans k8 fun z hz e => .inl e
      refine ⟨.inr rfl, _, .ret, gz, (fun e => absurd e (show ¬ (2 : Nat) = 1 by decide)), rfl, (kz.get m3.next (by omega) (by omega)).trans gd8, by rw [M.next_put]; omega, k38.trans kz fun z hz e => by omega, ?_, .inr ⟨rfl, ?_, ?_⟩⟩
      · exact ((hD.kp hk.wf kk7).kp k7.wf kk8).kp k8.wf (E := []) (R := [m4.next]) (kz.mono fun z _ e => .inr ⟨by simp [e], by subst e; exact kd_obj gl8⟩)
      · exact (a7.kp k7.wf kk8).keep k8.wf kz fun e => by
          have := (a7.kp k7.wf kk8).kd
          rw [e] at this
          exact absurd (this.inj (kd_obj gl8)) (by decide)
      · exact a8.keep k8.wf kz (by omega)
    | false =>
      rw [err_f hdd]
      rw [hdd] at hL
      obtain ⟨rfl, rfl⟩ := hxx hdd
      simp -implicitDefEqProofs only [r_c7_21, ↓reduceIte, wA, wB, wC, wD]
      refine ⟨_, loop_get glm, ?_⟩
      have kz : Keep m' (m'.put m4.next (.obj (.loop { ({ L0 with st := 1 } : ALoop) with st := bc (jumpOf .normal).isNone 0 2, pend := jumpOf .normal }))) (fun b => b = m4.next) := Keep.put hk.wf (by omega) rfl
      have nz := M.next_put m' m4.next (.obj (.loop { ({ L0 with st := 1 } : ALoop) with st := bc (jumpOf .normal).isNone 0 2, pend := jumpOf .normal }))
      have gz : (m'.put m4.next (.obj (.loop { ({ L0 with st := 1 } : ALoop) with st := bc (jumpOf .normal).isNone 0 2, pend := jumpOf .normal }))).get m4.next = some (.obj (.loop { ({ L0 with st := 1 } : ALoop) with st := bc (jumpOf .normal).isNone 0 2, pend := jumpOf .normal })) := by rw [M.get_put, if_pos rfl]
      have kzk : KeepK m' (m'.put m4.next (.obj (.loop { ({ L0 with st := 1 } : ALoop) with st := bc (jumpOf .normal).isNone 0 2, pend := jumpOf .normal }))) [] [m4.next] := kz.mono fun z _ e => .inr ⟨by simp [e], by subst e; exact kd_obj glm⟩
      refine ⟨.inl ⟨rfl, hAm.kp hk.wf kzk, hBm.kp hk.wf kzk⟩, _, .normal, gz, (fun e => absurd e (show ¬ (0 : Nat) = 1 by decide)), rfl, (kz.get m3.next (by omega) (by omega)).trans gdm, by rw [M.next_put]; omega, (k3m.mono fun _ _ h => .inr h).trans kz fun z hz e => by omega, hD.kp hk.wf kzk, .inl ⟨rfl, hL.kp hk.wf kzk, hEm.kp hk.wf kzk⟩⟩
  · rintro v m6 ⟨L1, x, hl1, hs1, hj1, hd6, hn6, hk6, hD6, hfin⟩
    have kz : Keep m6 (m6.put m4.next (.obj (.loop { L1 with st := 3 }))) (fun b => b = m4.next) := Keep.put hk6.wf hn6 rfl
    have nz := M.next_put m6 m4.next (.obj (.loop { L1 with st := 3 }))
    have kzk : KeepK m6 (m6.put m4.next (.obj (.loop { L1 with st := 3 }))) [] [m4.next] := kz.mono fun z _ e => .inr ⟨by simp [e], by subst e; exact kd_obj hl1⟩
    refine ⟨L1, x, loop_get hl1, hs1, hj1, rfl, rfl, (kz.get m3.next (by omega) (by omega)).trans hd6, by rw [M.next_put]; omega, hk6.trans kz fun z hz e => by omega, hD6.kp hk6.wf kzk, ?_⟩
    rcases hfin with ⟨a1, a2, a3, a4⟩ | ⟨a1, a2, a3, a4⟩
    · exact .inl ⟨a1, a2, a3.kp hk6.wf kzk, a4.kp hk6.wf kzk⟩
    · exact .inr ⟨a1, a2, a3.kp hk6.wf kzk, a4.kp hk6.wf kzk⟩
end
def pput : List Pe → Pe → List Pe
  | [], e => [e]
  | x :: l, e => if x.1 = e.1 then e :: l else x :: pput l e
theorem pput_pal (e : Pe) : ∀ P : List Pe, pal (pput P e) = putL (pal P) e.1 e.2.1
  | [] => rfl
  | x :: l => by
    unfold pput
    show _ = putL ((x.1, x.2.1) :: pal l) e.1 e.2.1
    unfold putL
    by_cases h : x.1 = e.1
    · rw [if_pos h, if_pos h]; rfl
    · rw [if_neg h, if_neg h]
      show (x.1, x.2.1) :: pal (pput l e) = _
      rw [pput_pal e l]
theorem pput_get (e : Pe) (k : Nat) : ∀ P : List Pe, pget (pput P e) k = if k = e.1 then some e else pget P k
  | [] => by
    unfold pput pget
    by_cases h : k = e.1
    · rw [if_pos h]; simp [h]
    · have h1 : ¬ e.1 = k := fun h2 => h h2.symm
      rw [if_neg h]; simp [h1]
  | x :: l => by
    have ih := pput_get e k l
    unfold pput
    by_cases hx : x.1 = e.1
    · rw [if_pos hx]
      unfold pget
      by_cases h : k = e.1
      · rw [if_pos h]; simp [h]
      · rw [if_neg h]
        have h1 : ¬ e.1 = k := fun h2 => h h2.symm
        have h2 : ¬ x.1 = k := fun h2 => h (by omega)
        simp [h1, h2]
    · rw [if_neg hx]
      unfold pget at ih ⊢
      by_cases h : x.1 = k
      · have : ¬ k = e.1 := fun h2 => hx (by omega)
        simp [h, this]
      · simp only [List.find?_cons, h, decide_false]
        exact ih
theorem pput_mem {e x : Pe} : ∀ {P : List Pe}, x ∈ pput P e → x = e ∨ x ∈ P
  | [], h => by simpa [pput] using h
  | y :: l, h => by
    unfold pput at h
    split at h
    · rcases List.mem_cons.1 h with h | h
      · exact .inl h
      · exact .inr (List.mem_cons_of_mem _ h)
    · rcases List.mem_cons.1 h with h | h
      · exact .inr (h ▸ List.mem_cons_self)
      · rcases pput_mem h with h | h
        · exact .inl h
        · exact .inr (List.mem_cons_of_mem _ h)
theorem pput_nd (e : Pe) : ∀ {P : List Pe}, (P.map (·.1)).Nodup → ((pput P e).map (·.1)).Nodup
  | [], _ => by simp [pput]
  | y :: l, h => by
    rw [List.map_cons, List.nodup_cons] at h
    unfold pput
    by_cases hy : y.1 = e.1
    · rw [if_pos hy, List.map_cons, List.nodup_cons]
      exact ⟨hy ▸ h.1, h.2⟩
    · rw [if_neg hy, List.map_cons, List.nodup_cons]
      refine ⟨fun hm => ?_, pput_nd e h.2⟩
      obtain ⟨x, hx, hxe⟩ := List.mem_map.1 hm
      rcases pput_mem hx with rfl | hx
      · exact hy hxe.symm
      · exact h.1 (hxe ▸ List.mem_map_of_mem hx)
def putAll (g : Nat → Option Bs) (l : List (Int × Bs)) (k : Nat) : Option Bs := l.foldl (fun r e => if e.1 = (k : Int) then some e.2 else r) (g k)
theorem putAll_app (g : Nat → Option Bs) (l : List (Int × Bs)) (e : Int × Bs) (k : Nat) : putAll g (l ++ [e]) k = if e.1 = (k : Int) then some e.2 else putAll g l k := by
  unfold putAll
  rw [List.foldl_append]; rfl
theorem PmAt.len {m : M} {mb : Nat} {P : List Pe} (h : PmAt m mb P) : P.length ≤ 60 := by
  have := nodup_len 60 _ h.nd fun z hz => by
    obtain ⟨e, he, rfl⟩ := List.mem_map.1 hz
    exact (h.rg e he).1
  simpa using this
def Act.ok : Act → Prop
  | .wr _ t => t.length = 64
  | .fl => True
theorem Ds.Bd.acts {l : List Act} : ∀ {S : Ds} {n w : Nat}, S.Bd n w → (∀ a ∈ l, a.ok) → (S.acts l).Bd (n + l.length) (w + l.length) := by
  induction l with
  | nil => intro S n w h _; exact h
  | cons a l ih =>
    intro S n w h hl
    have h1 : (S.act a).Bd (n + 1) (w + 1) := by
      cases a with
      | wr k t => exact h.wr k (hl _ List.mem_cons_self)
      | fl => exact h.fl.mono (Nat.le_refl _) (by omega)
    have := ih h1 fun a ha => hl a (List.mem_cons_of_mem _ ha)
    rw [Ds.acts_cons, List.length_cons]
    exact this.mono (by omega) (by omega)
theorem datActs_ok (tail : Nat) : ∀ (ts : List Bs) (u : Nat), (∀ t ∈ ts, t.length = 64) → (∀ a ∈ datActs tail u ts, a.ok) ∧ (datActs tail u ts).length = ts.length
  | [], _, _ => ⟨(fun _ h => by cases h), rfl⟩
  | t :: l, u, h => by
    obtain ⟨h1, h2⟩ := datActs_ok tail l (u + 1) fun t ht => h t (List.mem_cons_of_mem _ ht)
    refine ⟨fun a ha => ?_, by simp [datActs, h2]⟩
    rcases List.mem_cons.1 ha with rfl | ha
    · exact h t List.mem_cons_self
    · exact h1 a ha
theorem partActs_ok {seq tail used : Nat} {ks : List Nat} {ts : List Bs} (hk : ks.length ≤ 27) (h : ∀ t ∈ ts, t.length = 64) : (∀ a ∈ partActs seq tail used ks ts, a.ok) ∧ (partActs seq tail used ks ts).length = ts.length + 1 := by
  obtain ⟨h1, h2⟩ := datActs_ok tail ts (used + 1) h
  refine ⟨fun a ha => ?_, by simp [partActs, h2]⟩
  rcases List.mem_cons.1 ha with rfl | ha
  · exact descB_len seq hk
  · exact h1 a ha
theorem headActs_ok (seq tail used : Nat) : ∀ a ∈ headActs seq tail used, a.ok := by
  intro a ha
  simp only [headActs, List.mem_cons, List.not_mem_nil, or_false] at ha
  rcases ha with rfl | rfl | rfl
  · trivial
  · exact hdrB_len seq tail used
  · trivial
section
variable {m : M} {lg d mb cb n w : Nat} {seq tail used : Nat} {S : Ds} {P : List Pe}
set_option maxRecDepth 20000 in
set_option maxHeartbeats 4000000 in
theorem commit_tail {V E : Nat} {x : AV} {L : List Wr} {ks : List Nat} {fr : Fr} (hw : Wf m) (hV : At m V ty_pwal_Log true [.ptr lg 0]) (hE : At m E ty_api_Errno true [iv 0])
    (hg : LgAt m lg d mb seq tail used false) (h : DsAt m d cb S) (hP : PmAt m mb P) (hBd : S.Bd n w) (hn : n ≤ 1000000) (hw4 : w ≤ 300)
    (hx : WsAt m x L) (hks : L.map (·.1) = ks.map fun k => ((k : Nat) : Int)) (hk1 : ∀ k ∈ ks, k < 60) (h64 : ∀ e ∈ L, e.2.2.length = 64) (hL0 : L ≠ []) (hseq : seq + 1 < 2 ^ 32) (ht : tail < 9) (hu : used + 1 + L.length ≤ 9)
    (e1 : ev (tm 1) fr = x) (e2 : ev (tm 2) fr = .ptr V 0) (e4 : ev (tm 4) fr = .ptr E 0) :
    WpS Tryz.prog tb qTail [] none fr m fun X f mm dd => X = .ret ∧ ev (tm 4) f = .ptr E 0 ∧ (∃ z, dd = [z] ∧ m.next ≤ z ∧ mm.get z = some (.obj (.dfr true)) ∧ z < mm.next) ∧ Keep m mm (fun z => z = E ∨ Kinds m (lgK :: devK) [mb] z) ∧
      DsAt mm d cb ((S.acts (partActs seq tail used ks (L.map (·.2.2)))).acts (headActs (seq + 1) tail (used + 1 + L.length))) ∧
      ((((S.acts (partActs seq tail used ks (L.map (·.2.2)))).acts (headActs (seq + 1) tail (used + 1 + L.length))).dead = false ∧ LgAt mm lg d mb (seq + 1) tail (used + 1 + L.length) false ∧ At mm E ty_api_Errno true [iv 0] ∧ ∃ P', PmAt mm mb P' ∧ ∀ k, pbs P' k = putAll (pbs P) (wv L) k) ∨
       (((S.acts (partActs seq tail used ks (L.map (·.2.2)))).acts (headActs (seq + 1) tail (used + 1 + L.length))).dead = true ∧ LgAt mm lg d mb seq tail used true ∧ At mm E ty_api_Errno true [iv 7] ∧ PmAt mm mb P)) := by
  obtain ⟨b, cap, q, junk, hxe, hrow, hkd, hcap⟩ := hx.row hL0
  have hpos : 0 < L.length := List.length_pos_iff.2 hL0
  have qV : m.rd V 0 = some (.ptr lg 0) := by rw [hV.rd]; rfl
  have q13 : m.rdN lg 13 3 = some [iv seq, iv tail, iv used] := hg.rdN (i := 13) (n := 3) (Nat.le_of_ble_eq_true rfl)
  obtain ⟨m1, f1, a1, k1, n1⟩ := addZ_at hw ty_api_Header 3 [iv 0, iv 0, iv 0]
  obtain ⟨m2, f2, a2, k2, n2⟩ := a1.st k1.wf 0 [iv seq, iv tail, iv used]
  have a2 : At m2 m.next ty_api_Header true [iv seq, iv tail, iv used] := a2
  have k02 : Keep m m2 fun _ => False := k1.trans k2 fun z hz e => by omega
  have hV2 := hV.keep hw k02 fun h => h
  have g2 := hg.kp hw (E := []) (S := []) k02.k0
  have qV2 : m2.rd V 0 = some (.ptr lg 0) := by rw [hV2.rd]; rfl
  have qp2 : m2.rdN lg 1 12 = some smallP := g2.rdN (i := 1) (n := 12) (Nat.le_of_ble_eq_true rfl)
  obtain ⟨m3, k3, r3⟩ := most_ran k02.wf
  have hxc : cellsO x = some [x] := by rw [hxe]; rfl
  obtain ⟨m4, aA, aB, k4, n4, r4⟩ := chunk_ran k3.wf hxc
  have k04 : Keep m m4 fun _ => False := (k02.tf k3).tf k4
  have hn2 := k02.next
  have hn3 := k3.next
  refine WpS.seq (WpS.code qc6 ?_)
  simp -implicitDefEqProofs only [r_c7_17, e2, qV, q13, f1, f2, ↓reduceIte, Nat.reduceEqDiff, Nat.reduceAdd, wA, wB, wC, wD]
  refine WpS.seq (WpS.seq (WpS.code qc7 ?_))
  simp -implicitDefEqProofs only [r_c7_18, e1, e2, qV2, qp2, r3.eq, r4.eq, ↓reduceIte, Nat.reduceEqDiff, wA, wB, wC, wD]
  have hV4 := hV.keep hw k04 fun h => h
  have hE4 := hE.keep hw k04 fun h => h
  have hH4 := (a2.keep k02.wf k3 fun h => h).keep k3.wf k4 fun h => h
  have g4 := hg.kp hw (E := []) (S := []) k04.k0
  have d4 := h.k0 hw k04
  have p4 := hP.k0 hw k04
  have hx4 := hx.k0 hw k04
  rw [hxe] at hx4 aA
  have hElt := hE.kd.lt hw
  refine WpS.block ((commit_range (q := q) k04.wf hV4 hE4 hH4 aA aB g4 d4 hBd hn hw4 hx4 hks (fun k hk => by have := hk1 k hk; omega) h64 hL0 (by omega) ht hu (by simp -implicitDefEqProofs only [e2, ev_tm, ↓reduceIte, Nat.reduceEqDiff]) (by simp -implicitDefEqProofs only [e4, ev_tm, ↓reduceIte, Nat.reduceEqDiff]) (by simp -implicitDefEqProofs only [ev_tm, ↓reduceIte, Nat.reduceEqDiff]) (by simp -implicitDefEqProofs only [ev_tm, ↓reduceIte])).mono ?_)
  rintro X f mm dd ⟨rfl, rfl, hdd, hnn, hkk, hDD, hcase⟩
  have hn4 := k04.next
  have hdead : ∀ {S2 : Ds}, S2.dead = true → (S2.acts (headActs (seq + 1) tail (used + 1 + L.length))) = S2 := fun h => Ds.acts_dead h _
  have hkl : ks.length = L.length := by
    have := congrArg List.length hks
    simpa using this.symm
  obtain ⟨hok, hlen⟩ := partActs_ok (seq := seq) (tail := tail) (used := used) (ks := ks) (ts := L.map (·.2.2)) (by omega) (fun t ht => by
    obtain ⟨e, he, rfl⟩ := List.mem_map.1 ht
    exact h64 e he)
  have hB2 := hBd.acts hok
  rw [hlen, List.length_map] at hB2
  generalize hS2 : S.acts (partActs seq tail used ks (L.map (·.2.2))) = S2 at hDD hcase hB2 ⊢
  have kE : KeepK m4 mm (erK :: lgK :: devK) := hkk.mono fun z _ e => by
    rcases e with e | ⟨j, hj, e⟩ | ⟨e, _⟩
    · subst e; exact .inl ⟨erK, by simp, hE4.kd⟩
    · exact .inl ⟨j, List.mem_cons_of_mem _ hj, e⟩
    · cases e
  have kA : Keep m mm (fun z => z = E ∨ Kinds m (lgK :: devK) [mb] z) := by
    refine (k04.mono fun _ _ h => h.elim).trans hkk fun z hz e => ?_
    rcases e with e | e
    · exact .inl e
    · rcases e with ⟨j, hj, hj2⟩ | ⟨e, _⟩
      · exact .inr (.inl ⟨j, hj, hj2.of_get (k04.get z hz fun h => h).symm⟩)
      · cases e
  rcases hcase with ⟨hd2, rfl, hg5, hE5⟩ | ⟨hd2, rfl, hg5, hE5⟩
  · have hV5 := hV4.kp k04.wf kE
    have qV5 : mm.rd V 0 = some (.ptr lg 0) := by rw [hV5.rd]; rfl
    obtain ⟨m6, d6, g6, k6, r6⟩ := head_ds hkk.wf hg5 hDD hB2 (by omega) (by omega) (by omega) (by omega) (by omega)
    have hV6 := hV5.kp hkk.wf k6
    have hE6 := hE5.kp hkk.wf k6
    have hH6 : At m6 m.next ty_api_Header true [iv seq, iv tail, iv used] := (hH4.kp k04.wf kE).kp hkk.wf k6
    have p6 := (p4.kp k04.wf kE).kp hkk.wf k6
    have hdd6 : m6.get m4.next = some (.obj (.dfr true)) := (k6.get _ hnn (Kinds.not0 (kd_obj hdd))).trans hdd
    have hn6 := k6.next
    have kA6 : Keep m m6 (fun z => z = E ∨ Kinds m (lgK :: devK) [mb] z) := kA.trans k6 fun z hz e => by
      rcases Nat.lt_or_ge z m.next with h1 | h1
      · by_cases h2 : z = E ∨ Kinds m (lgK :: devK) [mb] z
        · exact h2
        · have hg := kA.get z h1 h2
          rcases e with ⟨j, hj, hj2⟩ | ⟨e, _⟩
          · exact .inr (.inl ⟨j, hj, hj2.of_get hg.symm⟩)
          · cases e
      · omega
    have qV6 : m6.rd V 0 = some (.ptr lg 0) := by rw [hV6.rd]; rfl
    generalize hS3 : S2.acts (headActs (seq + 1) tail (used + 1 + L.length)) = S3 at d6 g6 r6 ⊢
    refine WpS.code qc8 ?_
    cases hd3 : S3.dead with
    | true =>
      rw [hd3] at g6
      rw [err_t hd3] at r6
      have qH : m6.rdN m.next 0 3 = some [iv seq, iv tail, iv used] := hH6.rdN (i := 0) (n := 3) (Nat.le_refl 3)
      obtain ⟨m7, f7, a7, k7, n7⟩ := g6.st k6.wf 13 [iv seq, iv tail, iv used]
      have a7 : LgAt m7 lg d mb seq tail used true := a7
      have kk7 := k7.k1 (E := [lgK]) (S := []) g6.kd
      have hE7 := hE6.kp k6.wf kk7
      obtain ⟨m8, f8, a8, k8, n8⟩ := hE7.st k7.wf 0 [iv 7]
      have a8 : At m8 E ty_api_Errno true [iv 7] := a8
      have kk8 : KeepK m7 m8 [erK] := k8.k1 (E := [erK]) (S := []) hE7.kd
      simp -implicitDefEqProofs only [r_c7_24, r_c7_25, r_c7_26, r_c7_27, e2, e4, qV5, r6.eq, eq70, qV6, qH, f7, f8, ↓reduceIte, Nat.reduceEqDiff, Nat.reduceAdd, wA, wB, wC, wD]
      have kA8 : Keep m m8 (fun z => z = E ∨ Kinds m (lgK :: devK) [mb] z) := (kA6.trans k7 fun z hz e => .inr (by subst e; exact .inl ⟨lgK, by simp, hg.kd⟩)).trans k8 fun z hz e => .inl e
      have hdd7 : m7.get m4.next = some (.obj (.dfr true)) := (kk7.get _ (by omega) (Kinds.not0 (kd_obj hdd6))).trans hdd6
      have hdd8 : m8.get m4.next = some (.obj (.dfr true)) := (kk8.get _ (by omega) (Kinds.not0 (kd_obj hdd7))).trans hdd7
      exact ⟨⟨m4.next, rfl, by omega, hdd8, by omega⟩, kA8, (d6.kp k6.wf kk7).kp k7.wf kk8, .inr ⟨a7.kp k7.wf kk8, a8, (p6.kp k6.wf kk7).kp k7.wf kk8⟩⟩
    | false =>
      rw [hd3] at g6
      rw [err_f hd3] at r6
      have hx6 : WsAt m6 x L := by
        have := (hx4.kp k04.wf kE).kp hkk.wf k6
        rwa [← hxe] at this
      have hxl : lenK false x = some L.length := hx.len
      simp -implicitDefEqProofs only [r_c7_24, r_c7_25, r_c7_28, e1, e2, qV5, r6.eq, hxl, ↓reduceIte, Nat.reduceEqDiff, wA, wB, wC, wD]
      refine GX_loop (fun j fr' mk => ∃ k P', k ≤ L.length ∧ j = L.length - k ∧ (ev (tm 2) fr' = .ptr V 0 ∧ ev (tm 4) fr' = .ptr E 0 ∧ ev (tm 104) fr' = x ∧ ev (tm 105) fr' = iv (L.length : Nat) ∧ ev (tm 106) fr' = iv k) ∧ PmAt mk mb P' ∧ (∀ z, pbs P' z = putAll (pbs P) ((wv L).take k) z) ∧ KeepK m6 mk [] [mb]) (k := L.length) ⟨0, P, Nat.zero_le _, rfl, by simp -implicitDefEqProofs only [e2, e4, nc0, ev_tm, ↓reduceIte, Nat.reduceEqDiff, nc0, and_self], p6, (fun _ => rfl), Keep.refl k6.wf _⟩ ?_
      rintro j fr' mk ⟨k, P', hk, rfl, ⟨e2', e4', e104, e105, e106⟩, pk, hpk, kk⟩
      by_cases hlt : k < L.length
      · obtain ⟨xb, xc, xq, hxe', hr⟩ := (hx6.kp k6.wf kk).elem hlt
        have hck : L[k]? = some L[k] := List.getElem?_eq_getElem hlt
        have hmem := List.mem_of_getElem? hck
        have hE64 := h64 L[k] hmem
        obtain ⟨eb, heb⟩ := ((hx6.kp k6.wf kk).dt L[k] hmem).bu hE64
        have hEc : cellsO L[k].2.1 = some [L[k].2.1] := (hx.dt L[k] hmem).cl
        have hEa : aveq 40 L[k].2.1 L[k].2.1 = true := (hx.dt L[k] hmem).aq
        obtain ⟨z, hz1, hz2⟩ : ∃ z : Nat, L[k].1 = (z : Int) ∧ z < 60 := by
          have h1 : L[k].1 ∈ L.map (·.1) := List.mem_map_of_mem hmem
          rw [hks] at h1
          obtain ⟨z, hz, e⟩ := List.mem_map.1 h1
          exact ⟨z, e.symm, hk1 z hz⟩
        have htk : (wv L).take (k + 1) = (wv L).take k ++ [(L[k].1, L[k].2.2)] := by
          rw [List.take_add_one, List.getElem?_map, hck]; rfl
        generalize hEE : L[k] = e at hr hck hmem hE64 heb hEc hEa hz1 htk
        obtain ⟨p1, f1', b1, kp1, np1⟩ := addZ_at kk.wf ty_api_Write 2 [iv 0, nils]
        obtain ⟨p2, f2', b2, kp2, np2⟩ := b1.st kp1.wf 0 [iv e.1, e.2.1]
        have b2 : At p2 mk.next ty_api_Write true [iv e.1, e.2.1] := b2
        have kp12 : Keep mk p2 fun _ => False := kp1.trans kp2 fun x hx e => by have := kp1.next; omega
        have hVp := ((hV6.kp k6.wf kk).keep kk.wf kp12 fun h => h)
        have gp2 := ((g6.kp k6.wf kk).keep kk.wf kp12 fun h => h)
        have heb2 := heb.kp kk.wf (E := []) (S := []) kp12.k0
        obtain ⟨p3, s', b', hs', kp3, hb', r3'⟩ := clone_ran kp12.wf heb2.bs (fun h0 => by rw [h0] at hE64; cases hE64) (by omega)
        have pk3 := (pk.k0 kk.wf kp12).k0 kp12.wf kp3
        have hVp3 := hVp.keep kp12.wf kp3 fun h => h
        have gp3 := gp2.keep kp12.wf kp3 fun h => h
        have b3 := b2.keep kp12.wf kp3 fun h => h
        obtain ⟨p4, f4', hm4, kp4, np4⟩ := pk3.mp.upd kp3.wf z s'
        rw [hz1] at f2' b2 b3
        have qv2 : p2.rd V 0 = some (.ptr lg 0) := by rw [hVp.rd]; rfl
        have qv3 : p3.rd V 0 = some (.ptr lg 0) := by rw [hVp3.rd]; rfl
        have qm2 : p2.rd lg 16 = some (.map mb) := by rw [gp2.rd]; rfl
        have qm3 : p3.rd lg 16 = some (.map mb) := by rw [gp3.rd]; rfl
        have qk2 : p2.rd mk.next 0 = some (iv (z : Int)) := by rw [b2.rd]; rfl
        have qk3 : p3.rd mk.next 0 = some (iv (z : Int)) := by rw [b3.rd]; rfl
        have qs2 : p2.rd mk.next 1 = some e.2.1 := by rw [b2.rd]; rfl
        have hC : (k : Int) + 1 = ((k + 1 : Nat) : Int) := by omega
        rw [hz1] at hr
        rw [hxe'] at e104
        simp -implicitDefEqProofs only [r_c7_29, r_c7_30, r_c7_31, r_c7_32, e2', e104, e105, e106, show ((k : Int) < (L.length : Int)) = True from eq_true (by omega), v_iaS 2 xb 0 L.length xc xq hlt, hr, f1', f2', qv2, qm2, qk2, qs2, hEa, r3'.eq, f4', qv3, qm3, qk3, b_add ty_int (show -9223372036854775808 ≤ (k : Int) + 1 by omega) (show (k : Int) + 1 ≤ 9223372036854775807 by omega), ↓reduceIte, Nat.reduceEqDiff, Nat.reduceAdd, exists_eq_left', wA, wB, wC, wD]
        rw [← hxe'] at e104
        have pk4 : PmAt p4 mb (pput P' (z, s', e.2.2, b')) := by
          refine ⟨by rw [pput_pal]; exact hm4, fun y hy => ?_, pput_nd _ pk.nd, fun y hy => ?_⟩
          · rcases pput_mem hy with rfl | hy
            · exact hs'.keep kp3.wf kp4 fun e => by subst e; exact absurd (hs'.kd.inj pk3.mp.kd) (by decide)
            · exact (pk3.da y hy).keep kp3.wf kp4 fun e => by
                have := (pk3.da y hy).kd
                rw [e] at this
                exact absurd (this.inj pk3.mp.kd) (by decide)
          · rcases pput_mem hy with rfl | hy
            · exact ⟨hz2, hE64⟩
            · exact pk.rg y hy
        refine LK_n (k' := L.length - (k + 1)) (by omega) ⟨k + 1, pput P' (z, s', e.2.2, b'), by omega, rfl, by simp -implicitDefEqProofs only [e2', e4', e104, e105, hC, hxe', ev_tm, ↓reduceIte, Nat.reduceEqDiff, and_self], pk4, fun y => ?_, (kk.tf (kp12.tf kp3)).tk (kp4.km (E := []) (S := [mb]) pk3.mp.kd)⟩
        rw [htk, putAll_app, ← hpk y]
        unfold pbs
        rw [pput_get]
        show ((if y = z then some (z, s', e.2.2, b') else pget P' y).map _) = if e.1 = (y : Int) then _ else _
        by_cases hyz : y = z
        · rw [if_pos hyz, if_pos (by omega)]; rfl
        · rw [if_neg hyz, if_neg (by omega)]
      · have hkL : k = L.length := by omega
        subst hkL
        have hE7 := hE6.kp k6.wf kk
        obtain ⟨m8, f8, a8, k8, n8⟩ := hE7.st kk.wf 0 [iv 0]
        have a8 : At m8 E ty_api_Errno true [iv 0] := a8
        have kk8 : KeepK mk m8 [erK] := k8.k1 (E := [erK]) (S := []) hE7.kd
        simp -implicitDefEqProofs only [r_c7_29, r_c7_33, e4', e105, e106, show ((L.length : Int) < (L.length : Int)) = False from eq_false (by omega), f8, ↓reduceIte, Nat.reduceEqDiff, wA, wB, wC, wD]
        have kA8 : Keep m m8 (fun z => z = E ∨ Kinds m (lgK :: devK) [mb] z) := (kA6.trans kk fun z hz e => by
          rcases e with ⟨j, hj, _⟩ | ⟨hzm, _⟩
          · cases hj
          · cases List.mem_singleton.1 hzm
            exact .inr (.inr ⟨by simp, hP.mp.kd⟩)).trans k8 fun z hz e => .inl e
        have hmne : m4.next ≠ mb := by
          have := hP.mp.kd.lt hw
          omega
        have hdd7 : mk.get m4.next = some (.obj (.dfr true)) := (kk.get _ (by omega) (Kinds.not0 (kd_obj hdd6) (by decide) (by simpa using hmne))).trans hdd6
        have hnk := kk.next
        have hdd8 : m8.get m4.next = some (.obj (.dfr true)) := (kk8.get _ (by omega) (Kinds.not0 (kd_obj hdd7))).trans hdd7
        rw [List.take_of_length_le (by simp)] at hpk
        exact ⟨⟨m4.next, rfl, by omega, hdd8, by omega⟩, kA8, (d6.kp k6.wf kk).kp kk.wf kk8, .inl ⟨(g6.kp k6.wf kk).kp kk.wf kk8, a8, P', pk.kp kk.wf kk8, hpk⟩⟩
  · rw [hdead hd2]
    refine ⟨rfl, by simp -implicitDefEqProofs only [e4, ev_tm, ↓reduceIte, Nat.reduceEqDiff], ⟨m4.next, rfl, by omega, hdd, hnn⟩, kA, hDD, .inr ⟨hd2, hg5, hE5, p4.kp k04.wf kE⟩⟩
end
end Go.Proofs.YthbfinjddaembaaGreat
