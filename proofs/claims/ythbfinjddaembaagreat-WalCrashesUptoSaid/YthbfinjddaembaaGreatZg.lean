import Derived.Test.YthbfinjddaembaaGreatZf
set_option linter.unusedVariables false
set_option linter.unusedSimpArgs false
/- The law WalCrashes, walked: the commits, the law (printed by mkzg.py). -/
namespace Go.Proofs.YthbfinjddaembaaGreat
open Go Go.Am
theorem eq07 : ((0 : Int) = 7) = False := eq_false (by decide)
theorem putAll_len0 {z : Nat} : ∀ (l : List (Int × Bs)) (g : Nat → Option Bs), (∀ e ∈ l, e.2.length = 64) → (∀ t, g z = some t → t.length = 64) → ∀ t, putAll g l z = some t → t.length = 64
  | [], g, _, h, t, ht => h t ht
  | e :: l, g, hl, h, t, ht => by
    refine putAll_len0 l (fun j => if e.1 = (j : Int) then some e.2 else g j) (fun x hx => hl x (List.mem_cons_of_mem _ hx)) (fun u hu => ?_) t ht
    by_cases he : e.1 = (z : Int)
    · rw [if_pos he] at hu; cases hu; exact hl e List.mem_cons_self
    · rw [if_neg he] at hu; exact h u hu
theorem putAll_len {L : List Wr} (hs : Snd L) {t : Bs} (ht : t.length = 64) {b : Nat} : ((putAll (fun _ => none) (wv L) b).getD t).length = 64 := by
  cases h : putAll (fun _ => none) (wv L) b with
  | none => exact ht
  | some u =>
    refine putAll_len0 (wv L) (fun _ => none) (fun e he => ?_) (fun t ht => by cases ht) u h
    obtain ⟨w, hw, rfl⟩ := List.mem_map.1 he
    exact (hs w hw).1
set_option maxRecDepth 20000 in
set_option maxHeartbeats 8000000 in
theorem crashes_A {m : M} {fr : Fr} {d cb lg mb PB seq tail used by0 : Nat} {S : Ds} {c V : Nat → Bs} {es : List (Int × Bs)} {P : List Pe} {x px ax y st : AV} {X : List (AV × List Wr)} {Z : List (AV × List Int)} {zs : List Int} (hw : Wf m) (h : CrAt m d cb lg mb S 2 seq tail used c es P) (hsq : seq ≤ 1)
    (hV : ∀ b, 11 ≤ b → b < 60 → Vw c es b = V b) (hV64 : ∀ b, b < 60 → (V b).length = 64) (hP : At m PB ty_api_Plan true smallP) (hy : BtU m y (imgB V) by0) (hst : StAt m st [imgB V]) (hpx : PksAt m px Z) (hax : PkAt m ax zs) (hX : ScAt m x X) (hzs : ∀ z ∈ zs, z ≤ 9223372036854775807)
    (e0 : ev (tm 0) fr = x) (e2 : ev (tm 2) fr = px) (e3 : ev (tm 3) fr = ax) (e9 : ev (tm 9) fr = .ptr PB 0) (e10 : ev (tm 10) fr = .ptr d 0) (e11 : ev (tm 11) fr = .ptr lg 0) (e12 : ev (tm 12) fr = y) (e14 : ev (tm 14) fr = st) (e15 : ev (tm 15) fr = iv 0) :
    GX Tryz.prog tb (.loop k_f5_21) (BK 0 (SK Tryz.prog tb k_f5_48 (FK Tryz.prog [.tmp 8] okQ))) fr m := by
  refine GX_loop (fun j fr mk => ∃ k S n seq tail used c es P V y by_ st, k ≤ 20 ∧ j = 20 - k ∧ n ≤ 2 + 200 * k ∧ seq ≤ 1 + k ∧ (ev (tm 0) fr = x ∧ ev (tm 2) fr = px ∧ ev (tm 3) fr = ax ∧ ev (tm 9) fr = .ptr PB 0 ∧ ev (tm 10) fr = .ptr d 0 ∧ ev (tm 11) fr = .ptr lg 0 ∧ ev (tm 12) fr = y ∧ ev (tm 14) fr = st ∧ ev (tm 15) fr = iv (k : Nat)) ∧ CrAt mk d cb lg mb S n seq tail used c es P ∧ (∀ b, 11 ≤ b → b < 60 → Vw c es b = V b) ∧ (∀ b, b < 60 → (V b).length = 64) ∧ At mk PB ty_api_Plan true smallP ∧ BtU mk y (imgB V) by_ ∧ StAt mk st [imgB V] ∧ PksAt mk px Z ∧ PkAt mk ax zs ∧ ScAt mk x X ∧ Wf mk) (k := 20)
    ⟨0, S, 2, seq, tail, used, c, es, P, V, y, by0, st, Nat.zero_le _, rfl, Nat.le_refl _, hsq, by simp -implicitDefEqProofs only [e0, e2, e3, e9, e10, e11, e12, e14, e15, nc0, nc0, and_self], h, hV, hV64, hP, hy, hst, hpx, hax, hX, hw⟩ ?_
  clear e0 e2 e3 e9 e10 e11 e12 e14 e15 h hsq hV hV64 hP hy hst hpx hax hX hw
  rintro j fr mk ⟨k, S, n, seq, tail, used, c, es, P, V, y, by_, st, hk, rfl, hn, hsq, ⟨e0, e2, e3, e9, e10, e11, e12, e14, e15⟩, h, hV, hV64, hP, hy, hst, hpx, hax, hXk, hwk⟩
  by_cases hgo : k < X.length ∧ k < 20
  · obtain ⟨c1, c2⟩ := hgo
    obtain ⟨xb, xc, xq, hxe, hr⟩ := hXk.cell c1
    obtain ⟨hd, hdl⟩ := hXk.dt _ (List.getElem_mem c1)
    obtain ⟨xe, hXe⟩ : ∃ xe, X[k].1 = xe := ⟨_, rfl⟩
    have hdlen := hd.len
    have haq : aveq 40 xe xe = true := by rw [← hXe]; exact len_aq hd.len
    have haq' := haq
    rw [hXe] at hr hdlen
    have hlx := hXk.len
    have e0' := e0
    rw [hxe] at e0' hlx
    have hdL := hd
    rw [hXe] at hdL
    simp -implicitDefEqProofs only [o_f5, r_f5_12, r_f5_14, r_f5_15, e0', e15, hlx, show ((k : Int) < (X.length : Int)) = True from eq_true (by omega), show ((k : Int) < 20) = True from eq_true (by omega), v_iaS 1 xb 0 X.length xc xq c1, Nat.mul_one, hr, hdlen, ↓reduceIte, Nat.reduceEqDiff, wA, wB, wC, wD]
    by_cases c3 : X[k].2.length = 0
    · have hL0 : X[k].2 = [] := List.length_eq_zero_iff.1 c3
      have hs : Snd X[k].2 := by rw [hL0]; intro e he; cases he
      have c3' : ((X[k].2.length : Nat) : Int) = 0 := by omega
      simp -implicitDefEqProofs only [o_f5, r_f5_16, e11, eq_true c3', ↓reduceIte, Nat.reduceEqDiff, wA, wB, wC, wD]
      refine cr_apply hwk h (by omega) (fun m4 S4 _ d4 hd4d b4 g4 k4 => ?_) (fun m4 S4 c' tl us P' h4 hV4 k4 => ?_)
      · have hPa := hP.kp hwk k4
        have qa : m4.rdN PB 0 12 = some smallP := hPa.rdN (i := 0) (n := 12) (Nat.le_refl 12)
        obtain ⟨xb4, xc4, xq4, hx4, hr4⟩ := (hXk.kp hwk k4).cell c1
        rw [hxe] at hx4
        cases hx4
        have hd4 := hd.kp hwk k4
        have hy4 := hy.kp hwk k4
        obtain ⟨m5, k5, r5⟩ := lsound_ran k4.wf hd4 hs hdl
        obtain ⟨xb5, xc5, xq5, hx5, hr5⟩ := ((hXk.kp hwk k4).kp k4.wf (E := []) (S := []) k5.k0).cell c1
        rw [hxe] at hx5
        cases hx5
        have q5 : m5.rdN PB 0 12 = some smallP := (hPa.keep k4.wf k5 fun h => h).rdN (i := 0) (n := 12) (Nat.le_refl 12)
        obtain ⟨m6, y6, b6, hy6, k6, r6⟩ := written_ran k5.wf (hy4.keep k4.wf k5 fun h => h) hV64 (hd4.k0 k4.wf k5) hs hdl
        rw [hXe] at hr4 hr5 r5 r6
        have k56 := k5.tf k6
        obtain ⟨m7, e7, a7, k7, n7⟩ := addL_at k6.wf ty_string 1 [tv (imgB fun b => (putAll (fun _ => none) (wv X[k].2) b).getD (V b))]
        have k57 := k56.tf k7
        obtain ⟨o, hsl⟩ := ((hst.kp hwk k4).kp k4.wf (E := []) (S := []) k57.k0).sl
        have src : SlAt m7 ty_string 1 (.slice m6.next 0 1 1 false) 1 [tv (imgB fun b => (putAll (fun _ => none) (wv X[k].2) b).getD (V b))] (some m6.next) := .row (junk := []) a7 rfl rfl (Nat.le_refl _) (by decide)
        obtain ⟨s8, m8, o8, ea, hs8, k8, _⟩ := hsl.append (bytes := 16) (z := [tv []]) k7.wf src.src (room_of (by simp) (by omega))
        have k8' : KeepK m7 m8 [ty_string + 1] := (k8.mono (G := fun x => x = o) fun _ _ h => (Option.some.inj h).symm).k1 hsl.kd
        have hst8 : StAt m8 s8 ([V, fun b => (putAll (fun _ => none) (wv X[k].2) b).getD (V b)].map imgB) := .of hs8 (by simp)
        simp -implicitDefEqProofs only [o_f5, r_f5_18, r_f5_20, r_f5_21, r_f5_22, r_f5_24, r_f5_25, r_f5_26, e0', e9, e12, e14, e15, qa, plan_aq, v_iaS 1 xb 0 X.length xc xq c1, Nat.mul_one, hr4, hr5, haq, r5.eq, q5, r6.eq, hy6.bs.run_b2s, e7, ea, eq70, ↓reduceIte, Nat.reduceEqDiff, Nat.reduceLeDiff, exists_eq_left', wA, wB, wC, wD]
        exact crashes_B k8'.wf ⟨((d4).k0 k4.wf k57).kp k57.wf k8', (b4.mono (Nat.le_add_right _ 137) (Nat.le_refl _)).mono (Nat.le_refl _) (by omega), fun f hf => ⟨V, by simp, (g4 f hf).congr fun b h1 h2 => (hV b h1 h2)⟩⟩ (by omega) ((hPa.keep k4.wf k57 fun h => h).kp k57.wf k8') hst8 (by simp) (((hpx.kp hwk k4).kp k4.wf (E := []) (S := []) k57.k0).kp k57.wf k8') (((hax.kp hwk k4).kp k4.wf (E := []) (S := []) k57.k0).kp k57.wf k8') hzs (by simp -implicitDefEqProofs only [e2, ev_tm, ↓reduceIte, Nat.reduceEqDiff]) (by simp -implicitDefEqProofs only [e3, ev_tm, ↓reduceIte, Nat.reduceEqDiff]) (by simp -implicitDefEqProofs only [e9, ev_tm, ↓reduceIte, Nat.reduceEqDiff]) (by simp -implicitDefEqProofs only [e10, ev_tm, ↓reduceIte, Nat.reduceEqDiff]) (by simp -implicitDefEqProofs only [ev_tm, ↓reduceIte, Nat.reduceEqDiff]) (by simp -implicitDefEqProofs only [ev_tm, ↓reduceIte])
      · have hPa := hP.kp hwk k4
        have qa : m4.rdN PB 0 12 = some smallP := hPa.rdN (i := 0) (n := 12) (Nat.le_refl 12)
        obtain ⟨xb4, xc4, xq4, hx4, hr4⟩ := (hXk.kp hwk k4).cell c1
        rw [hxe] at hx4
        cases hx4
        have hd4 := hd.kp hwk k4
        have hy4 := hy.kp hwk k4
        obtain ⟨m5, k5, r5⟩ := lsound_ran k4.wf hd4 hs hdl
        obtain ⟨xb5, xc5, xq5, hx5, hr5⟩ := ((hXk.kp hwk k4).kp k4.wf (E := []) (S := []) k5.k0).cell c1
        rw [hxe] at hx5
        cases hx5
        have q5 : m5.rdN PB 0 12 = some smallP := (hPa.keep k4.wf k5 fun h => h).rdN (i := 0) (n := 12) (Nat.le_refl 12)
        obtain ⟨m6, y6, b6, hy6, k6, r6⟩ := written_ran k5.wf (hy4.keep k4.wf k5 fun h => h) hV64 (hd4.k0 k4.wf k5) hs hdl
        rw [hXe] at hr4 hr5 r5 r6
        have k56 := k5.tf k6
        obtain ⟨m7, e7, a7, k7, n7⟩ := addL_at k6.wf ty_string 1 [tv (imgB fun b => (putAll (fun _ => none) (wv X[k].2) b).getD (V b))]
        have k57 := k56.tf k7
        simp -implicitDefEqProofs only [o_f5, r_f5_18, r_f5_20, r_f5_21, r_f5_22, r_f5_23, r_f5_24, r_f5_13, e0', e9, e12, e15, qa, plan_aq, v_iaS 1 xb 0 X.length xc xq c1, Nat.mul_one, hr4, hr5, haq, r5.eq, q5, r6.eq, hy6.bs.run_b2s, e7, eq07, b_add ty_int (show -9223372036854775808 ≤ (k : Int) + 1 by omega) (show (k : Int) + 1 ≤ 9223372036854775807 by omega), ↓reduceIte, Nat.reduceEqDiff, Nat.reduceLeDiff, exists_eq_left', wA, wB, wC, wD]
        exact LK_n (k' := 20 - (k + 1)) (by omega) ⟨k + 1, _, n + 200, _, _, _, _, _, _, fun b => (putAll (fun _ => none) (wv X[k].2) b).getD (V b), y6, b6, .slice m6.next 0 1 1 false, by omega, rfl, by omega, by omega, by simp -implicitDefEqProofs only [e0', e2, e3, e9, e10, e11, hxe, show (k : Int) + 1 = ((k + 1 : Nat) : Int) from rfl, ev_tm, ↓reduceIte, Nat.reduceEqDiff, and_self], (h4.mono (Nat.le_add_right _ 137)).k0 k4.wf k57, fun b h1 h2 => by rw [hL0]; exact (hV4 b h1 h2).trans (hV b h1 h2), fun b hb => putAll_len hs (hV64 b hb), hPa.keep k4.wf k57 fun h => h, hy6.keep k6.wf k7 fun h => h, ⟨m6.next, 1, [], true, rfl, a7, rfl, Nat.le_refl _, by decide⟩, (hpx.kp hwk k4).kp k4.wf (E := []) (S := []) k57.k0, (hax.kp hwk k4).kp k4.wf (E := []) (S := []) k57.k0, (hXk.kp hwk k4).kp k4.wf (E := []) (S := []) k57.k0, k57.wf⟩
    · have c3' : ¬ ((X[k].2.length : Nat) : Int) = 0 := by omega
      simp -implicitDefEqProofs only [o_f5, r_f5_17, e0', e11, e15, eq_false c3', v_iaS 1 xb 0 X.length xc xq c1, Nat.mul_one, hr, ↓reduceIte, Nat.reduceEqDiff, wA, wB, wC, wD]
      refine cr_commit hwk h (by omega) hdL hdl c3 (fun m4 e he0 he7 k4 => ?_) (fun m4 S4 hs d4 hd4d b4 g4 k4 => ?_) (fun m4 S4 c' tl us es' P' hs h4 hV4 k4 => ?_)
      · simp -implicitDefEqProofs only [o_f5, r_f5_18, r_f5_20, r_f5_22, r_f5_24, r_f5_13, e9, e15, eq_false he0, eq_false he7, b_add ty_int (show -9223372036854775808 ≤ (k : Int) + 1 by omega) (show (k : Int) + 1 ≤ 9223372036854775807 by omega), ↓reduceIte, Nat.reduceEqDiff, exists_eq_left', wA, wB, wC, wD]
        exact LK_n (k' := 20 - (k + 1)) (by omega) ⟨k + 1, S, n, seq, tail, used, c, es, P, V, y, by_, st, by omega, rfl, by omega, by omega, by simp -implicitDefEqProofs only [e0', e2, e3, e9, e10, e11, e12, e14, hxe, show (k : Int) + 1 = ((k + 1 : Nat) : Int) from rfl, ev_tm, ↓reduceIte, Nat.reduceEqDiff, and_self], h.k0 hwk k4, hV, hV64, hP.keep hwk k4 fun h => h, hy.keep hwk k4 fun h => h, hst.kp hwk (E := []) (S := []) k4.k0, hpx.kp hwk (E := []) (S := []) k4.k0, hax.kp hwk (E := []) (S := []) k4.k0, hXk.k0 hwk k4, k4.wf⟩
      · have hPa := hP.kp hwk k4
        have qa : m4.rdN PB 0 12 = some smallP := hPa.rdN (i := 0) (n := 12) (Nat.le_refl 12)
        obtain ⟨xb4, xc4, xq4, hx4, hr4⟩ := (hXk.kp hwk k4).cell c1
        rw [hxe] at hx4
        cases hx4
        have hd4 := hd.kp hwk k4
        have hy4 := hy.kp hwk k4
        obtain ⟨m5, k5, r5⟩ := lsound_ran k4.wf hd4 hs hdl
        obtain ⟨xb5, xc5, xq5, hx5, hr5⟩ := ((hXk.kp hwk k4).kp k4.wf (E := []) (S := []) k5.k0).cell c1
        rw [hxe] at hx5
        cases hx5
        have q5 : m5.rdN PB 0 12 = some smallP := (hPa.keep k4.wf k5 fun h => h).rdN (i := 0) (n := 12) (Nat.le_refl 12)
        obtain ⟨m6, y6, b6, hy6, k6, r6⟩ := written_ran k5.wf (hy4.keep k4.wf k5 fun h => h) hV64 (hd4.k0 k4.wf k5) hs hdl
        rw [hXe] at hr4 hr5 r5 r6
        have k56 := k5.tf k6
        obtain ⟨m7, e7, a7, k7, n7⟩ := addL_at k6.wf ty_string 1 [tv (imgB fun b => (putAll (fun _ => none) (wv X[k].2) b).getD (V b))]
        have k57 := k56.tf k7
        obtain ⟨o, hsl⟩ := ((hst.kp hwk k4).kp k4.wf (E := []) (S := []) k57.k0).sl
        have src : SlAt m7 ty_string 1 (.slice m6.next 0 1 1 false) 1 [tv (imgB fun b => (putAll (fun _ => none) (wv X[k].2) b).getD (V b))] (some m6.next) := .row (junk := []) a7 rfl rfl (Nat.le_refl _) (by decide)
        obtain ⟨s8, m8, o8, ea, hs8, k8, _⟩ := hsl.append (bytes := 16) (z := [tv []]) k7.wf src.src (room_of (by simp) (by omega))
        have k8' : KeepK m7 m8 [ty_string + 1] := (k8.mono (G := fun x => x = o) fun _ _ h => (Option.some.inj h).symm).k1 hsl.kd
        have hst8 : StAt m8 s8 ([V, fun b => (putAll (fun _ => none) (wv X[k].2) b).getD (V b)].map imgB) := .of hs8 (by simp)
        simp -implicitDefEqProofs only [o_f5, r_f5_18, r_f5_20, r_f5_21, r_f5_22, r_f5_24, r_f5_25, r_f5_26, e0', e9, e12, e14, e15, qa, plan_aq, v_iaS 1 xb 0 X.length xc xq c1, Nat.mul_one, hr4, hr5, haq, r5.eq, q5, r6.eq, hy6.bs.run_b2s, e7, ea, eq70, ↓reduceIte, Nat.reduceEqDiff, Nat.reduceLeDiff, exists_eq_left', wA, wB, wC, wD]
        exact crashes_B k8'.wf ⟨((d4).k0 k4.wf k57).kp k57.wf k8', (b4).mono (Nat.le_refl _) (by omega), fun f hf => by
          rcases g4 f hf with g | g
          · exact ⟨V, by simp, g.congr fun b h1 h2 => hV b h1 h2⟩
          · exact ⟨fun b => (putAll (fun _ => none) (wv X[k].2) b).getD (V b), by simp, g.congr fun b h1 h2 => by rw [Vw_app, hV b h1 h2]⟩⟩ (by omega) ((hPa.keep k4.wf k57 fun h => h).kp k57.wf k8') hst8 (by simp) (((hpx.kp hwk k4).kp k4.wf (E := []) (S := []) k57.k0).kp k57.wf k8') (((hax.kp hwk k4).kp k4.wf (E := []) (S := []) k57.k0).kp k57.wf k8') hzs (by simp -implicitDefEqProofs only [e2, ev_tm, ↓reduceIte, Nat.reduceEqDiff]) (by simp -implicitDefEqProofs only [e3, ev_tm, ↓reduceIte, Nat.reduceEqDiff]) (by simp -implicitDefEqProofs only [e9, ev_tm, ↓reduceIte, Nat.reduceEqDiff]) (by simp -implicitDefEqProofs only [e10, ev_tm, ↓reduceIte, Nat.reduceEqDiff]) (by simp -implicitDefEqProofs only [ev_tm, ↓reduceIte, Nat.reduceEqDiff]) (by simp -implicitDefEqProofs only [ev_tm, ↓reduceIte])
      · have hPa := hP.kp hwk k4
        have qa : m4.rdN PB 0 12 = some smallP := hPa.rdN (i := 0) (n := 12) (Nat.le_refl 12)
        obtain ⟨xb4, xc4, xq4, hx4, hr4⟩ := (hXk.kp hwk k4).cell c1
        rw [hxe] at hx4
        cases hx4
        have hd4 := hd.kp hwk k4
        have hy4 := hy.kp hwk k4
        obtain ⟨m5, k5, r5⟩ := lsound_ran k4.wf hd4 hs hdl
        obtain ⟨xb5, xc5, xq5, hx5, hr5⟩ := ((hXk.kp hwk k4).kp k4.wf (E := []) (S := []) k5.k0).cell c1
        rw [hxe] at hx5
        cases hx5
        have q5 : m5.rdN PB 0 12 = some smallP := (hPa.keep k4.wf k5 fun h => h).rdN (i := 0) (n := 12) (Nat.le_refl 12)
        obtain ⟨m6, y6, b6, hy6, k6, r6⟩ := written_ran k5.wf (hy4.keep k4.wf k5 fun h => h) hV64 (hd4.k0 k4.wf k5) hs hdl
        rw [hXe] at hr4 hr5 r5 r6
        have k56 := k5.tf k6
        obtain ⟨m7, e7, a7, k7, n7⟩ := addL_at k6.wf ty_string 1 [tv (imgB fun b => (putAll (fun _ => none) (wv X[k].2) b).getD (V b))]
        have k57 := k56.tf k7
        simp -implicitDefEqProofs only [o_f5, r_f5_18, r_f5_20, r_f5_21, r_f5_22, r_f5_23, r_f5_24, r_f5_13, e0', e9, e12, e15, qa, plan_aq, v_iaS 1 xb 0 X.length xc xq c1, Nat.mul_one, hr4, hr5, haq, r5.eq, q5, r6.eq, hy6.bs.run_b2s, e7, eq07, b_add ty_int (show -9223372036854775808 ≤ (k : Int) + 1 by omega) (show (k : Int) + 1 ≤ 9223372036854775807 by omega), ↓reduceIte, Nat.reduceEqDiff, Nat.reduceLeDiff, exists_eq_left', wA, wB, wC, wD]
        exact LK_n (k' := 20 - (k + 1)) (by omega) ⟨k + 1, _, n + 200, _, _, _, _, _, _, fun b => (putAll (fun _ => none) (wv X[k].2) b).getD (V b), y6, b6, .slice m6.next 0 1 1 false, by omega, rfl, by omega, by omega, by simp -implicitDefEqProofs only [e0', e2, e3, e9, e10, e11, hxe, show (k : Int) + 1 = ((k + 1 : Nat) : Int) from rfl, ev_tm, ↓reduceIte, Nat.reduceEqDiff, and_self], (h4).k0 k4.wf k57, fun b h1 h2 => by rw [hV4 b h1 h2, Vw_app, hV b h1 h2], fun b hb => putAll_len hs (hV64 b hb), hPa.keep k4.wf k57 fun h => h, hy6.keep k6.wf k7 fun h => h, ⟨m6.next, 1, [], true, rfl, a7, rfl, Nat.le_refl _, by decide⟩, (hpx.kp hwk k4).kp k4.wf (E := []) (S := []) k57.k0, (hax.kp hwk k4).kp k4.wf (E := []) (S := []) k57.k0, (hXk.kp hwk k4).kp k4.wf (E := []) (S := []) k57.k0, k57.wf⟩
  · have h10 : ∀ {A : Prop}, (¬ (k : Int) < (X.length : Int) → A) → ((k : Int) < (X.length : Int) → ¬ (k : Int) < 20 → A) → A := fun h1 h2 => by
      by_cases hc : (k : Int) < (X.length : Int)
      · exact h2 hc fun h => hgo ⟨by omega, by omega⟩
      · exact h1 hc
    have hlx := hXk.len
    have hpo : PoAt mk d cb S n [V] := ⟨h.ds, h.bd.mono (Nat.le_refl _) (Nat.zero_le _), fun f hf => ⟨V, by simp, GoodC.cg ⟨_, _, _, _, h.ok, hV⟩ fun b hb => h.rs.cand hf b hb⟩⟩
    refine h10 (fun c1 => ?_) (fun c1 c2 => ?_)
    · simp -implicitDefEqProofs only [o_f5, r_f5_12, r_f5_26, e0, e15, hlx, eq_false c1, ↓reduceIte, Nat.reduceEqDiff, wA, wB, wC, wD]
      exact crashes_B hwk hpo (by omega) hP hst (by simp) hpx hax hzs (by simp -implicitDefEqProofs only [e2, ev_tm, ↓reduceIte, Nat.reduceEqDiff]) (by simp -implicitDefEqProofs only [e3, ev_tm, ↓reduceIte, Nat.reduceEqDiff]) (by simp -implicitDefEqProofs only [e9, ev_tm, ↓reduceIte, Nat.reduceEqDiff]) (by simp -implicitDefEqProofs only [e10, ev_tm, ↓reduceIte, Nat.reduceEqDiff]) (by simp -implicitDefEqProofs only [e14, ev_tm, ↓reduceIte, Nat.reduceEqDiff]) (by simp -implicitDefEqProofs only [ev_tm, ↓reduceIte])
    · simp -implicitDefEqProofs only [o_f5, r_f5_12, r_f5_26, e0, e15, hlx, eq_true c1, eq_false c2, ↓reduceIte, Nat.reduceEqDiff, wA, wB, wC, wD]
      exact crashes_B hwk hpo (by omega) hP hst (by simp) hpx hax hzs (by simp -implicitDefEqProofs only [e2, ev_tm, ↓reduceIte, Nat.reduceEqDiff]) (by simp -implicitDefEqProofs only [e3, ev_tm, ↓reduceIte, Nat.reduceEqDiff]) (by simp -implicitDefEqProofs only [e9, ev_tm, ↓reduceIte, Nat.reduceEqDiff]) (by simp -implicitDefEqProofs only [e10, ev_tm, ↓reduceIte, Nat.reduceEqDiff]) (by simp -implicitDefEqProofs only [e14, ev_tm, ↓reduceIte, Nat.reduceEqDiff]) (by simp -implicitDefEqProofs only [ev_tm, ↓reduceIte])
theorem rests_qt {S : Ds} (hq : S.Qt) (hl : S.L.length = 60) : Rests S.L S.ct := ⟨hl, fun b hb => by
  have hx : S.L[b]? = some (S.L[b]'(by omega)) := List.getElem?_eq_getElem (by omega)
  have hm := hq _ (List.mem_of_getElem? hx)
  generalize S.L[b]'(by omega) = x at hx hm
  rw [hx]
  unfold Ds.ct
  rw [hx]
  obtain ⟨a, w⟩ := x
  have hm : w = [] := hm
  subst hm
  rfl⟩
set_option maxRecDepth 20000 in
set_option maxHeartbeats 4000000 in
theorem crashes_spec {m : M} {x px ax : AV} {X : List (AV × List Wr)} {Z : List (AV × List Int)} {zs : List Int} {ff : Int} (hw : Wf m) (hX : ScAt m x X) (hpx : PksAt m px Z) (hax : PkAt m ax zs) (hzs : ∀ z ∈ zs, z ≤ 9223372036854775807) (hff : ff ≤ 9223372036854775807) : WpF Tryz.prog tb fn_f5 [x, iv ff, px, ax] m okQ := by
  have rW : Ran Tryz.prog tb fn_l9_wakes [] m (.b true) m := known_ran Tryz.func7 rfl
  have rS : Ran Tryz.prog tb fn_l9_small [] m (.agg smallP) m := known_ran Tryz.func8 rfl
  obtain ⟨m1, e1, a1, k1, n1⟩ := addZ_at hw ty_api_Plan 12 [iv 0, iv 0, iv 0, iv 0, iv 0, iv 0, iv 0, iv 0, iv 0, iv 0, iv 0, iv 0]
  obtain ⟨m2, e2, a2, k2, n2⟩ := a1.st k1.wf 0 smallP
  have a2 : At m2 m.next ty_api_Plan true smallP := a2
  have k02 : Keep m m2 fun _ => False := k1.trans k2 fun z hz e => by omega
  have q2 : m2.rdN m.next 0 12 = some smallP := a2.rdN (i := 0) (n := 12) (Nat.le_refl 12)
  refine WpF.go at_f5 ?_
  simp -implicitDefEqProofs only [o_f5, r_f5_0, r_f5_1, r_f5_3, r_f5_4, rW.eq, rS.eq, e1, e2, q2, ↓reduceIte, Nat.reduceEqDiff, Nat.reduceAdd, wA, wB, wC, wD]
  refine fresh_ds k2.wf fun m3 d cb lg mb S P d3 lv qt bd ok _ g3 p3 hp3 k3 => ?_
  have a3 : At m3 m.next ty_api_Plan true smallP := a2.kp k02.wf k3
  have q3 : m3.rdN m.next 0 12 = some smallP := a3.rdN (i := 0) (n := 12) (Nat.le_refl 12)
  obtain ⟨m4, y1, b1, hy1, hb1, k4, r4⟩ := image_ds k3.wf d3 bd (by omega) lv.de
  have hcr3 : CrAt m3 d cb lg mb S 2 1 0 0 S.ct [] P := ⟨d3, lv.de, rests_qt qt bd.len, bd, ok, g3, p3, hp3⟩
  have hcr4 := hcr3.k0 k3.wf k4
  have k34 := k3.tf k4
  have hX4 := (hX.k0 hw k02).kp k02.wf k34
  have hp4 := (hpx.kp hw (E := []) (S := []) k02.k0).kp k02.wf k34
  have ha4 := (hax.kp hw (E := []) (S := []) k02.k0).kp k02.wf k34
  have a4 := a3.keep k3.wf k4 fun h => h
  by_cases c1 : 0 ≤ ff
  · obtain ⟨m5, d5, k5, r5⟩ := ds_fuse k4.wf hcr4.ds bd lv.de c1 hff
    have hB1 := bd.f1
    have hBf : ({ S with fused := true, fuse := ff } : Ds).Bd 2 0 := ⟨bd.len, by show -((2 : Nat) : Int) ≤ ff; omega, hff, bd.w1, bd.w2, bd.wt, bd.b1, bd.b2⟩
    have hcr5 : CrAt m5 d cb lg mb { S with fused := true, fuse := ff } 2 1 0 0 S.ct [] P := ⟨d5, lv.de, rests_qt qt bd.len, hBf, ok, hcr4.lg.kp k4.wf k5, hcr4.pm.kp k4.wf k5, hp3⟩
    have hy5 := hy1.kp k4.wf k5
    obtain ⟨m6, e6, a6, k6, n6⟩ := addL_at k5.wf ty_string 1 [tv (imgB S.ct)]
    simp -implicitDefEqProofs only [o_f5, r_f5_5, r_f5_6, r_f5_8, r_f5_9, r_f5_10, r_f5_11, q3, r4.eq, eq_true c1, r5.eq, hy5.bs.run_b2s, e6, ↓reduceIte, Nat.reduceEqDiff, Nat.reduceLeDiff, wA, wB, wC, wD]
    exact crashes_A k6.wf (hcr5.k0 k5.wf k6) (Nat.le_refl _) (fun b _ _ => rfl) (fun b hb => bd.ct64 hb) ((a4.kp k4.wf k5).keep k5.wf k6 fun h => h) (hy5.keep k5.wf k6 fun h => h) ⟨m5.next, 1, [], true, rfl, a6, rfl, Nat.le_refl _, by decide⟩ ((hp4.kp k4.wf k5).kp k5.wf (E := []) (S := []) k6.k0) ((ha4.kp k4.wf k5).kp k5.wf (E := []) (S := []) k6.k0) ((hX4.kp k4.wf k5).k0 k5.wf k6) hzs (by simp -implicitDefEqProofs only [ev_tm, ↓reduceIte, Nat.reduceEqDiff]) (by simp -implicitDefEqProofs only [ev_tm, ↓reduceIte, Nat.reduceEqDiff]) (by simp -implicitDefEqProofs only [ev_tm, ↓reduceIte, Nat.reduceEqDiff]) (by simp -implicitDefEqProofs only [ev_tm, ↓reduceIte, Nat.reduceEqDiff]) (by simp -implicitDefEqProofs only [ev_tm, ↓reduceIte, Nat.reduceEqDiff]) (by simp -implicitDefEqProofs only [ev_tm, ↓reduceIte, Nat.reduceEqDiff]) (by simp -implicitDefEqProofs only [ev_tm, ↓reduceIte, Nat.reduceEqDiff]) (by simp -implicitDefEqProofs only [ev_tm, ↓reduceIte, Nat.reduceEqDiff, List.length_cons, List.length_nil, Nat.zero_add]) (by simp -implicitDefEqProofs only [ev_tm, ↓reduceIte])
  · obtain ⟨m6, e6, a6, k6, n6⟩ := addL_at k4.wf ty_string 1 [tv (imgB S.ct)]
    simp -implicitDefEqProofs only [o_f5, r_f5_5, r_f5_6, r_f5_8, r_f5_10, r_f5_11, q3, r4.eq, eq_false c1, hy1.bs.run_b2s, e6, ↓reduceIte, Nat.reduceEqDiff, Nat.reduceLeDiff, wA, wB, wC, wD]
    exact crashes_A k6.wf (hcr4.k0 k4.wf k6) (Nat.le_refl _) (fun b _ _ => rfl) (fun b hb => bd.ct64 hb) (a4.keep k4.wf k6 fun h => h) (hy1.keep k4.wf k6 fun h => h) ⟨m4.next, 1, [], true, rfl, a6, rfl, Nat.le_refl _, by decide⟩ (hp4.kp k4.wf (E := []) (S := []) k6.k0) (ha4.kp k4.wf (E := []) (S := []) k6.k0) (hX4.k0 k4.wf k6) hzs (by simp -implicitDefEqProofs only [ev_tm, ↓reduceIte, Nat.reduceEqDiff]) (by simp -implicitDefEqProofs only [ev_tm, ↓reduceIte, Nat.reduceEqDiff]) (by simp -implicitDefEqProofs only [ev_tm, ↓reduceIte, Nat.reduceEqDiff]) (by simp -implicitDefEqProofs only [ev_tm, ↓reduceIte, Nat.reduceEqDiff]) (by simp -implicitDefEqProofs only [ev_tm, ↓reduceIte, Nat.reduceEqDiff]) (by simp -implicitDefEqProofs only [ev_tm, ↓reduceIte, Nat.reduceEqDiff]) (by simp -implicitDefEqProofs only [ev_tm, ↓reduceIte, Nat.reduceEqDiff]) (by simp -implicitDefEqProofs only [ev_tm, ↓reduceIte, Nat.reduceEqDiff, List.length_cons, List.length_nil, Nat.zero_add]) (by simp -implicitDefEqProofs only [ev_tm, ↓reduceIte])
end Go.Proofs.YthbfinjddaembaaGreat
