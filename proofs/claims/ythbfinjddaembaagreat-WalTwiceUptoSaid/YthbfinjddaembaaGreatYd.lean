import Derived.Test.YthbfinjddaembaaGreatYc
set_option linter.unusedVariables false
set_option linter.unusedSimpArgs false
set_option linter.unusedVariables false
/- The law WalTwice, walked. -/
namespace Go.Proofs.YthbfinjddaembaaGreat
open Go Go.Am
/-- A list of lists of writes that is only read. -/
structure ScAt (m : M) (x : AV) (X : List (AV × List Wr)) : Prop where
  len : lenK false x = some X.length
  row : X ≠ [] → ∃ b cap q, x = .slice b 0 X.length cap q ∧ AtR m b (X.map (·.1)) ∧ kd m b roK
  dt : ∀ e ∈ X, WsAt m e.1 e.2 ∧ e.2.length ≤ 2000000
theorem ScAt.kp {m m' : M} {x : AV} {X : List (AV × List Wr)} {E S : List Nat} (h : ScAt m x X) (hw : Wf m) (hk : KeepK m m' E S) (hE : uB ∉ E := by decide) (hR : roK ∉ E := by decide) (hW : ty_api_Write + 1 ∉ E := by decide) : ScAt m' x X := by
  refine ⟨h.len, fun hn => ?_, fun e he => ⟨(h.dt e he).1.kp hw hk hE hR hW, (h.dt e he).2⟩⟩
  obtain ⟨b, cap, q, h1, h2, h3⟩ := h.row hn
  have hk1 : ¬ Kinds m E S b := Kinds.not h3 hR (by decide)
  have hg := hk.get b (AtR.lt' h2 hw) hk1
  exact ⟨b, cap, q, h1, h2.of_get hg, h3.of_get hg⟩
theorem ScAt.k0 {m m' : M} {x : AV} {X : List (AV × List Wr)} (h : ScAt m x X) (hw : Wf m) (k : Keep m m' fun _ => False) : ScAt m' x X := h.kp hw (E := []) (S := []) k.k0
theorem ScAt.cell {m : M} {x : AV} {X : List (AV × List Wr)} (h : ScAt m x X) {k : Nat} (hk : k < X.length) : ∃ b cap q, x = .slice b 0 X.length cap q ∧ m.rd b k = some X[k].1 := by
  obtain ⟨b, cap, q, h1, h2, _⟩ := h.row (fun e => by subst e; cases hk)
  refine ⟨b, cap, q, h1, ?_⟩
  rw [h2.rd, List.getElem?_map, List.getElem?_eq_getElem hk]; rfl
section
variable {m : M}
theorem len_aq {x : AV} {n : Nat} (h : lenK false x = some n) : aveq 40 x x = true := by
  cases x with
  | slice b o l c q => exact sl_aq b o l c q
  | sliceE b o a => simp [aveq, Nat.beq_refl]
  | p v =>
    cases v with
    | slice r l c =>
      cases r with
      | none => simp [aveq, veq, Nat.beq_refl]
      | some a => simp [aveq, veq, Nat.beq_refl]
    | _ => cases h
  | _ => cases h
theorem Rp.home {c : Nat → Bs} {tail used at' : Nat} {ps : List (Nat × List (Int × Bs))} (h : Rp c tail used at' ps) : ∀ e ∈ ps.flatMap (·.2), 11 ≤ e.1 := by
  have key : ∀ (l : List Nat) (u : Nat), (∀ z ∈ l, 11 ≤ z) → ∀ e ∈ ents9 c tail u l, 11 ≤ e.1 := fun l => by
    induction l with
    | nil => intro u _ e he; cases he
    | cons k l ih =>
      intro u hz e he
      rcases List.mem_cons.1 he with rfl | he
      · have := hz k List.mem_cons_self
        show (11 : Int) ≤ (k : Int)
        omega
      · exact ih (u + 1) (fun z h => hz z (List.mem_cons_of_mem _ h)) e he
  induction h with
  | nil => intro e he; cases he
  | @cons at' sq l ps g1 g2 g3 g4 g5 g6 g7 g8 ih =>
    intro e he
    rw [List.flatMap_cons] at he
    rcases List.mem_append.1 he with he | he
    · refine key l (at' + 1) (fun z hz => ?_) e he
      exact Nat.le_of_not_lt fun h => g7 (.inr ⟨z, hz, by omega⟩)
    · exact ih e he
theorem putAll_mem {l : List (Int × Bs)} {g : Nat → Option Bs} {z : Nat} {t : Bs} (h : putAll g l z = some t) : (∃ e ∈ l, e.1 = (z : Int)) ∨ g z = some t := by
  induction l generalizing g with
  | nil => exact .inr h
  | cons e l ih =>
    have h : putAll (fun j => if e.1 = (j : Int) then some e.2 else g j) l z = some t := h
    rcases ih h with ⟨x, hx, h2⟩ | h2
    · exact .inl ⟨x, List.mem_cons_of_mem _ hx, h2⟩
    · by_cases he : e.1 = (z : Int)
      · exact .inl ⟨e, List.mem_cons_self, he⟩
      · rw [if_neg he] at h2
        exact .inr h2
theorem WtAt.home {m : M} {d cb lg mb : Nat} {S : Ds} {n seq tail used : Nat} {es : List (Int × Bs)} {P : List Pe} (h : WtAt m d cb lg mb S n seq tail used es P) {z : Nat} {t : Bs} (hz : pbs P z = some t) : 11 ≤ z := by
  rw [h.pb] at hz
  rcases putAll_mem hz with ⟨e, he, h2⟩ | h2
  · obtain ⟨ps, h3, _, rfl⟩ := h.rs.ok.ps
    have := h3.home e he
    omega
  · cases h2
abbrev okQ : AV → M → Prop := fun v _ => v = .b true
theorem b_nnil (lg : Nat) : binS Tryz.prog .eql ty_pwal_Log (.ptr lg 0) nilp = some (.b false) := by kernel_rfl
set_option maxRecDepth 20000 in
set_option maxHeartbeats 4000000 in
theorem twice_C {fr : Fr} {d cb PB n seq tail b1 : Nat} {S : Ds} {x y1 : AV} {L : List Wr} (hw : Wf m) (h : RsD m d cb S n seq tail 0 []) (hn : n ≤ 100000) (hP : At m PB ty_api_Plan true smallP) (hx : WsAt m x L) (hy : BtU m y1 (imgB S.ct) b1)
    (hL : ∀ e ∈ L, ∃ z : Nat, e.1 = (z : Int) ∧ z < 60 ∧ S.ct z = e.2.2 ∧ e.2.2.length = 64) (hl : L.length ≤ 1000000)
    (e5 : ev (tm 5) fr = .ptr PB 0) (e6 : ev (tm 6) fr = .ptr d 0) (e9 : ev (tm 9) fr = x) (e15 : ev (tm 15) fr = y1) (e17 : ev (tm 17) fr = iv S.writes) (e18 : ev (tm 18) fr = iv 0) :
    GX Tryz.prog tb (.loop k_f3_54) (BK 4 (SK Tryz.prog tb k_f3_64 (FK Tryz.prog [.tmp 4] okQ))) fr m := by
  refine GX_loop (fun j fr mk => ∃ k, k ≤ L.length ∧ j = L.length - k ∧ (ev (tm 5) fr = .ptr PB 0 ∧ ev (tm 6) fr = .ptr d 0 ∧ ev (tm 9) fr = x ∧ ev (tm 15) fr = y1 ∧ ev (tm 17) fr = iv S.writes ∧ ev (tm 18) fr = iv (k : Nat)) ∧ Keep m mk (fun _ => False)) (k := L.length) ⟨0, Nat.zero_le _, rfl, by simp -implicitDefEqProofs only [e5, e6, e9, e15, e17, e18, nc0, nc0, and_self], Keep.refl hw _⟩ ?_
  clear e5 e6 e9 e15 e17 e18
  rintro j fr mk ⟨k, hk, rfl, ⟨e5, e6, e9, e15, e17, e18⟩, kk⟩
  have hwk := kk.wf
  have hxk := hx.k0 hw kk
  have hPk := hP.keep hw kk fun h => h
  have hyk := hy.keep hw kk fun h => h
  have hk' := h.kp hw (E := []) (R := []) kk.k0
  by_cases hlt : k < L.length
  · obtain ⟨bx, cx, qx, hx1, hr1, hr2⟩ := hxk.cell hlt
    have hm := List.getElem_mem hlt
    obtain ⟨z, hz1, hz2, hz3, hz4⟩ := hL _ hm
    obtain ⟨zb, hzb⟩ := (hxk.dt _ hm).bu hz4
    have haq := (hxk.dt _ hm).aq
    obtain ⟨m2, b2, c2, hb2, hc2, h64, k2, hn2, r2⟩ := ds_read2 (k := z) hwk hk'.ds hk'.bd (by omega) h.lv.de hz2
    have hcmp := same_ran hb2.bs (hzb.kp hwk (E := []) (S := []) k2.k0).bs
    rw [decide_eq_true hz3] at hcmp
    obtain ⟨bx', cx', qx', hx1', hr1', hr2'⟩ := (hxk.k0 hwk k2).cell hlt
    rw [hx1] at hx1'
    cases hx1'
    generalize L[k] = e at hr1 hr2 hr2' hm hz1 hcmp haq
    have hlx := hxk.len
    rw [hx1] at e9 hlx
    rw [hz1] at hr1
    simp -implicitDefEqProofs only [o_f3, r_f3_28, r_f3_30, r_f3_31, r_f3_29, e6, e9, e18, hlx, show ((k : Int) < (L.length : Int)) = True from eq_true (by omega), v_iaS 2 bx 0 L.length cx qx hlt, hr1, hr2', r2.eq, hcmp.eq, b_add ty_int (show -9223372036854775808 ≤ (k : Int) + 1 by omega) (show (k : Int) + 1 ≤ 9223372036854775807 by omega), ↓reduceIte, Nat.reduceEqDiff, wA, wB, wC, wD]
    exact LK_n (k' := L.length - (k + 1)) (by omega) ⟨k + 1, by omega, rfl, by simp -implicitDefEqProofs only [e5, e6, e9, e15, e17, hx1, show (k : Int) + 1 = ((k + 1 : Nat) : Int) from rfl, ev_tm, ↓reduceIte, Nat.reduceEqDiff, and_self], kk.tf k2⟩
  · have hkL : k = L.length := by omega
    subst hkL
    have q2 : mk.rdN PB 0 12 = some smallP := hPk.rdN (i := 0) (n := 12) (Nat.le_refl 12)
    simp -implicitDefEqProofs only [o_f3, r_f3_28, r_f3_33, e5, e6, e9, e18, hxk.len, show ((L.length : Int) < (L.length : Int)) = False from eq_false (by omega), q2, ↓reduceIte, Nat.reduceEqDiff, wA, wB, wC, wD]
    refine open_wt hwk hk' fun m3 lg mb P w3 _ _ k3 => ?_
    simp -implicitDefEqProofs only [o_f3, r_f3_34, r_f3_36, b_nnil, ↓reduceIte, Nat.reduceEqDiff, wA, wB, wC, wD]
    refine apply_wt k3.wf w3 hn fun m4 S' tail' w4 _ hS k4 => ?_
    have hS := hS rfl
    subst hS
    have hP4 : At m4 PB ty_api_Plan true smallP := (hPk.keep hwk k3 fun h => h).kp k3.wf k4
    have hy4 : BtU m4 y1 (imgB S'.ct) b1 := (hyk.keep hwk k3 fun h => h).kp k3.wf k4
    have q4 : m4.rdN PB 0 12 = some smallP := hP4.rdN (i := 0) (n := 12) (Nat.le_refl 12)
    obtain ⟨m5, y2, b2, hy2, hb2, k5, r5⟩ := image_ds k4.wf w4.rs.ds w4.rs.bd (by omega) w4.rs.lv.de
    have hcmp := same_ran (hy4.keep k4.wf k5 fun h => h).bs hy2.bs
    rw [decide_eq_true rfl] at hcmp
    have rw5 := writes_ran (w4.rs.ds.k0 k4.wf k5)
    simp -implicitDefEqProofs only [o_f3, r_f3_37, r_f3_38, e5, e6, e15, e17, q4, r5.eq, hcmp.eq, rw5.eq, ↓reduceIte, Nat.reduceEqDiff, wA, wB, wC, wD]
set_option maxRecDepth 20000 in
set_option maxHeartbeats 4000000 in
theorem twice_B {fr : Fr} {d cb lg mb PB n N seq tail used : Nat} {S : Ds} {es : List (Int × Bs)} {P : List Pe} {x : AV} {L : List Wr} (hw : Wf m) (h : WtAt m d cb lg mb S n seq tail used es P) (hn : n ≤ 10000) (hN : N ≤ 5) (hP : At m PB ty_api_Plan true smallP) (hx : WsAt m x L) (hL : wv L = plist P)
    (e1 : ev (tm 1) fr = iv (N : Nat)) (e5 : ev (tm 5) fr = .ptr PB 0) (e6 : ev (tm 6) fr = .ptr d 0) (e7 : ev (tm 7) fr = .ptr lg 0) (e9 : ev (tm 9) fr = x) (e10 : ev (tm 10) fr = iv 0) :
    GX Tryz.prog tb (.loop k_f3_27) (BK 2 (SK Tryz.prog tb k_f3_38 (FK Tryz.prog [.tmp 4] okQ))) fr m := by
  have hPl := h.pm.len
  have hpl : (plist P).length = P.length := by unfold plist; rw [List.length_map, len_pks]
  have hLl : L.length = P.length := by
    have := congrArg List.length hL
    unfold wv at this
    rw [List.length_map] at this
    omega
  have hLe : ∀ e ∈ L, ∃ z : Nat, e.1 = (z : Int) ∧ z < 60 ∧ pbs P z = some e.2.2 ∧ 11 ≤ z ∧ e.2.2.length = 64 := fun e he => by
    have hm : (e.1, e.2.2) ∈ plist P := by
      rw [← hL]; exact List.mem_map_of_mem (f := fun e : Wr => (e.1, e.2.2)) he
    obtain ⟨pe, hpe, hpe2⟩ := plist_nat hm
    obtain ⟨h1, h2⟩ := pget_some hpe
    have h3 := h.pm.rg pe h1
    have h4 : e.1 = (pe.1 : Int) := congrArg (·.1) hpe2
    have h5 : e.2.2 = pe.2.2.1 := congrArg (·.2) hpe2
    have h6 : e.1.toNat = pe.1 := by omega
    have h7 : (e.1, e.2.2).1.toNat = pe.1 := h6
    rw [h7] at hpe
    have h8 : pbs P pe.1 = some e.2.2 := by unfold pbs; rw [hpe, h5]; rfl
    exact ⟨pe.1, h4, h3.1, h8, h.home h8, by rw [h5]; exact h3.2⟩
  refine GX_loop (fun j fr mk => ∃ k, k ≤ N ∧ j = N - k ∧ (ev (tm 1) fr = iv (N : Nat) ∧ ev (tm 5) fr = .ptr PB 0 ∧ ev (tm 6) fr = .ptr d 0 ∧ ev (tm 7) fr = .ptr lg 0 ∧ ev (tm 9) fr = x ∧ ev (tm 10) fr = iv (k : Nat)) ∧ WtAt mk d cb lg mb S n seq tail used es P ∧ At mk PB ty_api_Plan true smallP ∧ WsAt mk x L ∧ Wf mk) (k := N) ⟨0, Nat.zero_le _, rfl, by simp -implicitDefEqProofs only [e1, e5, e6, e7, e9, e10, nc0, nc0, and_self], h, hP, hx, hw⟩ ?_
  clear e1 e5 e6 e7 e9 e10 hP hx hw h
  rintro j fr mk ⟨k, hk, rfl, ⟨e1, e5, e6, e7, e9, e10⟩, h, hP, hx, hw⟩
  by_cases hlt : k < N
  · simp -implicitDefEqProofs only [o_f3, r_f3_13, r_f3_15, e1, e6, e10, show ((k : Int) < (N : Int)) = True from eq_true (by omega), ↓reduceIte, Nat.reduceEqDiff, wA, wB, wC, wD]
    refine ds_crash0 hw h.rs.ds h.rs.bd h.rs.lv h.rs.qt fun m2 d2 k2 => ?_
    have rs2 : RsD m2 d cb S n seq tail used es := ⟨d2, h.rs.lv, h.rs.qt, h.rs.bd, h.rs.ok⟩
    have h2 : WtAt m2 d cb lg mb S n seq tail used es P := ⟨rs2, h.lg.kp hw k2, h.pm.kp hw k2, h.pb⟩
    have hP2 := hP.kp hw k2
    have hx2 := hx.kp hw k2
    have q2 : m2.rdN PB 0 12 = some smallP := hP2.rdN (i := 0) (n := 12) (Nat.le_refl 12)
    simp -implicitDefEqProofs only [o_f3, r_f3_16, e5, e6, q2, ↓reduceIte, Nat.reduceEqDiff, wA, wB, wC, wD]
    refine open_wt k2.wf rs2 fun m3 lg3 mb3 P3 w3 _ _ k3 => ?_
    obtain ⟨m4, x4, L4, hx4, hL4, hd4, k4, r4⟩ := pending_ok k3.wf w3.lg w3.pm (by have := w3.pm.len; omega)
    have hpe : plist P3 = plist P := plist_eq w3.pm.nd h.pm.nd fun k => by rw [w3.pb, h.pb]
    have k24 := k3.tf k4
    have rsame := samew_ran k4.wf hx4 (hx2.k0 k2.wf k24) (show wv L4 = wv L from by rw [hL, ← hpe]; exact hL4) (fun e he => by
      have hm : (e.1, e.2.2) ∈ plist P := by
        rw [← hpe, ← hL4]; exact List.mem_map_of_mem (f := fun e : Wr => (e.1, e.2.2)) he
      obtain ⟨pe, hpe, hpe2⟩ := plist_nat hm
      have h5 : e.2.2 = pe.2.2.1 := congrArg (·.2) hpe2
      rw [h5]
      exact (h.pm.rg pe (pget_some hpe).1).2) (by
        have := congrArg List.length hL4
        rw [List.length_map] at this
        rw [hpe] at this
        omega)
    obtain ⟨m5, k5, r5⟩ := hdr_ran k4.wf (w3.lg.kp k3.wf (E := []) (S := []) k4.k0)
    have k25 := k24.tf k5
    obtain ⟨m6, k6, r6⟩ := hdr_ran k5.wf (h2.lg.kp k2.wf (E := []) (S := []) k25.k0)
    have k26 := k25.tf k6
    have haqx : aveq 40 x x = true := len_aq hx.len
    have haqx4 : aveq 40 x4 x4 = true := len_aq hx4.len
    simp -implicitDefEqProofs only [o_f3, r_f3_17, r_f3_14, e7, e9, e10, b_nnil, r4.eq, rsame.eq, r5.eq, r6.eq, b_hdr, b_add ty_int (show -9223372036854775808 ≤ (k : Int) + 1 by omega) (show (k : Int) + 1 ≤ 9223372036854775807 by omega), ↓reduceIte, Nat.reduceEqDiff, wA, wB, wC, wD]
    refine LK_n (k' := N - (k + 1)) (by omega) ⟨k + 1, by omega, rfl, by simp -implicitDefEqProofs only [e1, e5, e6, e7, e9, show (k : Int) + 1 = ((k + 1 : Nat) : Int) from rfl, ev_tm, ↓reduceIte, Nat.reduceEqDiff, and_self], h2.k0 k2.wf k26, hP2.keep k2.wf k26 fun h => h, hx2.k0 k2.wf k26, k26.wf⟩
  · have hkN : k = N := by omega
    subst hkN
    have q2 : mk.rdN PB 0 12 = some smallP := hP.rdN (i := 0) (n := 12) (Nat.le_refl 12)
    simp -implicitDefEqProofs only [o_f3, r_f3_13, r_f3_19, e1, e5, e6, e10, show ((k : Int) < (k : Int)) = False from eq_false (by omega), q2, ↓reduceIte, Nat.reduceEqDiff, wA, wB, wC, wD]
    refine open_wt hw h.rs fun m3 lg3 mb3 P3 w3 _ _ k3 => ?_
    have hP3 := hP.keep hw k3 fun h => h
    have hx3 := hx.k0 hw k3
    simp -implicitDefEqProofs only [o_f3, r_f3_20, r_f3_22, b_nnil, ↓reduceIte, Nat.reduceEqDiff, wA, wB, wC, wD]
    refine apply_wt k3.wf w3 (by omega) fun m4 S' tail' w4 hct _ k4 => ?_
    have hP4 := hP3.kp k3.wf k4
    have hx4 := hx3.kp k3.wf k4
    have q4 : m4.rdN PB 0 12 = some smallP := hP4.rdN (i := 0) (n := 12) (Nat.le_refl 12)
    obtain ⟨m5, y1, b1, hy1, hb1, k5, r5⟩ := image_ds k4.wf w4.rs.ds w4.rs.bd (by omega) w4.rs.lv.de
    have rw5 := writes_ran (w4.rs.ds.k0 k4.wf k5)
    have w5 := w4.k0 k4.wf k5
    obtain ⟨m6, x6, L6, hx6, hL6, hd6, k6, r6⟩ := pending_ok k5.wf w5.lg w5.pm (by simp)
    have hL60 : L6.length = 0 := by
      have := congrArg List.length hL6
      rw [List.length_map] at this
      exact this
    have hx6l := hx6.len
    rw [hL60] at hx6l
    have k46 := k5.tf k6
    simp -implicitDefEqProofs only [o_f3, r_f3_23, r_f3_24, r_f3_25, r_f3_27, e5, e6, q4, r5.eq, rw5.eq, r6.eq, hx6l, ↓reduceIte, Nat.reduceEqDiff, wA, wB, wC, wD]
    refine twice_C k6.wf (w4.rs.kp k4.wf (E := []) (R := []) k46.k0) (by omega) (hP4.keep k4.wf k46 fun h => h) (hx4.k0 k4.wf k46) (hy1.keep k5.wf k6 fun h => h) (fun e he => ?_) (by omega) ?_ ?_ ?_ ?_ ?_ ?_
    · obtain ⟨z, h1, h2, h3, h4, h5⟩ := hLe e he
      refine ⟨z, h1, h2, ?_, h5⟩
      rw [hct z h4 h2, w3.pb, ← h.pb, h3]; rfl
    all_goals simp -implicitDefEqProofs only [e5, e6, e9, ev_tm, ↓reduceIte, Nat.reduceEqDiff]
set_option maxRecDepth 20000 in
set_option maxHeartbeats 4000000 in
theorem twice_spec {x : AV} {X : List (AV × List Wr)} {nn : Int} (hw : Wf m) (hX : ScAt m x X) : WpF Tryz.prog tb fn_f3 [x, iv nn] m fun v _ => v = .b true := by
  have rW : Ran Tryz.prog tb fn_l9_wakes [] m (.b true) m := known_ran Tryz.func7 rfl
  have rS : Ran Tryz.prog tb fn_l9_small [] m (.agg smallP) m := known_ran Tryz.func8 rfl
  obtain ⟨m1, e1, a1, k1, n1⟩ := addZ_at hw ty_api_Plan 12 [iv 0, iv 0, iv 0, iv 0, iv 0, iv 0, iv 0, iv 0, iv 0, iv 0, iv 0, iv 0]
  obtain ⟨m2, e2, a2, k2, n2⟩ := a1.st k1.wf 0 smallP
  have a2 : At m2 m.next ty_api_Plan true smallP := a2
  have k02 : Keep m m2 fun _ => False := k1.trans k2 fun z hz e => by omega
  have q2 : m2.rdN m.next 0 12 = some smallP := a2.rdN (i := 0) (n := 12) (Nat.le_refl 12)
  have hX2 := hX.k0 hw k02
  refine WpF.go at_f3 ?_
  simp -implicitDefEqProofs only [o_f3, r_f3_0, r_f3_1, r_f3_3, r_f3_4, rW.eq, rS.eq, e1, e2, q2, ↓reduceIte, Nat.reduceEqDiff, Nat.reduceAdd, wA, wB, wC, wD]
  refine fresh_ds k2.wf fun m3 d cb lg mb S P d3 lv qt bd ok _ g3 p3 hp3 k3 => ?_
  have hX3 := hX2.kp k02.wf k3
  have a3 : At m3 m.next ty_api_Plan true smallP := a2.kp k02.wf k3
  have w3 : WtAt m3 d cb lg mb S 2 1 0 0 [] P := ⟨⟨d3, lv, qt, bd, ok⟩, g3, p3, hp3⟩
  simp -implicitDefEqProofs only [o_f3, r_f3_5, ↓reduceIte, Nat.reduceEqDiff, wA, wB, wC, wD]
  refine GX_loop (fun j fr mk => ∃ k S n seq tail used es P, k ≤ 10 ∧ j = 10 - k ∧ n ≤ 2 + 200 * k ∧ (ev (tm 0) fr = x ∧ ev (tm 1) fr = iv nn ∧ ev (tm 5) fr = .ptr m.next 0 ∧ ev (tm 6) fr = .ptr d 0 ∧ ev (tm 7) fr = .ptr lg 0 ∧ ev (tm 8) fr = iv (k : Nat)) ∧ WtAt mk d cb lg mb S n seq tail used es P ∧ At mk m.next ty_api_Plan true smallP ∧ ScAt mk x X ∧ Wf mk) (k := 10)
    ⟨0, S, 2, 1, 0, 0, [], P, Nat.zero_le _, rfl, Nat.le_refl _, by simp -implicitDefEqProofs only [nc0, ev_tm, ↓reduceIte, Nat.reduceEqDiff, nc0, and_self], w3, a3, hX3, k3.wf⟩ ?_
  rintro j fr mk ⟨k, Sk, n, seq, tail, used, es, Pk, hk, rfl, hn, ⟨e0, e1, e5, e6, e7, e8⟩, h, hP, hXk, hwk⟩
  by_cases hlt : k < X.length ∧ k < 10
  · obtain ⟨hl1, hl2⟩ := hlt
    obtain ⟨bx, cx, qx, hx1, hr⟩ := hXk.cell hl1
    have hd := hXk.dt _ (List.getElem_mem hl1)
    generalize X[k] = e at hr hd
    have hlx := hXk.len
    have e0' := e0
    rw [hx1] at e0' hlx
    simp -implicitDefEqProofs only [o_f3, r_f3_6, r_f3_8, e0', e7, e8, hlx, show ((k : Int) < (X.length : Int)) = True from eq_true (by omega), show ((k : Int) < 10) = True from eq_true (by omega), v_iaS 1 bx 0 X.length cx qx hl1, Nat.mul_one, hr, ↓reduceIte, Nat.reduceEqDiff, wA, wB, wC, wD]
    refine commit_wt hwk h (by omega) hd.1 hd.2 fun v m' S' seq' tail' used' es' P' h' k' => ?_
    simp -implicitDefEqProofs only [o_f3, r_f3_7, e8, b_add ty_int (show -9223372036854775808 ≤ (k : Int) + 1 by omega) (show (k : Int) + 1 ≤ 9223372036854775807 by omega), ↓reduceIte, Nat.reduceEqDiff, wA, wB, wC, wD]
    exact LK_n (k' := 10 - (k + 1)) (by omega) ⟨k + 1, S', n + 200, seq', tail', used', es', P', by omega, rfl, by omega, by simp -implicitDefEqProofs only [e0', e1, e5, e6, e7, hx1, show (k : Int) + 1 = ((k + 1 : Nat) : Int) from rfl, ev_tm, ↓reduceIte, Nat.reduceEqDiff, and_self], h', hP.kp hwk k', hXk.kp hwk k', k'.wf⟩
  · have h10 : ∀ {A : Prop}, (¬ (k : Int) < (X.length : Int) → A) → ((k : Int) < (X.length : Int) → ¬ (k : Int) < 10 → A) → A := fun h1 h2 => by
      by_cases hc : (k : Int) < (X.length : Int)
      · exact h2 hc fun h => hlt ⟨by omega, by omega⟩
      · exact h1 hc
    obtain ⟨m4, x4, L4, hx4, hL4, hd4, k4, r4⟩ := pending_ok hwk h.lg h.pm (by have := h.pm.len; omega)
    have h4 := h.k0 hwk k4
    have hP4 := hP.keep hwk k4 fun h => h
    have hlx := hXk.len
    have go : ∀ (fr : Fr) (N : Nat), N ≤ 5 → (ev (tm 1) fr = iv (N : Nat) ∧ ev (tm 5) fr = .ptr m.next 0 ∧ ev (tm 6) fr = .ptr d 0 ∧ ev (tm 7) fr = .ptr lg 0 ∧ ev (tm 9) fr = x4 ∧ ev (tm 10) fr = iv 0) →
        GX Tryz.prog tb (.loop k_f3_27) (BK 2 (SK Tryz.prog tb k_f3_38 (FK Tryz.prog [.tmp 4] okQ))) fr m4 := fun fr N hN ⟨f1, f5, f6, f7, f9, f10⟩ =>
      twice_B k4.wf h4 (by omega) hN hP4 hx4 hL4 f1 f5 f6 f7 f9 f10
    have hn3 : nn < 0 ∨ (0 ≤ nn ∧ 5 < nn) ∨ (0 ≤ nn ∧ nn ≤ 5) := by omega
    rcases hn3 with hn3 | ⟨hn3, hn4⟩ | ⟨hn3, hn4⟩
    · refine h10 (fun c1 => ?_) (fun c1 c2 => ?_)
      · simp -implicitDefEqProofs only [o_f3, r_f3_6, r_f3_9, r_f3_10, r_f3_11, r_f3_12, e0, e1, e7, e8, hlx, eq_false c1, eq_true hn3, r4.eq, ↓reduceIte, Nat.reduceEqDiff, wA, wB, wC, wD]
        exact go _ 2 (by omega) (by simp -implicitDefEqProofs only [e5, e6, e7, ev_tm, ↓reduceIte, Nat.reduceEqDiff, and_true, and_self]; exact rfl)
      · simp -implicitDefEqProofs only [o_f3, r_f3_6, r_f3_9, r_f3_10, r_f3_11, r_f3_12, e0, e1, e7, e8, hlx, eq_true c1, eq_false c2, eq_true hn3, r4.eq, ↓reduceIte, Nat.reduceEqDiff, wA, wB, wC, wD]
        exact go _ 2 (by omega) (by simp -implicitDefEqProofs only [e5, e6, e7, ev_tm, ↓reduceIte, Nat.reduceEqDiff, and_true, and_self]; exact rfl)
    · have c3 : ¬ nn < 0 := by omega
      refine h10 (fun c1 => ?_) (fun c1 c2 => ?_)
      · simp -implicitDefEqProofs only [o_f3, r_f3_6, r_f3_9, r_f3_10, r_f3_11, r_f3_12, e0, e1, e7, e8, hlx, eq_false c1, eq_false c3, eq_true hn4, r4.eq, ↓reduceIte, Nat.reduceEqDiff, wA, wB, wC, wD]
        exact go _ 2 (by omega) (by simp -implicitDefEqProofs only [e5, e6, e7, ev_tm, ↓reduceIte, Nat.reduceEqDiff, and_true, and_self]; exact rfl)
      · simp -implicitDefEqProofs only [o_f3, r_f3_6, r_f3_9, r_f3_10, r_f3_11, r_f3_12, e0, e1, e7, e8, hlx, eq_true c1, eq_false c2, eq_false c3, eq_true hn4, r4.eq, ↓reduceIte, Nat.reduceEqDiff, wA, wB, wC, wD]
        exact go _ 2 (by omega) (by simp -implicitDefEqProofs only [e5, e6, e7, ev_tm, ↓reduceIte, Nat.reduceEqDiff, and_true, and_self]; exact rfl)
    · have c3 : ¬ nn < 0 := by omega
      have c4 : ¬ 5 < nn := by omega
      obtain ⟨N, rfl⟩ : ∃ N : Nat, nn = (N : Int) := ⟨nn.toNat, by omega⟩
      refine h10 (fun c1 => ?_) (fun c1 c2 => ?_)
      · simp -implicitDefEqProofs only [o_f3, r_f3_6, r_f3_9, r_f3_11, r_f3_12, e0, e1, e7, e8, hlx, eq_false c1, eq_false c3, eq_false c4, r4.eq, ↓reduceIte, Nat.reduceEqDiff, wA, wB, wC, wD]
        exact go _ N (by omega) (by simp -implicitDefEqProofs only [e1, e5, e6, e7, ev_tm, ↓reduceIte, Nat.reduceEqDiff, and_self])
      · simp -implicitDefEqProofs only [o_f3, r_f3_6, r_f3_9, r_f3_11, r_f3_12, e0, e1, e7, e8, hlx, eq_true c1, eq_false c2, eq_false c3, eq_false c4, r4.eq, ↓reduceIte, Nat.reduceEqDiff, wA, wB, wC, wD]
        exact go _ N (by omega) (by simp -implicitDefEqProofs only [e1, e5, e6, e7, ev_tm, ↓reduceIte, Nat.reduceEqDiff, and_self])
end
end Go.Proofs.YthbfinjddaembaaGreat
