import Derived.Test.YthbfinjddaembaaGreatZe
set_option linter.unusedVariables false
set_option linter.unusedSimpArgs false
/- The law WalCrashes, walked: what comes behind the commits. -/
namespace Go.Proofs.YthbfinjddaembaaGreat
open Go Go.Am
structure StAt (m : M) (s : AV) (T : List Bs) : Prop where
  ex : ∃ b cap junk xt, s = .slice b 0 T.length cap false ∧ At m b ty_string xt (T.map tv ++ junk) ∧ junk.length = (cap - T.length) * 1 ∧ T.length ≤ cap ∧ 0 < cap
theorem StAt.kp {m m' : M} {s : AV} {T : List Bs} {E S : List Nat} (h : StAt m s T) (hw : Wf m) (k : KeepK m m' E S) (hE : ty_string + 1 ∉ E := by decide) : StAt m' s T := by
  obtain ⟨b, cap, junk, xt, h1, h2, h3, h4, h5⟩ := h.ex
  exact ⟨b, cap, junk, xt, h1, h2.kp hw k hE, h3, h4, h5⟩
theorem StAt.sl {m : M} {s : AV} {T : List Bs} (h : StAt m s T) : ∃ o, SlAt m ty_string 1 s T.length (T.map tv) (some o) := by
  obtain ⟨b, cap, junk, xt, rfl, h2, h3, h4, h5⟩ := h.ex
  exact ⟨b, .row h2 (by simp) h3 h4 h5⟩
theorem StAt.of {m : M} {s : AV} {T : List Bs} {o : Option Nat} (h : SlAt m ty_string 1 s T.length (T.map tv) o) (h0 : T ≠ []) : StAt m s T := by
  generalize hN : T.length = N at h
  generalize hC : T.map tv = C at h
  cases h with
  | nil => exact absurd (List.length_eq_zero_iff.1 hN) h0
  | row h1 h2 h3 h4 h5 =>
    subst hN hC
    exact ⟨_, _, _, _, rfl, h1, h3, h4, h5⟩
theorem StAt.cell {m : M} {s : AV} {T : List Bs} (h : StAt m s T) : lenK false s = some T.length ∧ ∀ k (hk : k < T.length), ∃ b cap, s = .slice b 0 T.length cap false ∧ m.rd b k = some (tv T[k]) := by
  obtain ⟨b, cap, junk, xt, rfl, h2, h3, h4, h5⟩ := h.ex
  refine ⟨rfl, fun k hk => ⟨b, cap, rfl, ?_⟩⟩
  rw [h2.rd, List.getElem?_append_left (by simpa using hk), List.getElem?_map, List.getElem?_eq_getElem hk]; rfl
theorem GoodC.cg {V f g : Nat → Bs} (h : GoodC V f) (e : ∀ b, b < 60 → g b = f b) : GoodC V g := by
  obtain ⟨s, t, u, es, h1, h2⟩ := h
  exact ⟨s, t, u, es, h1.congr fun j hj => e j (by omega), fun b h3 h4 => by rw [← h2 b h3 h4]; unfold Vw; rw [e b h4]⟩
structure PksAt (m : M) (x : AV) (Z : List (AV × List Int)) : Prop where
  len : lenK false x = some Z.length
  row : Z ≠ [] → ∃ b cap q, x = .slice b 0 Z.length cap q ∧ AtR m b (Z.map (·.1)) ∧ kd m b roK
  dt : ∀ e ∈ Z, PkAt m e.1 e.2
theorem PksAt.kp {m m' : M} {x : AV} {Z : List (AV × List Int)} {E S : List Nat} (h : PksAt m x Z) (hw : Wf m) (hk : KeepK m m' E S) (hR : roK ∉ E := by decide) : PksAt m' x Z := by
  refine ⟨h.len, fun hn => ?_, fun e he => (h.dt e he).kp hw hk hR⟩
  obtain ⟨b, cap, q, h1, h2, h3⟩ := h.row hn
  have hg := hk.get b (AtR.lt' h2 hw) (Kinds.not h3 hR (by decide))
  exact ⟨b, cap, q, h1, h2.of_get hg, h3.of_get hg⟩
theorem PksAt.cell {m : M} {x : AV} {Z : List (AV × List Int)} (h : PksAt m x Z) {k : Nat} (hk : k < Z.length) : ∃ b cap q, x = .slice b 0 Z.length cap q ∧ m.rd b k = some Z[k].1 := by
  obtain ⟨b, cap, q, h1, h2, _⟩ := h.row (fun e => by subst e; cases hk)
  refine ⟨b, cap, q, h1, ?_⟩
  rw [h2.rd, List.getElem?_map, List.getElem?_eq_getElem hk]; rfl
theorem PkAt.cell {m : M} {x : AV} {zs : List Int} (h : PkAt m x zs) {k : Nat} (hk : k < zs.length) : ∃ p : Nat × Nat, rIaS 1 (.cst x) (.cst (iv (k : Nat))) .leaf m = some (.ptr p.1 p.2, m) ∧ m.rd p.1 p.2 = some (iv zs[k]) := by
  obtain ⟨b, off, cap, cells, rfl, h2, h3, h5, h4⟩ := h.row (fun e => by subst e; cases hk)
  refine ⟨(b, off + k), ?_, ?_⟩
  · have := v_iaS (m := m) 1 b off zs.length cap true hk
    rwa [Nat.mul_one] at this
  · rw [h5.rd]; exact h4 k hk
section
variable {m : M}
theorem crashes_C {fr : Fr} {st y : AV} {T : List Bs} {A : Bs} {b : Nat} (hw : Wf m) (hst : StAt m st T) (hy : BtU m y A b) (hl : T.length ≤ 100000) {i0 : Nat} (hi0 : T[i0]? = some A) (e14 : ev (tm 14) fr = st) (e24 : ev (tm 24) fr = y) (e25 : ev (tm 25) fr = iv 0) :
    GX Tryz.prog tb (.loop k_f5_93) (BK 4 (SK Tryz.prog tb k_f5_102 (FK Tryz.prog [.tmp 8] okQ))) fr m := by
  have hlt0 := (List.getElem?_eq_some_iff.1 hi0).1
  refine GX_loop (fun j fr mk => ∃ k, k ≤ i0 ∧ j = i0 - k ∧ (ev (tm 14) fr = st ∧ ev (tm 24) fr = y ∧ ev (tm 25) fr = iv (k : Nat)) ∧ mk = m) (k := i0) ⟨0, Nat.zero_le _, rfl, by simp -implicitDefEqProofs only [e14, e24, e25, nc0, nc0, and_self], rfl⟩ ?_
  clear e14 e24 e25
  rintro j fr mk ⟨k, hk, rfl, ⟨e14, e24, e25⟩, rfl⟩
  obtain ⟨hlen, hcell⟩ := hst.cell
  have hkT : k < T.length := by omega
  obtain ⟨sb, sc, hse, hr⟩ := hcell k hkT
  have e14' := e14
  have hlen' := hlen
  rw [hse] at e14' hlen'
  by_cases hAk : A = T[k]
  · rw [← hAk] at hr
    simp -implicitDefEqProofs only [o_f5, r_f5_50, r_f5_52, r_f5_53, e14', e24, e25, hlen', show ((k : Int) < (T.length : Int)) = True from eq_true (by omega), hy.bs.run_b2s, v_iaS 1 sb 0 T.length sc false hkT, Nat.mul_one, hr, ↓reduceIte, Nat.reduceEqDiff, exists_eq_left', wA, wB, wC, wD]
  · have hki : k < i0 := by
      refine Nat.lt_of_le_of_ne hk fun e => hAk ?_
      subst e
      rw [List.getElem?_eq_getElem hkT] at hi0
      exact (Option.some.inj hi0).symm
    generalize T[k] = t at hr hAk
    simp -implicitDefEqProofs only [o_f5, r_f5_50, r_f5_52, r_f5_51, e14', e24, e25, hlen', show ((k : Int) < (T.length : Int)) = True from eq_true (by omega), hy.bs.run_b2s, v_iaS 1 sb 0 T.length sc false hkT, Nat.mul_one, hr, eq_false hAk, b_add ty_int (show -9223372036854775808 ≤ (k : Int) + 1 by omega) (show (k : Int) + 1 ≤ 9223372036854775807 by omega), ↓reduceIte, Nat.reduceEqDiff, exists_eq_left', wA, wB, wC, wD]
    exact LK_n (k' := i0 - (k + 1)) (by omega) ⟨k + 1, by omega, rfl, by simp -implicitDefEqProofs only [e14', e24, hse, show (k : Int) + 1 = ((k + 1 : Nat) : Int) from rfl, ev_tm, ↓reduceIte, Nat.reduceEqDiff, and_self], rfl⟩
structure PoAt (m : M) (d cb : Nat) (S : Ds) (n : Nat) (Vs : List (Nat → Bs)) : Prop where
  ds : DsAt m d cb S
  bd : S.Bd n 200
  gd : ∀ f, Cand S.L f → ∃ V ∈ Vs, GoodC V f
set_option maxRecDepth 20000 in
set_option maxHeartbeats 4000000 in
theorem crashes_B {fr : Fr} {d cb PB n : Nat} {S : Ds} {Vs : List (Nat → Bs)} {st px ax : AV} {Z : List (AV × List Int)} {zs : List Int} (hw : Wf m) (h : PoAt m d cb S n Vs) (hn : n ≤ 10000) (hP : At m PB ty_api_Plan true smallP) (hst : StAt m st (Vs.map imgB)) (hVl : Vs.length ≤ 100) (hpx : PksAt m px Z) (hax : PkAt m ax zs)
    (hzs : ∀ z ∈ zs, z ≤ 9223372036854775807) (e2 : ev (tm 2) fr = px) (e3 : ev (tm 3) fr = ax) (e9 : ev (tm 9) fr = .ptr PB 0) (e10 : ev (tm 10) fr = .ptr d 0) (e14 : ev (tm 14) fr = st) (e17 : ev (tm 17) fr = iv 0) :
    GX Tryz.prog tb (.loop k_f5_52) (BK 2 (SK Tryz.prog tb k_f5_77 (FK Tryz.prog [.tmp 8] okQ))) fr m := by
  refine GX_loop (fun j fr mk => ∃ k S n, k ≤ 6 ∧ j = 6 - k ∧ n ≤ 10000 + 63 * k ∧ (ev (tm 2) fr = px ∧ ev (tm 3) fr = ax ∧ ev (tm 9) fr = .ptr PB 0 ∧ ev (tm 10) fr = .ptr d 0 ∧ ev (tm 14) fr = st ∧ ev (tm 17) fr = iv (k : Nat)) ∧ PoAt mk d cb S n Vs ∧ At mk PB ty_api_Plan true smallP ∧ StAt mk st (Vs.map imgB) ∧ PksAt mk px Z ∧ PkAt mk ax zs ∧ Wf mk) (k := 6) ⟨0, S, n, Nat.zero_le _, rfl, hn, by simp -implicitDefEqProofs only [e2, e3, e9, e10, e14, e17, nc0, nc0, and_self], h, hP, hst, hpx, hax, hw⟩ ?_
  clear e2 e3 e9 e10 e14 e17 h hP hst hpx hax hw hn
  rintro j fr mk ⟨k, S, n, hk, rfl, hn, ⟨e2, e3, e9, e10, e14, e17⟩, h, hP, hst, hpx, hax, hw⟩
  have hal := hax.len
  have hpl := hpx.len
  by_cases hgo : k ≤ zs.length ∧ k < 6
  · obtain ⟨hg1, hg2⟩ := hgo
    by_cases c0 : k < Z.length
    · obtain ⟨zb, zc, zq, hze, hzr⟩ := hpx.cell c0
      have hpk := hpx.dt _ (List.getElem_mem c0)
      generalize Z[k] = pe at hzr hpk
      have e2' := e2
      have hpl' := hpl
      rw [hze] at e2' hpl'
      simp -implicitDefEqProofs only [o_f5, r_f5_27, r_f5_29, r_f5_30, r_f5_31, r_f5_32, e2', e3, e10, e17, hal, hpl', show ((k : Int) ≤ (zs.length : Int)) = True from eq_true (by omega), show ((k : Int) < 6) = True from eq_true (by omega), show ((k : Int) < (Z.length : Int)) = True from eq_true (by omega), v_iaS 1 zb 0 Z.length zc zq c0, Nat.mul_one, hzr, ↓reduceIte, Nat.reduceEqDiff, wA, wB, wC, wD]
      refine ds_crash hw h.ds h.bd (by omega) hpk fun m2 S2 f d2 lv hc hR hB k2 => ?_
      obtain ⟨V, hV, hG⟩ := h.gd f hc
      have hP2 := hP.kp hw k2
      have q2 : m2.rdN PB 0 12 = some smallP := hP2.rdN (i := 0) (n := 12) (Nat.le_refl 12)
      have hax2 := hax.kp hw k2
      by_cases c1 : k < zs.length
      · obtain ⟨pp, hi, hr⟩ := hax2.cell c1
        have hzm := hzs _ (List.getElem_mem c1)
        generalize zs[k] = z at hr hzm
        by_cases c2 : 0 ≤ z
        · by_cases c3 : (k : Int) < 5
          · obtain ⟨m3, d3, k3, r3⟩ := ds_fuse k2.wf d2 hB lv.de c2 hzm
            have hB1 := hB.f1
            have hBf : ({ S2 with fused := true, fuse := z } : Ds).Bd n 0 := ⟨hB.len, by show -(n : Int) ≤ z; omega, hzm, hB.w1, hB.w2, hB.wt, hB.b1, hB.b2⟩
            have k23 := k2.tk k3
            have q3 : m3.rdN PB 0 12 = some smallP := (hP2.kp k2.wf k3).rdN (i := 0) (n := 12) (Nat.le_refl 12)
            simp -implicitDefEqProofs only [o_f5, r_f5_33, r_f5_34, r_f5_35, e3, e9, e10, e17, hal, show ((k : Int) < (zs.length : Int)) = True from eq_true (by omega), hi, hr, eq_true c2, eq_true c3, r3.eq, q3, ↓reduceIte, Nat.reduceEqDiff, wA, wB, wC, wD]
            refine cr_open k23.wf d3 lv.de hR hBf hG fun m4 lg mb seq tail used es P c4 hV4 _ _ k4 => ?_
            simp -implicitDefEqProofs only [o_f5, r_f5_36, r_f5_38, b_nnil, ↓reduceIte, Nat.reduceEqDiff, wA, wB, wC, wD]
            refine cr_apply k4.wf c4 (by omega) (fun m5 S5 hf d5 hd5 hB5 hG5 k5 => ?_) (fun m5 S5 c' tl us P' c5 hV5 k5 => ?_)
            · have rdead := dead_ran d5
              rw [hd5] at rdead
              simp -implicitDefEqProofs only [o_f5, r_f5_39, r_f5_28, e10, e17, rdead.eq, eq70, b_add ty_int (show -9223372036854775808 ≤ (k : Int) + 1 by omega) (show (k : Int) + 1 ≤ 9223372036854775807 by omega), ↓reduceIte, Nat.reduceEqDiff, wA, wB, wC, wD]
              exact LK_n (k' := 6 - (k + 1)) (by omega) ⟨k + 1, S5, n + 63, by omega, rfl, by omega, by simp -implicitDefEqProofs only [e2, e3, e9, e10, e14, show (k : Int) + 1 = ((k + 1 : Nat) : Int) from rfl, ev_tm, ↓reduceIte, Nat.reduceEqDiff, and_self], ⟨d5, hB5.mono (by omega) (by omega), fun f hf => ⟨V, hV, (hG5 f hf).congr hV4⟩⟩, ((hP.kp hw k23).keep k23.wf k4 fun h => h).kp k4.wf k5, ((hst.kp hw k23).kp k23.wf (E := []) (S := []) k4.k0).kp k4.wf k5, ((hpx.kp hw k23).kp k23.wf (E := []) (S := []) k4.k0).kp k4.wf k5, ((hax.kp hw k23).kp k23.wf (E := []) (S := []) k4.k0).kp k4.wf k5, k5.wf⟩
            · simp -implicitDefEqProofs only [o_f5, r_f5_39, r_f5_28, e17, b_add ty_int (show -9223372036854775808 ≤ (k : Int) + 1 by omega) (show (k : Int) + 1 ≤ 9223372036854775807 by omega), ↓reduceIte, Nat.reduceEqDiff, wA, wB, wC, wD]
              exact LK_n (k' := 6 - (k + 1)) (by omega) ⟨k + 1, S5, n + 63, by omega, rfl, by omega, by simp -implicitDefEqProofs only [e2, e3, e9, e10, e14, show (k : Int) + 1 = ((k + 1 : Nat) : Int) from rfl, ev_tm, ↓reduceIte, Nat.reduceEqDiff, and_self], ⟨c5.ds, c5.bd.mono (by omega) (by omega), fun f hf => ⟨V, hV, GoodC.cg ⟨_, _, _, _, c5.ok, fun b h1 h2 => (hV5 b h1 h2).trans (hV4 b h1 h2)⟩ fun b hb => c5.rs.cand hf b hb⟩⟩, ((hP.kp hw k23).keep k23.wf k4 fun h => h).kp k4.wf k5, ((hst.kp hw k23).kp k23.wf (E := []) (S := []) k4.k0).kp k4.wf k5, ((hpx.kp hw k23).kp k23.wf (E := []) (S := []) k4.k0).kp k4.wf k5, ((hax.kp hw k23).kp k23.wf (E := []) (S := []) k4.k0).kp k4.wf k5, k5.wf⟩
          · simp -implicitDefEqProofs only [o_f5, r_f5_33, r_f5_35, e3, e9, e10, e17, hal, show ((k : Int) < (zs.length : Int)) = True from eq_true (by omega), hi, hr, eq_true c2, eq_false c3, q2, ↓reduceIte, Nat.reduceEqDiff, wA, wB, wC, wD]
            refine cr_open k2.wf d2 lv.de hR hB hG fun m4 lg mb seq tail used es P c4 hV4 _ _ k4 => ?_
            simp -implicitDefEqProofs only [o_f5, r_f5_36, r_f5_38, b_nnil, ↓reduceIte, Nat.reduceEqDiff, wA, wB, wC, wD]
            refine cr_apply k4.wf c4 (by omega) (fun m5 S5 hf d5 hd5 hB5 hG5 k5 => ?_) (fun m5 S5 c' tl us P' c5 hV5 k5 => ?_)
            · have rdead := dead_ran d5
              rw [hd5] at rdead
              simp -implicitDefEqProofs only [o_f5, r_f5_39, r_f5_28, e10, e17, rdead.eq, eq70, b_add ty_int (show -9223372036854775808 ≤ (k : Int) + 1 by omega) (show (k : Int) + 1 ≤ 9223372036854775807 by omega), ↓reduceIte, Nat.reduceEqDiff, wA, wB, wC, wD]
              exact LK_n (k' := 6 - (k + 1)) (by omega) ⟨k + 1, S5, n + 63, by omega, rfl, by omega, by simp -implicitDefEqProofs only [e2, e3, e9, e10, e14, show (k : Int) + 1 = ((k + 1 : Nat) : Int) from rfl, ev_tm, ↓reduceIte, Nat.reduceEqDiff, and_self], ⟨d5, hB5.mono (by omega) (by omega), fun f hf => ⟨V, hV, (hG5 f hf).congr hV4⟩⟩, ((hP.kp hw k2).keep k2.wf k4 fun h => h).kp k4.wf k5, ((hst.kp hw k2).kp k2.wf (E := []) (S := []) k4.k0).kp k4.wf k5, ((hpx.kp hw k2).kp k2.wf (E := []) (S := []) k4.k0).kp k4.wf k5, ((hax.kp hw k2).kp k2.wf (E := []) (S := []) k4.k0).kp k4.wf k5, k5.wf⟩
            · simp -implicitDefEqProofs only [o_f5, r_f5_39, r_f5_28, e17, b_add ty_int (show -9223372036854775808 ≤ (k : Int) + 1 by omega) (show (k : Int) + 1 ≤ 9223372036854775807 by omega), ↓reduceIte, Nat.reduceEqDiff, wA, wB, wC, wD]
              exact LK_n (k' := 6 - (k + 1)) (by omega) ⟨k + 1, S5, n + 63, by omega, rfl, by omega, by simp -implicitDefEqProofs only [e2, e3, e9, e10, e14, show (k : Int) + 1 = ((k + 1 : Nat) : Int) from rfl, ev_tm, ↓reduceIte, Nat.reduceEqDiff, and_self], ⟨c5.ds, c5.bd.mono (by omega) (by omega), fun f hf => ⟨V, hV, GoodC.cg ⟨_, _, _, _, c5.ok, fun b h1 h2 => (hV5 b h1 h2).trans (hV4 b h1 h2)⟩ fun b hb => c5.rs.cand hf b hb⟩⟩, ((hP.kp hw k2).keep k2.wf k4 fun h => h).kp k4.wf k5, ((hst.kp hw k2).kp k2.wf (E := []) (S := []) k4.k0).kp k4.wf k5, ((hpx.kp hw k2).kp k2.wf (E := []) (S := []) k4.k0).kp k4.wf k5, ((hax.kp hw k2).kp k2.wf (E := []) (S := []) k4.k0).kp k4.wf k5, k5.wf⟩
        · simp -implicitDefEqProofs only [o_f5, r_f5_33, r_f5_35, e3, e9, e10, e17, hal, show ((k : Int) < (zs.length : Int)) = True from eq_true (by omega), hi, hr, eq_false c2, q2, ↓reduceIte, Nat.reduceEqDiff, wA, wB, wC, wD]
          refine cr_open k2.wf d2 lv.de hR hB hG fun m4 lg mb seq tail used es P c4 hV4 _ _ k4 => ?_
          simp -implicitDefEqProofs only [o_f5, r_f5_36, r_f5_38, b_nnil, ↓reduceIte, Nat.reduceEqDiff, wA, wB, wC, wD]
          refine cr_apply k4.wf c4 (by omega) (fun m5 S5 hf d5 hd5 hB5 hG5 k5 => ?_) (fun m5 S5 c' tl us P' c5 hV5 k5 => ?_)
          · have rdead := dead_ran d5
            rw [hd5] at rdead
            simp -implicitDefEqProofs only [o_f5, r_f5_39, r_f5_28, e10, e17, rdead.eq, eq70, b_add ty_int (show -9223372036854775808 ≤ (k : Int) + 1 by omega) (show (k : Int) + 1 ≤ 9223372036854775807 by omega), ↓reduceIte, Nat.reduceEqDiff, wA, wB, wC, wD]
            exact LK_n (k' := 6 - (k + 1)) (by omega) ⟨k + 1, S5, n + 63, by omega, rfl, by omega, by simp -implicitDefEqProofs only [e2, e3, e9, e10, e14, show (k : Int) + 1 = ((k + 1 : Nat) : Int) from rfl, ev_tm, ↓reduceIte, Nat.reduceEqDiff, and_self], ⟨d5, hB5.mono (by omega) (by omega), fun f hf => ⟨V, hV, (hG5 f hf).congr hV4⟩⟩, ((hP.kp hw k2).keep k2.wf k4 fun h => h).kp k4.wf k5, ((hst.kp hw k2).kp k2.wf (E := []) (S := []) k4.k0).kp k4.wf k5, ((hpx.kp hw k2).kp k2.wf (E := []) (S := []) k4.k0).kp k4.wf k5, ((hax.kp hw k2).kp k2.wf (E := []) (S := []) k4.k0).kp k4.wf k5, k5.wf⟩
          · simp -implicitDefEqProofs only [o_f5, r_f5_39, r_f5_28, e17, b_add ty_int (show -9223372036854775808 ≤ (k : Int) + 1 by omega) (show (k : Int) + 1 ≤ 9223372036854775807 by omega), ↓reduceIte, Nat.reduceEqDiff, wA, wB, wC, wD]
            exact LK_n (k' := 6 - (k + 1)) (by omega) ⟨k + 1, S5, n + 63, by omega, rfl, by omega, by simp -implicitDefEqProofs only [e2, e3, e9, e10, e14, show (k : Int) + 1 = ((k + 1 : Nat) : Int) from rfl, ev_tm, ↓reduceIte, Nat.reduceEqDiff, and_self], ⟨c5.ds, c5.bd.mono (by omega) (by omega), fun f hf => ⟨V, hV, GoodC.cg ⟨_, _, _, _, c5.ok, fun b h1 h2 => (hV5 b h1 h2).trans (hV4 b h1 h2)⟩ fun b hb => c5.rs.cand hf b hb⟩⟩, ((hP.kp hw k2).keep k2.wf k4 fun h => h).kp k4.wf k5, ((hst.kp hw k2).kp k2.wf (E := []) (S := []) k4.k0).kp k4.wf k5, ((hpx.kp hw k2).kp k2.wf (E := []) (S := []) k4.k0).kp k4.wf k5, ((hax.kp hw k2).kp k2.wf (E := []) (S := []) k4.k0).kp k4.wf k5, k5.wf⟩
      · simp -implicitDefEqProofs only [o_f5, r_f5_33, r_f5_35, e3, e9, e10, e17, hal, show ((k : Int) < (zs.length : Int)) = False from eq_false (by omega), q2, ↓reduceIte, Nat.reduceEqDiff, wA, wB, wC, wD]
        refine cr_open k2.wf d2 lv.de hR hB hG fun m4 lg mb seq tail used es P c4 hV4 _ _ k4 => ?_
        simp -implicitDefEqProofs only [o_f5, r_f5_36, r_f5_38, b_nnil, ↓reduceIte, Nat.reduceEqDiff, wA, wB, wC, wD]
        refine cr_apply k4.wf c4 (by omega) (fun m5 S5 hf d5 hd5 hB5 hG5 k5 => ?_) (fun m5 S5 c' tl us P' c5 hV5 k5 => ?_)
        · have rdead := dead_ran d5
          rw [hd5] at rdead
          simp -implicitDefEqProofs only [o_f5, r_f5_39, r_f5_28, e10, e17, rdead.eq, eq70, b_add ty_int (show -9223372036854775808 ≤ (k : Int) + 1 by omega) (show (k : Int) + 1 ≤ 9223372036854775807 by omega), ↓reduceIte, Nat.reduceEqDiff, wA, wB, wC, wD]
          exact LK_n (k' := 6 - (k + 1)) (by omega) ⟨k + 1, S5, n + 63, by omega, rfl, by omega, by simp -implicitDefEqProofs only [e2, e3, e9, e10, e14, show (k : Int) + 1 = ((k + 1 : Nat) : Int) from rfl, ev_tm, ↓reduceIte, Nat.reduceEqDiff, and_self], ⟨d5, hB5.mono (by omega) (by omega), fun f hf => ⟨V, hV, (hG5 f hf).congr hV4⟩⟩, ((hP.kp hw k2).keep k2.wf k4 fun h => h).kp k4.wf k5, ((hst.kp hw k2).kp k2.wf (E := []) (S := []) k4.k0).kp k4.wf k5, ((hpx.kp hw k2).kp k2.wf (E := []) (S := []) k4.k0).kp k4.wf k5, ((hax.kp hw k2).kp k2.wf (E := []) (S := []) k4.k0).kp k4.wf k5, k5.wf⟩
        · simp -implicitDefEqProofs only [o_f5, r_f5_39, r_f5_28, e17, b_add ty_int (show -9223372036854775808 ≤ (k : Int) + 1 by omega) (show (k : Int) + 1 ≤ 9223372036854775807 by omega), ↓reduceIte, Nat.reduceEqDiff, wA, wB, wC, wD]
          exact LK_n (k' := 6 - (k + 1)) (by omega) ⟨k + 1, S5, n + 63, by omega, rfl, by omega, by simp -implicitDefEqProofs only [e2, e3, e9, e10, e14, show (k : Int) + 1 = ((k + 1 : Nat) : Int) from rfl, ev_tm, ↓reduceIte, Nat.reduceEqDiff, and_self], ⟨c5.ds, c5.bd.mono (by omega) (by omega), fun f hf => ⟨V, hV, GoodC.cg ⟨_, _, _, _, c5.ok, fun b h1 h2 => (hV5 b h1 h2).trans (hV4 b h1 h2)⟩ fun b hb => c5.rs.cand hf b hb⟩⟩, ((hP.kp hw k2).keep k2.wf k4 fun h => h).kp k4.wf k5, ((hst.kp hw k2).kp k2.wf (E := []) (S := []) k4.k0).kp k4.wf k5, ((hpx.kp hw k2).kp k2.wf (E := []) (S := []) k4.k0).kp k4.wf k5, ((hax.kp hw k2).kp k2.wf (E := []) (S := []) k4.k0).kp k4.wf k5, k5.wf⟩
    · simp -implicitDefEqProofs only [o_f5, r_f5_27, r_f5_29, r_f5_30, r_f5_32, e2, e3, e10, e17, hal, hpl, show ((k : Int) ≤ (zs.length : Int)) = True from eq_true (by omega), show ((k : Int) < 6) = True from eq_true (by omega), show ((k : Int) < (Z.length : Int)) = False from eq_false (by omega), ↓reduceIte, Nat.reduceEqDiff, wA, wB, wC, wD]
      refine ds_crash hw h.ds h.bd (by omega) (zs := []) ⟨rfl, fun h => absurd rfl h⟩ fun m2 S2 f d2 lv hc hR hB k2 => ?_
      obtain ⟨V, hV, hG⟩ := h.gd f hc
      have hP2 := hP.kp hw k2
      have q2 : m2.rdN PB 0 12 = some smallP := hP2.rdN (i := 0) (n := 12) (Nat.le_refl 12)
      have hax2 := hax.kp hw k2
      by_cases c1 : k < zs.length
      · obtain ⟨pp, hi, hr⟩ := hax2.cell c1
        have hzm := hzs _ (List.getElem_mem c1)
        generalize zs[k] = z at hr hzm
        by_cases c2 : 0 ≤ z
        · by_cases c3 : (k : Int) < 5
          · obtain ⟨m3, d3, k3, r3⟩ := ds_fuse k2.wf d2 hB lv.de c2 hzm
            have hB1 := hB.f1
            have hBf : ({ S2 with fused := true, fuse := z } : Ds).Bd n 0 := ⟨hB.len, by show -(n : Int) ≤ z; omega, hzm, hB.w1, hB.w2, hB.wt, hB.b1, hB.b2⟩
            have k23 := k2.tk k3
            have q3 : m3.rdN PB 0 12 = some smallP := (hP2.kp k2.wf k3).rdN (i := 0) (n := 12) (Nat.le_refl 12)
            simp -implicitDefEqProofs only [o_f5, r_f5_33, r_f5_34, r_f5_35, e3, e9, e10, e17, hal, show ((k : Int) < (zs.length : Int)) = True from eq_true (by omega), hi, hr, eq_true c2, eq_true c3, r3.eq, q3, ↓reduceIte, Nat.reduceEqDiff, wA, wB, wC, wD]
            refine cr_open k23.wf d3 lv.de hR hBf hG fun m4 lg mb seq tail used es P c4 hV4 _ _ k4 => ?_
            simp -implicitDefEqProofs only [o_f5, r_f5_36, r_f5_38, b_nnil, ↓reduceIte, Nat.reduceEqDiff, wA, wB, wC, wD]
            refine cr_apply k4.wf c4 (by omega) (fun m5 S5 hf d5 hd5 hB5 hG5 k5 => ?_) (fun m5 S5 c' tl us P' c5 hV5 k5 => ?_)
            · have rdead := dead_ran d5
              rw [hd5] at rdead
              simp -implicitDefEqProofs only [o_f5, r_f5_39, r_f5_28, e10, e17, rdead.eq, eq70, b_add ty_int (show -9223372036854775808 ≤ (k : Int) + 1 by omega) (show (k : Int) + 1 ≤ 9223372036854775807 by omega), ↓reduceIte, Nat.reduceEqDiff, wA, wB, wC, wD]
              exact LK_n (k' := 6 - (k + 1)) (by omega) ⟨k + 1, S5, n + 63, by omega, rfl, by omega, by simp -implicitDefEqProofs only [e2, e3, e9, e10, e14, show (k : Int) + 1 = ((k + 1 : Nat) : Int) from rfl, ev_tm, ↓reduceIte, Nat.reduceEqDiff, and_self], ⟨d5, hB5.mono (by omega) (by omega), fun f hf => ⟨V, hV, (hG5 f hf).congr hV4⟩⟩, ((hP.kp hw k23).keep k23.wf k4 fun h => h).kp k4.wf k5, ((hst.kp hw k23).kp k23.wf (E := []) (S := []) k4.k0).kp k4.wf k5, ((hpx.kp hw k23).kp k23.wf (E := []) (S := []) k4.k0).kp k4.wf k5, ((hax.kp hw k23).kp k23.wf (E := []) (S := []) k4.k0).kp k4.wf k5, k5.wf⟩
            · simp -implicitDefEqProofs only [o_f5, r_f5_39, r_f5_28, e17, b_add ty_int (show -9223372036854775808 ≤ (k : Int) + 1 by omega) (show (k : Int) + 1 ≤ 9223372036854775807 by omega), ↓reduceIte, Nat.reduceEqDiff, wA, wB, wC, wD]
              exact LK_n (k' := 6 - (k + 1)) (by omega) ⟨k + 1, S5, n + 63, by omega, rfl, by omega, by simp -implicitDefEqProofs only [e2, e3, e9, e10, e14, show (k : Int) + 1 = ((k + 1 : Nat) : Int) from rfl, ev_tm, ↓reduceIte, Nat.reduceEqDiff, and_self], ⟨c5.ds, c5.bd.mono (by omega) (by omega), fun f hf => ⟨V, hV, GoodC.cg ⟨_, _, _, _, c5.ok, fun b h1 h2 => (hV5 b h1 h2).trans (hV4 b h1 h2)⟩ fun b hb => c5.rs.cand hf b hb⟩⟩, ((hP.kp hw k23).keep k23.wf k4 fun h => h).kp k4.wf k5, ((hst.kp hw k23).kp k23.wf (E := []) (S := []) k4.k0).kp k4.wf k5, ((hpx.kp hw k23).kp k23.wf (E := []) (S := []) k4.k0).kp k4.wf k5, ((hax.kp hw k23).kp k23.wf (E := []) (S := []) k4.k0).kp k4.wf k5, k5.wf⟩
          · simp -implicitDefEqProofs only [o_f5, r_f5_33, r_f5_35, e3, e9, e10, e17, hal, show ((k : Int) < (zs.length : Int)) = True from eq_true (by omega), hi, hr, eq_true c2, eq_false c3, q2, ↓reduceIte, Nat.reduceEqDiff, wA, wB, wC, wD]
            refine cr_open k2.wf d2 lv.de hR hB hG fun m4 lg mb seq tail used es P c4 hV4 _ _ k4 => ?_
            simp -implicitDefEqProofs only [o_f5, r_f5_36, r_f5_38, b_nnil, ↓reduceIte, Nat.reduceEqDiff, wA, wB, wC, wD]
            refine cr_apply k4.wf c4 (by omega) (fun m5 S5 hf d5 hd5 hB5 hG5 k5 => ?_) (fun m5 S5 c' tl us P' c5 hV5 k5 => ?_)
            · have rdead := dead_ran d5
              rw [hd5] at rdead
              simp -implicitDefEqProofs only [o_f5, r_f5_39, r_f5_28, e10, e17, rdead.eq, eq70, b_add ty_int (show -9223372036854775808 ≤ (k : Int) + 1 by omega) (show (k : Int) + 1 ≤ 9223372036854775807 by omega), ↓reduceIte, Nat.reduceEqDiff, wA, wB, wC, wD]
              exact LK_n (k' := 6 - (k + 1)) (by omega) ⟨k + 1, S5, n + 63, by omega, rfl, by omega, by simp -implicitDefEqProofs only [e2, e3, e9, e10, e14, show (k : Int) + 1 = ((k + 1 : Nat) : Int) from rfl, ev_tm, ↓reduceIte, Nat.reduceEqDiff, and_self], ⟨d5, hB5.mono (by omega) (by omega), fun f hf => ⟨V, hV, (hG5 f hf).congr hV4⟩⟩, ((hP.kp hw k2).keep k2.wf k4 fun h => h).kp k4.wf k5, ((hst.kp hw k2).kp k2.wf (E := []) (S := []) k4.k0).kp k4.wf k5, ((hpx.kp hw k2).kp k2.wf (E := []) (S := []) k4.k0).kp k4.wf k5, ((hax.kp hw k2).kp k2.wf (E := []) (S := []) k4.k0).kp k4.wf k5, k5.wf⟩
            · simp -implicitDefEqProofs only [o_f5, r_f5_39, r_f5_28, e17, b_add ty_int (show -9223372036854775808 ≤ (k : Int) + 1 by omega) (show (k : Int) + 1 ≤ 9223372036854775807 by omega), ↓reduceIte, Nat.reduceEqDiff, wA, wB, wC, wD]
              exact LK_n (k' := 6 - (k + 1)) (by omega) ⟨k + 1, S5, n + 63, by omega, rfl, by omega, by simp -implicitDefEqProofs only [e2, e3, e9, e10, e14, show (k : Int) + 1 = ((k + 1 : Nat) : Int) from rfl, ev_tm, ↓reduceIte, Nat.reduceEqDiff, and_self], ⟨c5.ds, c5.bd.mono (by omega) (by omega), fun f hf => ⟨V, hV, GoodC.cg ⟨_, _, _, _, c5.ok, fun b h1 h2 => (hV5 b h1 h2).trans (hV4 b h1 h2)⟩ fun b hb => c5.rs.cand hf b hb⟩⟩, ((hP.kp hw k2).keep k2.wf k4 fun h => h).kp k4.wf k5, ((hst.kp hw k2).kp k2.wf (E := []) (S := []) k4.k0).kp k4.wf k5, ((hpx.kp hw k2).kp k2.wf (E := []) (S := []) k4.k0).kp k4.wf k5, ((hax.kp hw k2).kp k2.wf (E := []) (S := []) k4.k0).kp k4.wf k5, k5.wf⟩
        · simp -implicitDefEqProofs only [o_f5, r_f5_33, r_f5_35, e3, e9, e10, e17, hal, show ((k : Int) < (zs.length : Int)) = True from eq_true (by omega), hi, hr, eq_false c2, q2, ↓reduceIte, Nat.reduceEqDiff, wA, wB, wC, wD]
          refine cr_open k2.wf d2 lv.de hR hB hG fun m4 lg mb seq tail used es P c4 hV4 _ _ k4 => ?_
          simp -implicitDefEqProofs only [o_f5, r_f5_36, r_f5_38, b_nnil, ↓reduceIte, Nat.reduceEqDiff, wA, wB, wC, wD]
          refine cr_apply k4.wf c4 (by omega) (fun m5 S5 hf d5 hd5 hB5 hG5 k5 => ?_) (fun m5 S5 c' tl us P' c5 hV5 k5 => ?_)
          · have rdead := dead_ran d5
            rw [hd5] at rdead
            simp -implicitDefEqProofs only [o_f5, r_f5_39, r_f5_28, e10, e17, rdead.eq, eq70, b_add ty_int (show -9223372036854775808 ≤ (k : Int) + 1 by omega) (show (k : Int) + 1 ≤ 9223372036854775807 by omega), ↓reduceIte, Nat.reduceEqDiff, wA, wB, wC, wD]
            exact LK_n (k' := 6 - (k + 1)) (by omega) ⟨k + 1, S5, n + 63, by omega, rfl, by omega, by simp -implicitDefEqProofs only [e2, e3, e9, e10, e14, show (k : Int) + 1 = ((k + 1 : Nat) : Int) from rfl, ev_tm, ↓reduceIte, Nat.reduceEqDiff, and_self], ⟨d5, hB5.mono (by omega) (by omega), fun f hf => ⟨V, hV, (hG5 f hf).congr hV4⟩⟩, ((hP.kp hw k2).keep k2.wf k4 fun h => h).kp k4.wf k5, ((hst.kp hw k2).kp k2.wf (E := []) (S := []) k4.k0).kp k4.wf k5, ((hpx.kp hw k2).kp k2.wf (E := []) (S := []) k4.k0).kp k4.wf k5, ((hax.kp hw k2).kp k2.wf (E := []) (S := []) k4.k0).kp k4.wf k5, k5.wf⟩
          · simp -implicitDefEqProofs only [o_f5, r_f5_39, r_f5_28, e17, b_add ty_int (show -9223372036854775808 ≤ (k : Int) + 1 by omega) (show (k : Int) + 1 ≤ 9223372036854775807 by omega), ↓reduceIte, Nat.reduceEqDiff, wA, wB, wC, wD]
            exact LK_n (k' := 6 - (k + 1)) (by omega) ⟨k + 1, S5, n + 63, by omega, rfl, by omega, by simp -implicitDefEqProofs only [e2, e3, e9, e10, e14, show (k : Int) + 1 = ((k + 1 : Nat) : Int) from rfl, ev_tm, ↓reduceIte, Nat.reduceEqDiff, and_self], ⟨c5.ds, c5.bd.mono (by omega) (by omega), fun f hf => ⟨V, hV, GoodC.cg ⟨_, _, _, _, c5.ok, fun b h1 h2 => (hV5 b h1 h2).trans (hV4 b h1 h2)⟩ fun b hb => c5.rs.cand hf b hb⟩⟩, ((hP.kp hw k2).keep k2.wf k4 fun h => h).kp k4.wf k5, ((hst.kp hw k2).kp k2.wf (E := []) (S := []) k4.k0).kp k4.wf k5, ((hpx.kp hw k2).kp k2.wf (E := []) (S := []) k4.k0).kp k4.wf k5, ((hax.kp hw k2).kp k2.wf (E := []) (S := []) k4.k0).kp k4.wf k5, k5.wf⟩
      · simp -implicitDefEqProofs only [o_f5, r_f5_33, r_f5_35, e3, e9, e10, e17, hal, show ((k : Int) < (zs.length : Int)) = False from eq_false (by omega), q2, ↓reduceIte, Nat.reduceEqDiff, wA, wB, wC, wD]
        refine cr_open k2.wf d2 lv.de hR hB hG fun m4 lg mb seq tail used es P c4 hV4 _ _ k4 => ?_
        simp -implicitDefEqProofs only [o_f5, r_f5_36, r_f5_38, b_nnil, ↓reduceIte, Nat.reduceEqDiff, wA, wB, wC, wD]
        refine cr_apply k4.wf c4 (by omega) (fun m5 S5 hf d5 hd5 hB5 hG5 k5 => ?_) (fun m5 S5 c' tl us P' c5 hV5 k5 => ?_)
        · have rdead := dead_ran d5
          rw [hd5] at rdead
          simp -implicitDefEqProofs only [o_f5, r_f5_39, r_f5_28, e10, e17, rdead.eq, eq70, b_add ty_int (show -9223372036854775808 ≤ (k : Int) + 1 by omega) (show (k : Int) + 1 ≤ 9223372036854775807 by omega), ↓reduceIte, Nat.reduceEqDiff, wA, wB, wC, wD]
          exact LK_n (k' := 6 - (k + 1)) (by omega) ⟨k + 1, S5, n + 63, by omega, rfl, by omega, by simp -implicitDefEqProofs only [e2, e3, e9, e10, e14, show (k : Int) + 1 = ((k + 1 : Nat) : Int) from rfl, ev_tm, ↓reduceIte, Nat.reduceEqDiff, and_self], ⟨d5, hB5.mono (by omega) (by omega), fun f hf => ⟨V, hV, (hG5 f hf).congr hV4⟩⟩, ((hP.kp hw k2).keep k2.wf k4 fun h => h).kp k4.wf k5, ((hst.kp hw k2).kp k2.wf (E := []) (S := []) k4.k0).kp k4.wf k5, ((hpx.kp hw k2).kp k2.wf (E := []) (S := []) k4.k0).kp k4.wf k5, ((hax.kp hw k2).kp k2.wf (E := []) (S := []) k4.k0).kp k4.wf k5, k5.wf⟩
        · simp -implicitDefEqProofs only [o_f5, r_f5_39, r_f5_28, e17, b_add ty_int (show -9223372036854775808 ≤ (k : Int) + 1 by omega) (show (k : Int) + 1 ≤ 9223372036854775807 by omega), ↓reduceIte, Nat.reduceEqDiff, wA, wB, wC, wD]
          exact LK_n (k' := 6 - (k + 1)) (by omega) ⟨k + 1, S5, n + 63, by omega, rfl, by omega, by simp -implicitDefEqProofs only [e2, e3, e9, e10, e14, show (k : Int) + 1 = ((k + 1 : Nat) : Int) from rfl, ev_tm, ↓reduceIte, Nat.reduceEqDiff, and_self], ⟨c5.ds, c5.bd.mono (by omega) (by omega), fun f hf => ⟨V, hV, GoodC.cg ⟨_, _, _, _, c5.ok, fun b h1 h2 => (hV5 b h1 h2).trans (hV4 b h1 h2)⟩ fun b hb => c5.rs.cand hf b hb⟩⟩, ((hP.kp hw k2).keep k2.wf k4 fun h => h).kp k4.wf k5, ((hst.kp hw k2).kp k2.wf (E := []) (S := []) k4.k0).kp k4.wf k5, ((hpx.kp hw k2).kp k2.wf (E := []) (S := []) k4.k0).kp k4.wf k5, ((hax.kp hw k2).kp k2.wf (E := []) (S := []) k4.k0).kp k4.wf k5, k5.wf⟩
  · have h10 : ∀ {A : Prop}, (¬ (k : Int) ≤ (zs.length : Int) → A) → ((k : Int) ≤ (zs.length : Int) → ¬ (k : Int) < 6 → A) → A := fun h1 h2 => by
      by_cases hc : (k : Int) ≤ (zs.length : Int)
      · exact h2 hc fun h => hgo ⟨by omega, by omega⟩
      · exact h1 hc
    refine h10 (fun c1 => ?_) (fun c1 c2 => ?_)
    · simp -implicitDefEqProofs only [o_f5, r_f5_27, r_f5_41, e3, e10, e17, hal, eq_false c1, ↓reduceIte, Nat.reduceEqDiff, wA, wB, wC, wD]
      refine ds_crash hw h.ds h.bd (by omega) (zs := []) ⟨rfl, fun h => absurd rfl h⟩ fun m2 S2 f d2 lv hc hR hB k2 => ?_
      obtain ⟨V, hV, hG⟩ := h.gd f hc
      have hP2 := hP.kp hw k2
      have q2 : m2.rdN PB 0 12 = some smallP := hP2.rdN (i := 0) (n := 12) (Nat.le_refl 12)
      simp -implicitDefEqProofs only [o_f5, r_f5_42, e9, e10, q2, ↓reduceIte, Nat.reduceEqDiff, wA, wB, wC, wD]
      refine cr_open k2.wf d2 lv.de hR hB hG fun m3 lg mb seq tail used es P c3 hV3 _ _ k3 => ?_
      simp -implicitDefEqProofs only [o_f5, r_f5_43, r_f5_45, b_nnil, ↓reduceIte, Nat.reduceEqDiff, wA, wB, wC, wD]
      refine cr_apply k3.wf c3 (by omega) (fun m' S' hf => by rw [lv.fu] at hf; cases hf) fun m4 S4 c' tl us P' c4 hV4 k4 => ?_
      have hP4 := (hP2.keep k2.wf k3 fun h => h).kp k3.wf k4
      have q4 : m4.rdN PB 0 12 = some smallP := hP4.rdN (i := 0) (n := 12) (Nat.le_refl 12)
      obtain ⟨m5, y, b, hy, hb, k5, r5⟩ := image_ds k4.wf c4.ds c4.bd (by omega) c4.de
      have hI : imgB S4.ct = imgB V := imgN_congr 49 fun i hi => by
        rw [c4.rs.ct (by omega)]
        have := hV4 (11 + i) (by omega) (by omega)
        rw [hV3 _ (by omega) (by omega)] at this
        exact this
      rw [hI] at hy
      simp -implicitDefEqProofs only [o_f5, r_f5_46, r_f5_47, r_f5_49, e9, e10, q4, r5.eq, ↓reduceIte, Nat.reduceEqDiff, wA, wB, wC, wD]
      obtain ⟨i0, hi0⟩ := List.getElem?_of_mem (List.mem_map_of_mem (f := imgB) hV)
      have hst5 := (((hst.kp hw k2).kp k2.wf (E := []) (S := []) k3.k0).kp k3.wf k4).kp k4.wf (E := []) (S := []) k5.k0
      exact crashes_C k5.wf hst5 hy (by rw [List.length_map]; omega) hi0 (by simp -implicitDefEqProofs only [e14, ev_tm, ↓reduceIte, Nat.reduceEqDiff]) (by simp -implicitDefEqProofs only [ev_tm, ↓reduceIte, Nat.reduceEqDiff]) (by simp -implicitDefEqProofs only [ev_tm, ↓reduceIte])
    · simp -implicitDefEqProofs only [o_f5, r_f5_27, r_f5_41, e3, e10, e17, hal, eq_true c1, eq_false c2, ↓reduceIte, Nat.reduceEqDiff, wA, wB, wC, wD]
      refine ds_crash hw h.ds h.bd (by omega) (zs := []) ⟨rfl, fun h => absurd rfl h⟩ fun m2 S2 f d2 lv hc hR hB k2 => ?_
      obtain ⟨V, hV, hG⟩ := h.gd f hc
      have hP2 := hP.kp hw k2
      have q2 : m2.rdN PB 0 12 = some smallP := hP2.rdN (i := 0) (n := 12) (Nat.le_refl 12)
      simp -implicitDefEqProofs only [o_f5, r_f5_42, e9, e10, q2, ↓reduceIte, Nat.reduceEqDiff, wA, wB, wC, wD]
      refine cr_open k2.wf d2 lv.de hR hB hG fun m3 lg mb seq tail used es P c3 hV3 _ _ k3 => ?_
      simp -implicitDefEqProofs only [o_f5, r_f5_43, r_f5_45, b_nnil, ↓reduceIte, Nat.reduceEqDiff, wA, wB, wC, wD]
      refine cr_apply k3.wf c3 (by omega) (fun m' S' hf => by rw [lv.fu] at hf; cases hf) fun m4 S4 c' tl us P' c4 hV4 k4 => ?_
      have hP4 := (hP2.keep k2.wf k3 fun h => h).kp k3.wf k4
      have q4 : m4.rdN PB 0 12 = some smallP := hP4.rdN (i := 0) (n := 12) (Nat.le_refl 12)
      obtain ⟨m5, y, b, hy, hb, k5, r5⟩ := image_ds k4.wf c4.ds c4.bd (by omega) c4.de
      have hI : imgB S4.ct = imgB V := imgN_congr 49 fun i hi => by
        rw [c4.rs.ct (by omega)]
        have := hV4 (11 + i) (by omega) (by omega)
        rw [hV3 _ (by omega) (by omega)] at this
        exact this
      rw [hI] at hy
      simp -implicitDefEqProofs only [o_f5, r_f5_46, r_f5_47, r_f5_49, e9, e10, q4, r5.eq, ↓reduceIte, Nat.reduceEqDiff, wA, wB, wC, wD]
      obtain ⟨i0, hi0⟩ := List.getElem?_of_mem (List.mem_map_of_mem (f := imgB) hV)
      have hst5 := (((hst.kp hw k2).kp k2.wf (E := []) (S := []) k3.k0).kp k3.wf k4).kp k4.wf (E := []) (S := []) k5.k0
      exact crashes_C k5.wf hst5 hy (by rw [List.length_map]; omega) hi0 (by simp -implicitDefEqProofs only [e14, ev_tm, ↓reduceIte, Nat.reduceEqDiff]) (by simp -implicitDefEqProofs only [ev_tm, ↓reduceIte, Nat.reduceEqDiff]) (by simp -implicitDefEqProofs only [ev_tm, ↓reduceIte])
end
end Go.Proofs.YthbfinjddaembaaGreat
